/- RingPlays: the functions that its law reaches, as plain functions, and that the machine's calls come to what these say. Conditions: those that stand at each. -/
import Derived.Test.YtdliomkoagfocaaProg
import Derived.Test.YtdliomkoagfocaaMore
set_option linter.all false
namespace Go.Proofs.Ytdliomkoagfocaa
open Go.RowKit Go.Proofs.Ytdliomkoagfocaa.Sep Go.Proofs.Ytdliomkoagfocaa.Walk
theorem inf3 : (Try.prog.info? 3).map (·.size) = some 1 := by kernel_rfl
theorem inf4 : (Try.prog.info? 4).map (·.size) = some 1 := by kernel_rfl
theorem inf5 : (Try.prog.info? 5).map (·.size) = some 1 := by kernel_rfl
theorem inf22 : (Try.prog.info? 22).map (·.size) = some 1 := by kernel_rfl
theorem inf23 : (Try.prog.info? 23).map (·.size) = some 1 := by kernel_rfl
theorem inf27 : (Try.prog.info? 27).map (·.size) = some 1 := by kernel_rfl
theorem inf38 : (Try.prog.info? 38).map (·.size) = some 3 := by kernel_rfl
theorem fo38_0 : fieldOff Try.prog 38 0 = some 0 := by kernel_rfl
theorem fo38_1 : fieldOff Try.prog 38 1 = some 1 := by kernel_rfl
theorem fo38_2 : fieldOff Try.prog 38 2 = some 2 := by kernel_rfl
theorem fo41_0 : fieldOff Try.prog 41 0 = some 0 := by kernel_rfl
theorem fo41_1 : fieldOff Try.prog 41 1 = some 1 := by kernel_rfl
theorem fo41_2 : fieldOff Try.prog 41 2 = some 2 := by kernel_rfl
theorem fo41_3 : fieldOff Try.prog 41 3 = some 3 := by kernel_rfl
theorem fo41_4 : fieldOff Try.prog 41 4 = some 4 := by kernel_rfl
theorem fo47_0 : fieldOff Try.prog 47 0 = some 0 := by kernel_rfl
theorem fo47_1 : fieldOff Try.prog 47 1 = some 1 := by kernel_rfl
theorem fo47_2 : fieldOff Try.prog 47 2 = some 2 := by kernel_rfl
theorem fo47_3 : fieldOff Try.prog 47 3 = some 3 := by kernel_rfl
theorem ap3 : (Try.prog.info? 3).map (fun i => (i.zero, i.size, i.bytes)) = some (some (.int .i64 0), 1, 8) := by kernel_rfl
theorem ap5 : (Try.prog.info? 5).map (fun i => (i.zero, i.size, i.bytes)) = some (some (.int .u8 0), 1, 1) := by kernel_rfl
theorem ap27 : (Try.prog.info? 27).map (fun i => (i.zero, i.size, i.bytes)) = some (some (.slice none 0 0), 1, 24) := by kernel_rfl
theorem ze38 : (Try.prog.info? 38).bind (·.zero) = some (Value.agg (#[Value.int .i64 (0), Value.int .i64 (0), Value.slice none 0 0])) := by kernel_rfl
theorem mo : Try.prog.follows .mixedOrders = true := by kernel_rfl

structure ring_Ring where
  room : Int
  b : List Int
  begun : Int
  pieces : List Int
  dropped : Int
deriving DecidableEq, Inhabited

def ring_Ring.at (b : Nat) (x : ring_Ring) : As := fun h => (True) ∧ ∃ a1 : Option Addr, ∃ c1 : Nat, ∃ a3 : Option Addr, ∃ c3 : Nat, Sp [blk b (#[Value.int .i64 ((x.room)), Value.slice a1 ((x.b)).length c1, Value.int .i64 ((x.begun)), Value.slice a3 ((x.pieces)).length c3, Value.int .i64 ((x.dropped))]) 41, row 5 1 (.slice a1 ((x.b)).length c1) ((x.b)).length (((x.b)).map (Value.int .u8)), row 3 1 (.slice a3 ((x.pieces)).length c3) ((x.pieces)).length (((x.pieces)).map (Value.int .i64))] h
theorem ring_Ring.open {b : Nat} {x : ring_Ring} {L : List As} {w0 w : World} (hs : Sep.St (ring_Ring.at b x :: L) w0 w) : ∃ a1 : Option Addr, ∃ c1 : Nat, ∃ a3 : Option Addr, ∃ c3 : Nat, (True) ∧ Sep.St (blk b (#[Value.int .i64 ((x.room)), Value.slice a1 ((x.b)).length c1, Value.int .i64 ((x.begun)), Value.slice a3 ((x.pieces)).length c3, Value.int .i64 ((x.dropped))]) 41 :: row 5 1 (.slice a1 ((x.b)).length c1) ((x.b)).length (((x.b)).map (Value.int .u8)) :: row 3 1 (.slice a3 ((x.pieces)).length c3) ((x.pieces)).length (((x.pieces)).map (Value.int .i64)) :: L) w0 w := by
  have h1 := St.pure.1 (show St ((fun h => (True) ∧ (fun h => ∃ a1 : Option Addr, ∃ c1 : Nat, ∃ a3 : Option Addr, ∃ c3 : Nat, Sp [blk b (#[Value.int .i64 ((x.room)), Value.slice a1 ((x.b)).length c1, Value.int .i64 ((x.begun)), Value.slice a3 ((x.pieces)).length c3, Value.int .i64 ((x.dropped))]) 41, row 5 1 (.slice a1 ((x.b)).length c1) ((x.b)).length (((x.b)).map (Value.int .u8)), row 3 1 (.slice a3 ((x.pieces)).length c3) ((x.pieces)).length (((x.pieces)).map (Value.int .i64))] h) h) :: L) w0 w from hs)
  obtain ⟨hi, hs⟩ := h1
  obtain ⟨a1, hs⟩ := St.ex.1 (show St ((fun h => ∃ a1 : Option Addr, (fun h => ∃ c1 : Nat, ∃ a3 : Option Addr, ∃ c3 : Nat, Sp [blk b (#[Value.int .i64 ((x.room)), Value.slice a1 ((x.b)).length c1, Value.int .i64 ((x.begun)), Value.slice a3 ((x.pieces)).length c3, Value.int .i64 ((x.dropped))]) 41, row 5 1 (.slice a1 ((x.b)).length c1) ((x.b)).length (((x.b)).map (Value.int .u8)), row 3 1 (.slice a3 ((x.pieces)).length c3) ((x.pieces)).length (((x.pieces)).map (Value.int .i64))] h) h) :: L) w0 w from hs)
  obtain ⟨c1, hs⟩ := St.ex.1 (show St ((fun h => ∃ c1 : Nat, (fun h => ∃ a3 : Option Addr, ∃ c3 : Nat, Sp [blk b (#[Value.int .i64 ((x.room)), Value.slice a1 ((x.b)).length c1, Value.int .i64 ((x.begun)), Value.slice a3 ((x.pieces)).length c3, Value.int .i64 ((x.dropped))]) 41, row 5 1 (.slice a1 ((x.b)).length c1) ((x.b)).length (((x.b)).map (Value.int .u8)), row 3 1 (.slice a3 ((x.pieces)).length c3) ((x.pieces)).length (((x.pieces)).map (Value.int .i64))] h) h) :: L) w0 w from hs)
  obtain ⟨a3, hs⟩ := St.ex.1 (show St ((fun h => ∃ a3 : Option Addr, (fun h => ∃ c3 : Nat, Sp [blk b (#[Value.int .i64 ((x.room)), Value.slice a1 ((x.b)).length c1, Value.int .i64 ((x.begun)), Value.slice a3 ((x.pieces)).length c3, Value.int .i64 ((x.dropped))]) 41, row 5 1 (.slice a1 ((x.b)).length c1) ((x.b)).length (((x.b)).map (Value.int .u8)), row 3 1 (.slice a3 ((x.pieces)).length c3) ((x.pieces)).length (((x.pieces)).map (Value.int .i64))] h) h) :: L) w0 w from hs)
  obtain ⟨c3, hs⟩ := St.ex.1 (show St ((fun h => ∃ c3 : Nat, (fun h => Sp [blk b (#[Value.int .i64 ((x.room)), Value.slice a1 ((x.b)).length c1, Value.int .i64 ((x.begun)), Value.slice a3 ((x.pieces)).length c3, Value.int .i64 ((x.dropped))]) 41, row 5 1 (.slice a1 ((x.b)).length c1) ((x.b)).length (((x.b)).map (Value.int .u8)), row 3 1 (.slice a3 ((x.pieces)).length c3) ((x.pieces)).length (((x.pieces)).map (Value.int .i64))] h) h) :: L) w0 w from hs)
  exact ⟨a1, c1, a3, c3, hi, St.open (m := [blk b (#[Value.int .i64 ((x.room)), Value.slice a1 ((x.b)).length c1, Value.int .i64 ((x.begun)), Value.slice a3 ((x.pieces)).length c3, Value.int .i64 ((x.dropped))]) 41, row 5 1 (.slice a1 ((x.b)).length c1) ((x.b)).length (((x.b)).map (Value.int .u8)), row 3 1 (.slice a3 ((x.pieces)).length c3) ((x.pieces)).length (((x.pieces)).map (Value.int .i64))]) hs⟩
theorem ring_Ring.close {b : Nat} (x : ring_Ring) {a1 : Option Addr} {c1 : Nat} {a3 : Option Addr} {c3 : Nat} {L : List As} {w0 w : World} (hi : True) (hs : Sep.St (blk b (#[Value.int .i64 ((x.room)), Value.slice a1 ((x.b)).length c1, Value.int .i64 ((x.begun)), Value.slice a3 ((x.pieces)).length c3, Value.int .i64 ((x.dropped))]) 41 :: row 5 1 (.slice a1 ((x.b)).length c1) ((x.b)).length (((x.b)).map (Value.int .u8)) :: row 3 1 (.slice a3 ((x.pieces)).length c3) ((x.pieces)).length (((x.pieces)).map (Value.int .i64)) :: L) w0 w) : Sep.St (ring_Ring.at b x :: L) w0 w := by
  have h2 := St.join (m := [blk b (#[Value.int .i64 ((x.room)), Value.slice a1 ((x.b)).length c1, Value.int .i64 ((x.begun)), Value.slice a3 ((x.pieces)).length c3, Value.int .i64 ((x.dropped))]) 41, row 5 1 (.slice a1 ((x.b)).length c1) ((x.b)).length (((x.b)).map (Value.int .u8)), row 3 1 (.slice a3 ((x.pieces)).length c3) ((x.pieces)).length (((x.pieces)).map (Value.int .i64))]) hs
  exact h2.mono fun h hh => ⟨hi, _, _, _, _, hh⟩

/-! ### signalman/ring.New: function 8 -/
def ring_New.f (a0 : Int) : Option (ring_Ring) := some (({ room := imax (0) (imin (a0) (1048576)), b := ([] : List Int), begun := 0, pieces := ([] : List Int), dropped := 0 } : ring_Ring))
set_option maxRecDepth 100000 in
set_option maxHeartbeats 4000000 in
theorem ring_New.calls (a0 : Int) (R : As) (w0 w : World)  (r : ring_Ring)  (H : ring_New.f a0 = some r) (HS : Sep.St [R] w0 w) : Calls Try.prog 8 #[Value.int .i64 (a0)] w (Ret fun u w => ∃ (bq0 : Nat), u = Value.pointer (some ⟨bq0, 0, none⟩) ∧ Sep.St [ring_Ring.at bq0 (r), R] w0 w) := by
  unfold ring_New.f at H
  refine calls_enter Try.func8 rfl rfl ?_
  have H : _ = some r := H
  refine V.seq ?_
  refine V.region ?_
  refine W.rd (X.assign rfl) rfl rfl rfl ?_
  refine W.nil ?_
  refine At.next ?_
  refine V.keep [(0, Value.int .i64 (a0))] ⟨rfl, trivial⟩ ?_
  refine V.seq ?_
  refine V.region ?_
  refine W.rd (X.move rfl) rfl rfl rfl ?_
  refine W.rd (X.min2 rfl rfl) rfl rfl rfl ?_
  refine W.rd (X.max2 rfl rfl) rfl rfl rfl ?_
  refine W.rd (X.build (vs := #[(0, Value.int .i64 (imax (0) (imin (a0) (1048576))))]) (v := Value.agg #[Value.int .i64 (imax (0) (imin (a0) (1048576))), Value.slice none 0 0, Value.int .i64 (0), Value.slice none 0 0, Value.int .i64 (0)]) (fun a ha => by simp only [List.map_toArray, List.map_cons, List.map_nil]; rw [ha.ev (x := .tmp 5) (v := Value.int .i64 (imax (0) (imin (a0) (1048576)))) rfl]; try rfl) (fun _ => by kernel_rfl)) rfl rfl rfl ?_
  refine W.ev (Y.box HS rfl) rfl rfl rfl ?_
  rintro _ w ⟨nb1, rfl, HS⟩
  have HS : Sep.St [blk nb1 (#[Value.int .i64 (imax (0) (imin (a0) (1048576))), Value.slice none 0 0, Value.int .i64 (0), Value.slice none 0 0, Value.int .i64 (0)]) 41, R] w0 w := HS
  refine W.rd (X.assign rfl) rfl rfl rfl ?_
  refine W.nil ?_
  refine At.next ?_
  refine V.keep [(2, Value.pointer (some ⟨nb1, 0, none⟩))] ⟨rfl, trivial⟩ ?_
  refine V.ret ?_
  replace HS := row_nil' (e := 5) 1 none HS
  have HS : Sep.St [row 5 1 (.slice none (([] : List Int)).length 0) (([] : List Int)).length ((([] : List Int)).map (Value.int .u8)), blk nb1 (#[Value.int .i64 (imax (0) (imin (a0) (1048576))), Value.slice none 0 0, Value.int .i64 (0), Value.slice none 0 0, Value.int .i64 (0)]) 41, R] w0 w := HS
  replace HS := row_nil' (e := 3) 1 none HS
  have HS : Sep.St [row 3 1 (.slice none (([] : List Int)).length 0) (([] : List Int)).length ((([] : List Int)).map (Value.int .i64)), row 5 1 (.slice none (([] : List Int)).length 0) (([] : List Int)).length ((([] : List Int)).map (Value.int .u8)), blk nb1 (#[Value.int .i64 (imax (0) (imin (a0) (1048576))), Value.slice none 0 0, Value.int .i64 (0), Value.slice none 0 0, Value.int .i64 (0)]) 41, R] w0 w := HS
  replace HS := HS.re [2, 1, 0, 3] (by kernel_rfl)
  have HS : Sep.St [blk nb1 (#[Value.int .i64 (imax (0) (imin (a0) (1048576))), Value.slice none (([] : List Int)).length 0, Value.int .i64 (0), Value.slice none (([] : List Int)).length 0, Value.int .i64 (0)]) 41, row 5 1 (.slice none (([] : List Int)).length 0) (([] : List Int)).length ((([] : List Int)).map (Value.int .u8)), row 3 1 (.slice none (([] : List Int)).length 0) (([] : List Int)).length ((([] : List Int)).map (Value.int .i64)), R] w0 w := HS
  replace HS := ring_Ring.close (({ room := imax (0) (imin (a0) (1048576)), b := ([] : List Int), begun := 0, pieces := ([] : List Int), dropped := 0 } : ring_Ring)) trivial HS
  have HS : Sep.St [ring_Ring.at nb1 (({ room := imax (0) (imin (a0) (1048576)), b := ([] : List Int), begun := 0, pieces := ([] : List Int), dropped := 0 } : ring_Ring)), R] w0 w := HS
  cases H
  exact At.ret1 rfl rfl ⟨_, rfl, nb1, rfl, HS⟩

/-! ### slices.Clone[[]byte,byte]: function 20 -/
def slices_Clone_Sbytebyte.f (a0 : List Int) : Option (List Int) := (if ((([] : List Int)).length : Int) + (a0).length ≤ 1099511627776 then some (([] : List Int) ++ a0) else none)
set_option maxRecDepth 100000 in
set_option maxHeartbeats 4000000 in
theorem slices_Clone_Sbytebyte.calls (a0 : List Int) (R : As) (w0 w : World) (sa0 : Option Addr) (sc0 : Nat) (r : List Int) (hr0 : rdC R 1 (.slice sa0 (a0).length sc0) (a0).length ((a0).map (Value.int .u8))) (H : slices_Clone_Sbytebyte.f a0 = some r) (HS : Sep.St [R] w0 w) : Calls Try.prog 20 #[Value.slice sa0 (a0).length sc0] w (Ret fun u w => ∃ (aq0 : Option Addr) (cq0 : Nat), u = Value.slice aq0 (r).length cq0 ∧ Sep.St [row 5 1 (.slice aq0 (r).length cq0) (r).length ((r).map (Value.int .u8)), R] w0 w) := by
  unfold slices_Clone_Sbytebyte.f at H
  refine calls_enter Try.func20 rfl rfl ?_
  have H : _ = some r := H
  refine V.seq ?_
  refine V.region ?_
  refine W.rd (X.assign rfl) rfl rfl rfl ?_
  refine W.nil ?_
  refine At.next ?_
  refine V.keep [(0, Value.slice sa0 (a0).length sc0)] ⟨rfl, trivial⟩ ?_
  refine V.seq ?_
  refine V.seq ?_
  refine V.region ?_
  refine W.rd (X.move rfl) rfl rfl rfl ?_
  refine W.rd (X.eqSl Try.underlying27 rfl rfl) rfl rfl rfl ?_
  refine W.nil ?_
  refine At.next ?_
  refine V.keep [(0, Value.slice sa0 (a0).length sc0), (4, Value.bool ((sa0).isNone))] ⟨rfl, rfl, trivial⟩ ?_
  by_cases cg1 : (sa0).isNone = false
  · refine V.condF (sb cg1) ?_
    refine V.skip ?_
    refine At.next ?_
    refine V.keep [(0, Value.slice sa0 (a0).length sc0)] ⟨rfl, trivial⟩ ?_
    refine V.seq ?_
    refine V.region ?_
    refine W.ev (Y.lit (e := 5) (sz := 1) (vs := #[]) [] HS (fun a ha => by simp only [List.map_toArray, List.map_cons, List.map_nil]; try rfl) rfl (by decide) (fun _ => by kernel_rfl)) rfl rfl rfl ?_
    rintro _ w ⟨ra4, rc5, rfl, HS⟩
    have HS : Sep.St [row 5 1 (.slice ra4 (([] : List Int)).length rc5) (([] : List Int)).length ((([] : List Int)).map (Value.int .u8)), R] w0 w := HS
    refine W.rd (X.move rfl) rfl rfl rfl ?_
    obtain ⟨c7, H⟩ := ite_n H
    refine W.ev (Y.appF (Value.int .u8) (fun _ => rfl) 0 Try.underlying27 ap5 rfl HS rfl rfl rfl (rdC.at 1 hr0 HS rfl) (by omega) (by omega)) rfl rfl rfl ?_
    rintro _ w ⟨ra8, rc9, rfl, HS⟩
    have HS : Sep.St [row 5 1 (.slice ra8 (([] : List Int) ++ a0).length rc9) (([] : List Int) ++ a0).length ((([] : List Int) ++ a0).map (Value.int .u8)), R] w0 w := HS
    refine W.rd (X.assign rfl) rfl rfl rfl ?_
    refine W.nil ?_
    refine At.next ?_
    refine V.keep [(2, Value.slice ra8 (([] : List Int) ++ a0).length rc9)] ⟨rfl, trivial⟩ ?_
    refine V.ret ?_
    cases H
    exact At.ret1 rfl rfl ⟨_, rfl, ra8, rc9, rfl, HS⟩
  · have hN2 : (sa0).isNone = true := by simpa using cg1
    have hz3 : a0 = [] := List.eq_nil_of_length_eq_zero ((rdC.at 0 hr0 HS rfl).nil (Option.isNone_iff_eq_none.1 hN2)).1
    have H : some (([] : List Int)) = some r := by simpa [hz3] using H
    refine V.condT (sb hN2) ?_
    refine V.seq ?_
    refine V.region ?_
    refine W.rd (X.assign rfl) rfl rfl rfl ?_
    refine W.nil ?_
    refine At.next ?_
    refine V.keep [(2, Value.slice none 0 0)] ⟨rfl, trivial⟩ ?_
    refine V.ret ?_
    refine At.thenRet ?_
    replace HS := row_nil' (e := 5) 1 none HS
    have HS : Sep.St [row 5 1 (.slice none (([] : List Int)).length 0) (([] : List Int)).length ((([] : List Int)).map (Value.int .u8)), R] w0 w := HS
    cases H
    exact At.ret1 rfl rfl ⟨_, rfl, none, 0, rfl, HS⟩

/-! ### slices.Delete[[]byte,byte]: function 21 -/
def slices_Delete_Sbytebyte.f (a0 : List Int) (a1 : Int) (a2 : Int) : Option (List Int) := (if 0 ≤ a1 ∧ a1 ≤ a2 ∧ a2 ≤ ((a0).length : Int) then (if a1 = a2 then some (a0) else (if 0 ≤ (0 : Int) ∧ (0 : Int) ≤ a1 ∧ a1 ≤ ((a0).length : Int) then (if 0 ≤ a2 ∧ a2 ≤ ((a0).length : Int) ∧ ((a0).length : Int) ≤ ((a0).length : Int) then some ((cut a0 (0 : Int) a1) ++ (cut a0 a2 ((a0).length : Int))) else none) else none)) else none)
set_option maxRecDepth 100000 in
set_option maxHeartbeats 4000000 in
theorem slices_Delete_Sbytebyte.calls (a0 : List Int) (a1 : Int) (a2 : Int) (R : As) (w0 w : World) (sa0 : Option Addr) (sc0 : Nat) (r : List Int)  (H : slices_Delete_Sbytebyte.f a0 a1 a2 = some r) (HS : Sep.St [row 5 1 (.slice sa0 (a0).length sc0) (a0).length ((a0).map (Value.int .u8)), R] w0 w) : Calls Try.prog 21 #[Value.slice sa0 (a0).length sc0, Value.int .i64 (a1), Value.int .i64 (a2)] w (Ret fun u w => ∃ (aq0 : Option Addr) (cq0 : Nat), u = Value.slice aq0 (r).length cq0 ∧ Sep.St [row 5 1 (.slice aq0 (r).length cq0) (r).length ((r).map (Value.int .u8)), R] w0 w) := by
  unfold slices_Delete_Sbytebyte.f at H
  refine calls_enter Try.func21 rfl rfl ?_
  have H : _ = some r := H
  refine V.seq ?_
  refine V.region ?_
  refine W.rd (X.assign rfl) rfl rfl rfl ?_
  refine W.nil ?_
  refine At.next ?_
  refine V.keep [(0, Value.slice sa0 (a0).length sc0), (1, Value.int .i64 (a1)), (2, Value.int .i64 (a2))] ⟨rfl, rfl, rfl, trivial⟩ ?_
  refine V.seq ?_
  refine V.region ?_
  refine W.rd (X.move rfl) rfl rfl rfl ?_
  refine W.rd (X.move rfl) rfl rfl rfl ?_
  refine W.rd (X.move rfl) rfl rfl rfl ?_
  refine W.rd (X.move rfl) rfl rfl rfl ?_
  refine W.rd (X.lenSl Try.underlying27 rfl) rfl rfl rfl ?_
  obtain ⟨c1, H⟩ := ite_n H
  refine W.rd (X.sl3 Try.underlying27 inf5 rfl rfl rfl rfl c1 (Int.ofNat_le.2 ((rdC.at 0 row_rd HS rfl)).cap)) rfl rfl rfl ?_
  refine W.nil ?_
  refine At.next ?_
  refine V.keep [(0, Value.slice sa0 (a0).length sc0), (1, Value.int .i64 (a1)), (2, Value.int .i64 (a2))] ⟨rfl, rfl, rfl, trivial⟩ ?_
  refine V.seq ?_
  refine V.seq ?_
  refine V.region ?_
  refine W.rd (X.move rfl) rfl rfl rfl ?_
  refine W.rd (X.move rfl) rfl rfl rfl ?_
  refine W.rd (X.cmp (decide (a1 = a2)) rfl rfl rfl rfl) rfl rfl rfl ?_
  refine W.nil ?_
  refine At.next ?_
  refine V.keep [(0, Value.slice sa0 (a0).length sc0), (1, Value.int .i64 (a1)), (2, Value.int .i64 (a2)), (16, Value.bool (decide (a1 = a2)))] ⟨rfl, rfl, rfl, rfl, trivial⟩ ?_
  by_cases c3 : a1 = a2
  · replace H := ite_t c3 H
    refine V.condT (sb (decide_eq_true c3)) ?_
    refine V.seq ?_
    refine V.region ?_
    refine W.rd (X.move rfl) rfl rfl rfl ?_
    refine W.rd (X.assign rfl) rfl rfl rfl ?_
    refine W.nil ?_
    refine At.next ?_
    refine V.keep [(6, Value.slice sa0 (a0).length sc0)] ⟨rfl, trivial⟩ ?_
    refine V.ret ?_
    refine At.thenRet ?_
    cases H
    exact At.ret1 rfl rfl ⟨_, rfl, sa0, sc0, rfl, HS⟩
  · replace H := ite_f c3 H
    refine V.condF (sb (decide_eq_false c3)) ?_
    refine V.skip ?_
    refine At.next ?_
    refine V.keep [(0, Value.slice sa0 (a0).length sc0), (1, Value.int .i64 (a1)), (2, Value.int .i64 (a2))] ⟨rfl, rfl, rfl, trivial⟩ ?_
    refine V.seq ?_
    refine V.region ?_
    refine W.rd (X.move rfl) rfl rfl rfl ?_
    refine W.rd (X.lenSl Try.underlying27 rfl) rfl rfl rfl ?_
    refine W.rd (X.assign rfl) rfl rfl rfl ?_
    refine W.nil ?_
    refine At.next ?_
    refine V.keep [(0, Value.slice sa0 (a0).length sc0), (1, Value.int .i64 (a1)), (2, Value.int .i64 (a2)), (7, Value.int .i64 (((a0).length : Int)))] ⟨rfl, rfl, rfl, rfl, trivial⟩ ?_
    refine V.seq ?_
    obtain ⟨c4, H⟩ := ite_n H
    obtain ⟨c5, H⟩ := ite_n H
    refine V.draw (es := [6]) (bl := [7]) (f := [(20, Value.slice sa0 (a0).length sc0), (21, Value.int .i64 (a1)), (22, Value.slice (vaddr sa0 sc0 ((0 : Int)).toNat 1) (cut a0 (0 : Int) a1).length (sc0 - ((0 : Int)).toNat)), (23, Value.slice sa0 (a0).length sc0), (24, Value.int .i64 (a2)), (25, Value.slice (vaddr sa0 sc0 (a2).toNat 1) (cut a0 a2 ((a0).length : Int)).length (sc0 - (a2).toNat))]) (fun w => Sep.St [row 5 1 (.slice sa0 (a0).length sc0) (a0).length ((a0).map (Value.int .u8)), R] w0 w) mo HS.drew rfl ?_
    refine T.event _ [(22, Value.slice (vaddr sa0 sc0 ((0 : Int)).toNat 1) (cut a0 (0 : Int) a1).length (sc0 - ((0 : Int)).toNat)), (25, Value.slice (vaddr sa0 sc0 (a2).toNat 1) (cut a0 a2 ((a0).length : Int)).length (sc0 - (a2).toNat))] rfl rfl ⟨⟨_, Value.slice sa0 (a0).length sc0, [(0, Value.slice sa0 (a0).length sc0)], 20, rfl, rfl, ⟨.inl ⟨rfl, rfl⟩, trivial⟩, .run rfl (fun w HS => X.move rfl), rfl, rfl, rfl⟩, ⟨_, Value.int .i64 (a1), [(1, Value.int .i64 (a1))], 21, rfl, rfl, ⟨.inl ⟨rfl, rfl⟩, trivial⟩, .run rfl (fun w HS => X.move rfl), rfl, rfl, rfl⟩, ⟨_, Value.slice (vaddr sa0 sc0 ((0 : Int)).toNat 1) (cut a0 (0 : Int) a1).length (sc0 - ((0 : Int)).toNat), [(20, Value.slice sa0 (a0).length sc0), (21, Value.int .i64 (a1))], 22, rfl, rfl, ⟨.inr ⟨rfl, rfl⟩, ⟨.inr ⟨rfl, rfl⟩, trivial⟩⟩, .run rfl (fun w HS => X.slH Try.underlying27 inf5 rfl rfl c4 ((rdC.at 0 row_rd HS rfl)).cap), rfl, rfl, rfl⟩, ⟨_, Value.slice sa0 (a0).length sc0, [(0, Value.slice sa0 (a0).length sc0)], 23, rfl, rfl, ⟨.inl ⟨rfl, rfl⟩, trivial⟩, .run rfl (fun w HS => X.move rfl), rfl, rfl, rfl⟩, ⟨_, Value.int .i64 (a2), [(2, Value.int .i64 (a2))], 24, rfl, rfl, ⟨.inl ⟨rfl, rfl⟩, trivial⟩, .run rfl (fun w HS => X.move rfl), rfl, rfl, rfl⟩, ⟨_, Value.slice (vaddr sa0 sc0 (a2).toNat 1) (cut a0 a2 ((a0).length : Int)).length (sc0 - (a2).toNat), [(23, Value.slice sa0 (a0).length sc0), (24, Value.int .i64 (a2))], 25, rfl, rfl, ⟨.inr ⟨rfl, rfl⟩, ⟨.inr ⟨rfl, rfl⟩, trivial⟩⟩, .run rfl (fun w HS => X.slL Try.underlying27 inf5 rfl rfl c5), rfl, rfl, rfl⟩, trivial⟩ rfl ⟨.inr ⟨rfl, rfl⟩, ⟨.inr ⟨rfl, rfl⟩, trivial⟩⟩ (Or.inl rfl) (by intro d hd; cases hd; exact ⟨by decide, rfl, rfl⟩) [] [0, 1, 2, 3, 4, 5] rfl rfl (fun w HS => ?_)
    have HS : Sep.St [row 5 1 (.slice sa0 (a0).length sc0) (a0).length ((a0).map (Value.int .u8)), R] w0 w := HS
    have hlt6 : a1 < a2 := by omega
    have hd7 : 0 ≤ a1 ∧ a1 < a2 ∧ a2 ≤ ((a0).length : Int) := by omega
    have hc8 : ((a0).length : Int) ≤ (sc0 : Int) := Int.ofNat_le.2 ((rdC.at 0 row_rd HS rfl)).cap
    have hl9 : (((cut a0 (0 : Int) a1) ++ (cut a0 a2 ((a0).length : Int))).length : Int) ≤ ((a0).length : Int) := by rw [List.length_append, cut_len ⟨by omega, by omega, by omega⟩, cut_len ⟨by omega, by omega, by omega⟩]; omega
    refine ⟨_, Y.appDelF (Value.int .u8) (fun _ => rfl) 0 Try.underlying27 ap5 HS rfl hd7 rfl rfl, ?_⟩
    rintro _ w ⟨rfl, HS⟩
    have HS : Sep.St [row 5 1 (.slice sa0 ((cut a0 (0 : Int) a1) ++ (cut a0 a2 ((a0).length : Int))).length sc0) ((cut a0 (0 : Int) a1) ++ (cut a0 a2 ((a0).length : Int))).length (((cut a0 (0 : Int) a1) ++ (cut a0 a2 ((a0).length : Int))).map (Value.int .u8)), R] w0 w := HS
    refine ⟨[(26, Value.slice sa0 ((cut a0 (0 : Int) a1) ++ (cut a0 a2 ((a0).length : Int))).length sc0), (0, Value.slice sa0 ((cut a0 (0 : Int) a1) ++ (cut a0 a2 ((a0).length : Int))).length sc0)], fun w => Sep.St [row 5 1 (.slice sa0 ((cut a0 (0 : Int) a1) ++ (cut a0 a2 ((a0).length : Int))).length sc0) ((cut a0 (0 : Int) a1) ++ (cut a0 a2 ((a0).length : Int))).length (((cut a0 (0 : Int) a1) ++ (cut a0 a2 ((a0).length : Int))).map (Value.int .u8)), R] w0 w, ⟨.inl ⟨rfl, rfl⟩, ⟨.inr ⟨by decide, rfl⟩, trivial⟩⟩, ?_, HS⟩
    refine T.fin [(0, Value.slice sa0 ((cut a0 (0 : Int) a1) ++ (cut a0 a2 ((a0).length : Int))).length sc0), (7, Value.int .i64 (((a0).length : Int)))] rfl ⟨⟨_, Value.slice sa0 ((cut a0 (0 : Int) a1) ++ (cut a0 a2 ((a0).length : Int))).length sc0, [(26, Value.slice sa0 ((cut a0 (0 : Int) a1) ++ (cut a0 a2 ((a0).length : Int))).length sc0)], 0, rfl, rfl, ⟨.inr ⟨rfl, rfl⟩, trivial⟩, .run rfl (fun w HS => X.assign rfl), rfl, rfl, rfl⟩, trivial⟩ ⟨.inr ⟨rfl, rfl⟩, ⟨.inl ⟨rfl, rfl⟩, trivial⟩⟩ (fun w HS => ?_)
    have HS : Sep.St [row 5 1 (.slice sa0 ((cut a0 (0 : Int) a1) ++ (cut a0 a2 ((a0).length : Int))).length sc0) ((cut a0 (0 : Int) a1) ++ (cut a0 a2 ((a0).length : Int))).length (((cut a0 (0 : Int) a1) ++ (cut a0 a2 ((a0).length : Int))).map (Value.int .u8)), R] w0 w := HS
    refine At.next ?_
    refine V.keep [(0, Value.slice sa0 ((cut a0 (0 : Int) a1) ++ (cut a0 a2 ((a0).length : Int))).length sc0), (7, Value.int .i64 (((a0).length : Int)))] ⟨rfl, rfl, trivial⟩ ?_
    refine V.seq ?_
    refine V.region ?_
    refine W.rd (X.move rfl) rfl rfl rfl ?_
    refine W.rd (X.move rfl) rfl rfl rfl ?_
    refine W.rd (X.lenSl Try.underlying27 rfl) rfl rfl rfl ?_
    refine W.rd (X.move rfl) rfl rfl rfl ?_
    refine W.rd (X.slC Try.underlying27 inf5 rfl rfl rfl ⟨by omega, hl9⟩ hc8) rfl rfl rfl ?_
    refine W.ev_none (Y.clearTail (n0 := (a0).length) 0 Try.underlying27 ap5 rfl rfl HS rfl (Int.ofNat_le.1 hl9) (Int.ofNat_le.1 hc8) rfl) rfl rfl ?_
    rintro _ w HS
    have HS : Sep.St [row 5 1 (.slice sa0 ((cut a0 (0 : Int) a1) ++ (cut a0 a2 ((a0).length : Int))).length sc0) ((cut a0 (0 : Int) a1) ++ (cut a0 a2 ((a0).length : Int))).length (((cut a0 (0 : Int) a1) ++ (cut a0 a2 ((a0).length : Int))).map (Value.int .u8)), R] w0 w := HS
    refine W.nil ?_
    refine At.next ?_
    refine V.keep [(0, Value.slice sa0 ((cut a0 (0 : Int) a1) ++ (cut a0 a2 ((a0).length : Int))).length sc0)] ⟨rfl, trivial⟩ ?_
    refine V.seq ?_
    refine V.region ?_
    refine W.rd (X.move rfl) rfl rfl rfl ?_
    refine W.rd (X.assign rfl) rfl rfl rfl ?_
    refine W.nil ?_
    refine At.next ?_
    refine V.keep [(6, Value.slice sa0 ((cut a0 (0 : Int) a1) ++ (cut a0 a2 ((a0).length : Int))).length sc0)] ⟨rfl, trivial⟩ ?_
    refine V.ret ?_
    cases H
    exact At.ret1 rfl rfl ⟨_, rfl, sa0, sc0, rfl, HS⟩

/-! ### (*signalman/ring.Ring).passed: function 22 -/
mutual
def ring_Ring_passed.l0 : Nat → Int → ring_Ring → Option (ring_Ring)
  | 0, _, _ => none
  | k + 1, x2, x3 => (if x2 > 0 then (if ((x3).begun) = 0 then (if 0 ≤ (0 : Int) ∧ (0 : Int) < (((x3).pieces).length : Int) then (if 0 ≤ (1 : Int) ∧ (1 : Int) ≤ (((x3).pieces).length : Int) ∧ (((x3).pieces).length : Int) ≤ (((x3).pieces).length : Int) then (ring_Ring_passed.l0 k (w64 (x2 - (imin (x2) (((x3).pieces).getD ((0 : Int)).toNat 0)))) ({ room := (x3).room, b := (x3).b, begun := w64 ((((x3).pieces).getD ((0 : Int)).toNat 0) - (imin (x2) (((x3).pieces).getD ((0 : Int)).toNat 0))), pieces := cut ((x3).pieces) (1 : Int) (((x3).pieces).length : Int), dropped := (x3).dropped } : ring_Ring)) else none) else none) else (ring_Ring_passed.l0 k (w64 (x2 - (imin (x2) ((x3).begun)))) ({ room := (x3).room, b := (x3).b, begun := w64 (((x3).begun) - (imin (x2) ((x3).begun))), pieces := (x3).pieces, dropped := (x3).dropped } : ring_Ring))) else some (x3))
end
def ring_Ring_passed.f (k : Nat) (a0 : ring_Ring) (a1 : Int) : Option (ring_Ring) := (ring_Ring_passed.l0 k a1 a0)
set_option maxRecDepth 100000 in
set_option maxHeartbeats 4000000 in
theorem ring_Ring_passed.calls (k : Nat) (a0 : ring_Ring) (a1 : Int) (R : As) (w0 w : World) (b0 : Nat) (r : ring_Ring)  (H : ring_Ring_passed.f k a0 a1 = some r) (HS : Sep.St [ring_Ring.at b0 (a0), R] w0 w) : Calls Try.prog 22 #[Value.pointer (some ⟨b0, 0, none⟩), Value.int .i64 (a1)] w (Ret fun u w => u = Value.tuple #[] ∧ Sep.St [ring_Ring.at b0 (r), R] w0 w) := by
  unfold ring_Ring_passed.f at H
  refine calls_enter Try.func22 rfl rfl ?_
  have H : _ = some r := H
  refine V.block ?_
  refine V.loop (σ := Int × ring_Ring) (fun kq (st : Int × ring_Ring) w => match st with | (x2, x3) => Sep.St [ring_Ring.at b0 (x3), R] w0 w ∧ ring_Ring_passed.l0 kq x2 x3 = some r ∧ kq ≤ k) (fun st => match st with | (x2, x3) => [(0, Value.pointer (some ⟨b0, 0, none⟩)), (1, Value.int .i64 (x2))]) k (a1, a0) ⟨rfl, rfl, trivial⟩ ⟨HS, H, Nat.le_refl _⟩ ?_
  rintro kq4 ⟨x2, x3⟩ w ⟨HS, H, hk5⟩
  cases kq4 with
  | zero => exact absurd H (by simp [ring_Ring_passed.l0])
  | succ kq4 =>
    simp only [ring_Ring_passed.l0] at H
    have HS : Sep.St [ring_Ring.at b0 (x3), R] w0 w := HS
    refine V.seq ?_
    refine V.seq ?_
    refine V.region ?_
    refine W.rd (X.move rfl) rfl rfl rfl ?_
    refine W.rd (X.cmp (decide (x2 > 0)) rfl rfl rfl rfl) rfl rfl rfl ?_
    refine W.nil ?_
    refine At.next ?_
    refine V.keep [(0, Value.pointer (some ⟨b0, 0, none⟩)), (1, Value.int .i64 (x2)), (6, Value.bool (decide (x2 > 0)))] ⟨rfl, rfl, rfl, trivial⟩ ?_
    by_cases c6 : x2 > 0
    · replace H := ite_t c6 H
      refine V.condT (sb (decide_eq_true c6)) ?_
      refine V.skip ?_
      refine At.next ?_
      refine V.keep [(0, Value.pointer (some ⟨b0, 0, none⟩)), (1, Value.int .i64 (x2))] ⟨rfl, rfl, trivial⟩ ?_
      refine V.block ?_
      refine V.seq ?_
      refine V.seq ?_
      refine V.region ?_
      refine W.rd (X.move rfl) rfl rfl rfl ?_
      refine W.rd (X.nilCheck rfl) rfl rfl rfl ?_
      obtain ⟨a1_7, c1_7, a3_7, c3_7, hi8, HS⟩ := ring_Ring.open HS
      have HS : Sep.St [blk b0 (#[Value.int .i64 ((x3).room), Value.slice a1_7 ((x3).b).length c1_7, Value.int .i64 ((x3).begun), Value.slice a3_7 ((x3).pieces).length c3_7, Value.int .i64 ((x3).dropped)]) 41, row 5 1 (.slice a1_7 ((x3).b).length c1_7) ((x3).b).length (((x3).b).map (Value.int .u8)), row 3 1 (.slice a3_7 ((x3).pieces).length c3_7) ((x3).pieces).length (((x3).pieces).map (Value.int .i64)), R] w0 w := HS
      refine W.rd (X.fieldAddr 2 fo41_2 rfl) rfl rfl rfl ?_
      refine W.rd (X.loadAt 0 HS rfl Try.underlying3 rfl rfl rfl) rfl rfl rfl ?_
      refine W.rd (X.cmp (decide (((x3).begun) = 0)) rfl rfl rfl rfl) rfl rfl rfl ?_
      refine W.nil ?_
      refine At.next ?_
      refine V.keep [(0, Value.pointer (some ⟨b0, 0, none⟩)), (1, Value.int .i64 (x2)), (11, Value.bool (decide (((x3).begun) = 0)))] ⟨rfl, rfl, rfl, trivial⟩ ?_
      by_cases c9 : ((x3).begun) = 0
      · replace H := ite_t c9 H
        refine V.condT (sb (decide_eq_true c9)) ?_
        refine V.seq ?_
        refine V.region ?_
        refine W.rd (X.move rfl) rfl rfl rfl ?_
        refine W.rd (X.move rfl) rfl rfl rfl ?_
        refine W.rd (X.nilCheck rfl) rfl rfl rfl ?_
        refine W.rd (X.fieldAddr 3 fo41_3 rfl) rfl rfl rfl ?_
        refine W.rd (X.loadAt 0 HS rfl Try.underlying23 rfl rfl rfl) rfl rfl rfl ?_
        obtain ⟨c10, H⟩ := ite_n H
        obtain ⟨eb11, eo12, hh⟩ := ((rdC.at 2 row_rd HS rfl)).some (by decide) c10.1 c10.2; subst hh
        refine W.rd (X.indexSl Try.underlying23 inf3 rfl rfl c10.1 c10.2) rfl rfl rfl ?_
        refine W.rd (X.load Try.underlying3 rfl rfl (((rdC.at 2 row_rd HS rfl)).cellI c10.1 c10.2)) rfl rfl rfl ?_
        refine W.rd (X.nilCheck rfl) rfl rfl rfl ?_
        refine W.rd (X.fieldAddr 2 fo41_2 rfl) rfl rfl rfl ?_
        refine W.ev_none (Y.storeAt 0 HS rfl inf3 rfl rfl rfl rfl rfl rfl) rfl rfl ?_
        rintro _ w HS
        have HS : Sep.St [blk b0 (#[Value.int .i64 ((x3).room), Value.slice a1_7 ((x3).b).length c1_7, Value.int .i64 (((x3).pieces).getD ((0 : Int)).toNat 0), Value.slice (some ⟨eb11, eo12, none⟩) ((x3).pieces).length c3_7, Value.int .i64 ((x3).dropped)]) 41, row 5 1 (.slice a1_7 ((x3).b).length c1_7) ((x3).b).length (((x3).b).map (Value.int .u8)), row 3 1 (.slice (some ⟨eb11, eo12, none⟩) ((x3).pieces).length c3_7) ((x3).pieces).length (((x3).pieces).map (Value.int .i64)), R] w0 w := HS
        refine W.nil ?_
        refine At.next ?_
        refine V.keep [(0, Value.pointer (some ⟨b0, 0, none⟩)), (1, Value.int .i64 (x2))] ⟨rfl, rfl, trivial⟩ ?_
        refine V.region ?_
        refine W.rd (X.move rfl) rfl rfl rfl ?_
        refine W.rd (X.move rfl) rfl rfl rfl ?_
        refine W.rd (X.nilCheck rfl) rfl rfl rfl ?_
        refine W.rd (X.fieldAddr 3 fo41_3 rfl) rfl rfl rfl ?_
        refine W.rd (X.loadAt 0 HS rfl Try.underlying23 rfl rfl rfl) rfl rfl rfl ?_
        obtain ⟨c13, H⟩ := ite_n H
        refine W.rd (X.slL Try.underlying23 inf3 rfl rfl c13) rfl rfl rfl ?_
        refine W.rd (X.nilCheck rfl) rfl rfl rfl ?_
        refine W.rd (X.fieldAddr 3 fo41_3 rfl) rfl rfl rfl ?_
        refine W.ev_none (Y.storeAt 0 HS rfl inf23 rfl rfl rfl rfl rfl rfl) rfl rfl ?_
        rintro _ w HS
        have HS : Sep.St [blk b0 (#[Value.int .i64 ((x3).room), Value.slice a1_7 ((x3).b).length c1_7, Value.int .i64 (((x3).pieces).getD ((0 : Int)).toNat 0), Value.slice (vaddr (some ⟨eb11, eo12, none⟩) c3_7 ((1 : Int)).toNat 1) (cut ((x3).pieces) (1 : Int) (((x3).pieces).length : Int)).length (c3_7 - ((1 : Int)).toNat), Value.int .i64 ((x3).dropped)]) 41, row 5 1 (.slice a1_7 ((x3).b).length c1_7) ((x3).b).length (((x3).b).map (Value.int .u8)), row 3 1 (.slice (some ⟨eb11, eo12, none⟩) ((x3).pieces).length c3_7) ((x3).pieces).length (((x3).pieces).map (Value.int .i64)), R] w0 w := HS
        refine W.nil ?_
        refine At.next ?_
        refine V.keep [(0, Value.pointer (some ⟨b0, 0, none⟩)), (1, Value.int .i64 (x2))] ⟨rfl, rfl, trivial⟩ ?_
        refine V.seq ?_
        refine V.region ?_
        refine W.rd (X.move rfl) rfl rfl rfl ?_
        refine W.rd (X.move rfl) rfl rfl rfl ?_
        refine W.rd (X.nilCheck rfl) rfl rfl rfl ?_
        refine W.rd (X.fieldAddr 2 fo41_2 rfl) rfl rfl rfl ?_
        refine W.rd (X.loadAt 0 HS rfl Try.underlying3 rfl rfl rfl) rfl rfl rfl ?_
        refine W.rd (X.min2 rfl rfl) rfl rfl rfl ?_
        refine W.rd (X.assign rfl) rfl rfl rfl ?_
        refine W.nil ?_
        refine At.next ?_
        refine V.keep [(0, Value.pointer (some ⟨b0, 0, none⟩)), (1, Value.int .i64 (x2)), (4, Value.int .i64 (imin (x2) (((x3).pieces).getD ((0 : Int)).toNat 0)))] ⟨rfl, rfl, rfl, trivial⟩ ?_
        refine V.seq ?_
        refine V.region ?_
        refine W.rd (X.move rfl) rfl rfl rfl ?_
        refine W.rd (X.nilCheck rfl) rfl rfl rfl ?_
        refine W.rd (X.fieldAddr 2 fo41_2 rfl) rfl rfl rfl ?_
        refine W.rd (X.loadAt 0 HS rfl Try.underlying3 rfl rfl rfl) rfl rfl rfl ?_
        refine W.rd (X.move rfl) rfl rfl rfl ?_
        refine W.rd (X.sub rfl rfl) rfl rfl rfl ?_
        refine W.rd (X.nilCheck rfl) rfl rfl rfl ?_
        refine W.rd (X.fieldAddr 2 fo41_2 rfl) rfl rfl rfl ?_
        refine W.ev_none (Y.storeAt 0 HS rfl inf3 rfl rfl rfl rfl rfl rfl) rfl rfl ?_
        rintro _ w HS
        have HS : Sep.St [blk b0 (#[Value.int .i64 ((x3).room), Value.slice a1_7 ((x3).b).length c1_7, Value.int .i64 (w64 ((((x3).pieces).getD ((0 : Int)).toNat 0) - (imin (x2) (((x3).pieces).getD ((0 : Int)).toNat 0)))), Value.slice (vaddr (some ⟨eb11, eo12, none⟩) c3_7 ((1 : Int)).toNat 1) (cut ((x3).pieces) (1 : Int) (((x3).pieces).length : Int)).length (c3_7 - ((1 : Int)).toNat), Value.int .i64 ((x3).dropped)]) 41, row 5 1 (.slice a1_7 ((x3).b).length c1_7) ((x3).b).length (((x3).b).map (Value.int .u8)), row 3 1 (.slice (some ⟨eb11, eo12, none⟩) ((x3).pieces).length c3_7) ((x3).pieces).length (((x3).pieces).map (Value.int .i64)), R] w0 w := HS
        refine W.nil ?_
        refine At.next ?_
        refine V.keep [(0, Value.pointer (some ⟨b0, 0, none⟩)), (1, Value.int .i64 (x2)), (4, Value.int .i64 (imin (x2) (((x3).pieces).getD ((0 : Int)).toNat 0)))] ⟨rfl, rfl, rfl, trivial⟩ ?_
        refine V.region ?_
        refine W.rd (X.move rfl) rfl rfl rfl ?_
        refine W.rd (X.move rfl) rfl rfl rfl ?_
        refine W.rd (X.sub rfl rfl) rfl rfl rfl ?_
        refine W.rd (X.assign rfl) rfl rfl rfl ?_
        refine W.nil ?_
        refine At.blockEnd ?_
        replace HS := HS.front 2 rfl
        have HS : Sep.St [row 3 1 (.slice (some ⟨eb11, eo12, none⟩) ((x3).pieces).length c3_7) ((x3).pieces).length (((x3).pieces).map (Value.int .i64)), blk b0 (#[Value.int .i64 ((x3).room), Value.slice a1_7 ((x3).b).length c1_7, Value.int .i64 (w64 ((((x3).pieces).getD ((0 : Int)).toNat 0) - (imin (x2) (((x3).pieces).getD ((0 : Int)).toNat 0)))), Value.slice (vaddr (some ⟨eb11, eo12, none⟩) c3_7 ((1 : Int)).toNat 1) (cut ((x3).pieces) (1 : Int) (((x3).pieces).length : Int)).length (c3_7 - ((1 : Int)).toNat), Value.int .i64 ((x3).dropped)]) 41, row 5 1 (.slice a1_7 ((x3).b).length c1_7) ((x3).b).length (((x3).b).map (Value.int .u8)), R] w0 w := HS
        replace HS := St.row_subM HS c13
        have HS : Sep.St [row 3 1 (.slice (vaddr (some ⟨eb11, eo12, none⟩) c3_7 ((1 : Int)).toNat 1) (cut ((x3).pieces) (1 : Int) (((x3).pieces).length : Int)).length (c3_7 - ((1 : Int)).toNat)) (cut ((x3).pieces) (1 : Int) (((x3).pieces).length : Int)).length ((cut ((x3).pieces) (1 : Int) (((x3).pieces).length : Int)).map (Value.int .i64)), blk b0 (#[Value.int .i64 ((x3).room), Value.slice a1_7 ((x3).b).length c1_7, Value.int .i64 (w64 ((((x3).pieces).getD ((0 : Int)).toNat 0) - (imin (x2) (((x3).pieces).getD ((0 : Int)).toNat 0)))), Value.slice (vaddr (some ⟨eb11, eo12, none⟩) c3_7 ((1 : Int)).toNat 1) (cut ((x3).pieces) (1 : Int) (((x3).pieces).length : Int)).length (c3_7 - ((1 : Int)).toNat), Value.int .i64 ((x3).dropped)]) 41, row 5 1 (.slice a1_7 ((x3).b).length c1_7) ((x3).b).length (((x3).b).map (Value.int .u8)), R] w0 w := HS
        replace HS := HS.re [1, 2, 0, 3] (by kernel_rfl)
        have HS : Sep.St [blk b0 (#[Value.int .i64 ((x3).room), Value.slice a1_7 ((x3).b).length c1_7, Value.int .i64 (w64 ((((x3).pieces).getD ((0 : Int)).toNat 0) - (imin (x2) (((x3).pieces).getD ((0 : Int)).toNat 0)))), Value.slice (vaddr (some ⟨eb11, eo12, none⟩) c3_7 ((1 : Int)).toNat 1) (cut ((x3).pieces) (1 : Int) (((x3).pieces).length : Int)).length (c3_7 - ((1 : Int)).toNat), Value.int .i64 ((x3).dropped)]) 41, row 5 1 (.slice a1_7 ((x3).b).length c1_7) ((x3).b).length (((x3).b).map (Value.int .u8)), row 3 1 (.slice (vaddr (some ⟨eb11, eo12, none⟩) c3_7 ((1 : Int)).toNat 1) (cut ((x3).pieces) (1 : Int) (((x3).pieces).length : Int)).length (c3_7 - ((1 : Int)).toNat)) (cut ((x3).pieces) (1 : Int) (((x3).pieces).length : Int)).length ((cut ((x3).pieces) (1 : Int) (((x3).pieces).length : Int)).map (Value.int .i64)), R] w0 w := HS
        replace HS := ring_Ring.close (({ room := (x3).room, b := (x3).b, begun := w64 ((((x3).pieces).getD ((0 : Int)).toNat 0) - (imin (x2) (((x3).pieces).getD ((0 : Int)).toNat 0))), pieces := cut ((x3).pieces) (1 : Int) (((x3).pieces).length : Int), dropped := (x3).dropped } : ring_Ring)) trivial HS
        have HS : Sep.St [ring_Ring.at b0 (({ room := (x3).room, b := (x3).b, begun := w64 ((((x3).pieces).getD ((0 : Int)).toNat 0) - (imin (x2) (((x3).pieces).getD ((0 : Int)).toNat 0))), pieces := cut ((x3).pieces) (1 : Int) (((x3).pieces).length : Int), dropped := (x3).dropped } : ring_Ring)), R] w0 w := HS
        exact At.round kq4 (by omega) (w64 (x2 - (imin (x2) (((x3).pieces).getD ((0 : Int)).toNat 0))), ({ room := (x3).room, b := (x3).b, begun := w64 ((((x3).pieces).getD ((0 : Int)).toNat 0) - (imin (x2) (((x3).pieces).getD ((0 : Int)).toNat 0))), pieces := cut ((x3).pieces) (1 : Int) (((x3).pieces).length : Int), dropped := (x3).dropped } : ring_Ring)) ⟨rfl, rfl, trivial⟩ ⟨HS, H, by omega⟩
      · replace H := ite_f c9 H
        refine V.condF (sb (decide_eq_false c9)) ?_
        refine V.skip ?_
        refine At.next ?_
        refine V.keep [(0, Value.pointer (some ⟨b0, 0, none⟩)), (1, Value.int .i64 (x2))] ⟨rfl, rfl, trivial⟩ ?_
        refine V.seq ?_
        refine V.region ?_
        refine W.rd (X.move rfl) rfl rfl rfl ?_
        refine W.rd (X.move rfl) rfl rfl rfl ?_
        refine W.rd (X.nilCheck rfl) rfl rfl rfl ?_
        refine W.rd (X.fieldAddr 2 fo41_2 rfl) rfl rfl rfl ?_
        refine W.rd (X.loadAt 0 HS rfl Try.underlying3 rfl rfl rfl) rfl rfl rfl ?_
        refine W.rd (X.min2 rfl rfl) rfl rfl rfl ?_
        refine W.rd (X.assign rfl) rfl rfl rfl ?_
        refine W.nil ?_
        refine At.next ?_
        refine V.keep [(0, Value.pointer (some ⟨b0, 0, none⟩)), (1, Value.int .i64 (x2)), (4, Value.int .i64 (imin (x2) ((x3).begun)))] ⟨rfl, rfl, rfl, trivial⟩ ?_
        refine V.seq ?_
        refine V.region ?_
        refine W.rd (X.move rfl) rfl rfl rfl ?_
        refine W.rd (X.nilCheck rfl) rfl rfl rfl ?_
        refine W.rd (X.fieldAddr 2 fo41_2 rfl) rfl rfl rfl ?_
        refine W.rd (X.loadAt 0 HS rfl Try.underlying3 rfl rfl rfl) rfl rfl rfl ?_
        refine W.rd (X.move rfl) rfl rfl rfl ?_
        refine W.rd (X.sub rfl rfl) rfl rfl rfl ?_
        refine W.rd (X.nilCheck rfl) rfl rfl rfl ?_
        refine W.rd (X.fieldAddr 2 fo41_2 rfl) rfl rfl rfl ?_
        refine W.ev_none (Y.storeAt 0 HS rfl inf3 rfl rfl rfl rfl rfl rfl) rfl rfl ?_
        rintro _ w HS
        have HS : Sep.St [blk b0 (#[Value.int .i64 ((x3).room), Value.slice a1_7 ((x3).b).length c1_7, Value.int .i64 (w64 (((x3).begun) - (imin (x2) ((x3).begun)))), Value.slice a3_7 ((x3).pieces).length c3_7, Value.int .i64 ((x3).dropped)]) 41, row 5 1 (.slice a1_7 ((x3).b).length c1_7) ((x3).b).length (((x3).b).map (Value.int .u8)), row 3 1 (.slice a3_7 ((x3).pieces).length c3_7) ((x3).pieces).length (((x3).pieces).map (Value.int .i64)), R] w0 w := HS
        refine W.nil ?_
        refine At.next ?_
        refine V.keep [(0, Value.pointer (some ⟨b0, 0, none⟩)), (1, Value.int .i64 (x2)), (4, Value.int .i64 (imin (x2) ((x3).begun)))] ⟨rfl, rfl, rfl, trivial⟩ ?_
        refine V.region ?_
        refine W.rd (X.move rfl) rfl rfl rfl ?_
        refine W.rd (X.move rfl) rfl rfl rfl ?_
        refine W.rd (X.sub rfl rfl) rfl rfl rfl ?_
        refine W.rd (X.assign rfl) rfl rfl rfl ?_
        refine W.nil ?_
        refine At.blockEnd ?_
        replace HS := ring_Ring.close (({ room := (x3).room, b := (x3).b, begun := w64 (((x3).begun) - (imin (x2) ((x3).begun))), pieces := (x3).pieces, dropped := (x3).dropped } : ring_Ring)) trivial HS
        have HS : Sep.St [ring_Ring.at b0 (({ room := (x3).room, b := (x3).b, begun := w64 (((x3).begun) - (imin (x2) ((x3).begun))), pieces := (x3).pieces, dropped := (x3).dropped } : ring_Ring)), R] w0 w := HS
        exact At.round kq4 (by omega) (w64 (x2 - (imin (x2) ((x3).begun))), ({ room := (x3).room, b := (x3).b, begun := w64 (((x3).begun) - (imin (x2) ((x3).begun))), pieces := (x3).pieces, dropped := (x3).dropped } : ring_Ring)) ⟨rfl, rfl, trivial⟩ ⟨HS, H, by omega⟩
    · replace H := ite_f c6 H
      refine V.condF (sb (decide_eq_false c6)) ?_
      refine V.exit ?_
      refine At.thenExit ?_
      refine At.thenExit ?_
      refine At.blockExit ?_
      cases H
      exact At.end0 rfl ⟨_, rfl, rfl, HS⟩

/-! ### (*signalman/ring.Ring).Take: function 10 -/
def ring_Ring_Take.f (k : Nat) (a0 : ring_Ring) (a1 : Int) : Option (List Int × ring_Ring) := (if 0 ≤ (0 : Int) ∧ (0 : Int) ≤ imax (0) (imin (a1) ((((a0).b).length : Int))) ∧ imax (0) (imin (a1) ((((a0).b).length : Int))) ≤ (((a0).b).length : Int) then ((slices_Clone_Sbytebyte.f (cut ((a0).b) (0 : Int) (imax (0) (imin (a1) ((((a0).b).length : Int)))))).bind fun t4 => ((slices_Delete_Sbytebyte.f ((a0).b) 0 (imax (0) (imin (a1) ((((a0).b).length : Int))))).bind fun t6 => ((ring_Ring_passed.f k ({ room := (a0).room, b := t6, begun := (a0).begun, pieces := (a0).pieces, dropped := (a0).dropped } : ring_Ring) (imax (0) (imin (a1) ((((a0).b).length : Int))))).bind fun t8 => some (t4, t8)))) else none)
set_option maxRecDepth 100000 in
set_option maxHeartbeats 4000000 in
theorem ring_Ring_Take.calls (k : Nat) (a0 : ring_Ring) (a1 : Int) (R : As) (w0 w : World) (b0 : Nat) (r : List Int × ring_Ring)  (H : ring_Ring_Take.f k a0 a1 = some r) (HS : Sep.St [ring_Ring.at b0 (a0), R] w0 w) : Calls Try.prog 10 #[Value.pointer (some ⟨b0, 0, none⟩), Value.int .i64 (a1)] w (Ret fun u w => ∃ (aq0 : Option Addr) (cq0 : Nat), u = Value.slice aq0 (r.1).length cq0 ∧ Sep.St [row 5 1 (.slice aq0 (r.1).length cq0) (r.1).length ((r.1).map (Value.int .u8)), ring_Ring.at b0 (r.2), R] w0 w) := by
  unfold ring_Ring_Take.f at H
  refine calls_enter Try.func10 rfl rfl ?_
  have H : _ = some r := H
  refine V.seq ?_
  refine V.region ?_
  refine W.rd (X.assign rfl) rfl rfl rfl ?_
  refine W.nil ?_
  refine At.next ?_
  refine V.keep [(0, Value.pointer (some ⟨b0, 0, none⟩)), (1, Value.int .i64 (a1))] ⟨rfl, rfl, trivial⟩ ?_
  refine V.seq ?_
  refine V.region ?_
  refine W.rd (X.move rfl) rfl rfl rfl ?_
  refine W.rd (X.move rfl) rfl rfl rfl ?_
  refine W.rd (X.nilCheck rfl) rfl rfl rfl ?_
  obtain ⟨a1_1, c1_1, a3_1, c3_1, hi2, HS⟩ := ring_Ring.open HS
  have HS : Sep.St [blk b0 (#[Value.int .i64 ((a0).room), Value.slice a1_1 ((a0).b).length c1_1, Value.int .i64 ((a0).begun), Value.slice a3_1 ((a0).pieces).length c3_1, Value.int .i64 ((a0).dropped)]) 41, row 5 1 (.slice a1_1 ((a0).b).length c1_1) ((a0).b).length (((a0).b).map (Value.int .u8)), row 3 1 (.slice a3_1 ((a0).pieces).length c3_1) ((a0).pieces).length (((a0).pieces).map (Value.int .i64)), R] w0 w := HS
  refine W.rd (X.fieldAddr 1 fo41_1 rfl) rfl rfl rfl ?_
  refine W.rd (X.loadAt 0 HS rfl Try.underlying27 rfl rfl rfl) rfl rfl rfl ?_
  refine W.rd (X.lenSl Try.underlying27 rfl) rfl rfl rfl ?_
  refine W.rd (X.min2 rfl rfl) rfl rfl rfl ?_
  refine W.rd (X.max2 rfl rfl) rfl rfl rfl ?_
  refine W.rd (X.assign rfl) rfl rfl rfl ?_
  refine W.nil ?_
  refine At.next ?_
  refine V.keep [(0, Value.pointer (some ⟨b0, 0, none⟩)), (1, Value.int .i64 (imax (0) (imin (a1) ((((a0).b).length : Int)))))] ⟨rfl, rfl, trivial⟩ ?_
  refine V.seq ?_
  refine V.region ?_
  refine W.rd (X.move rfl) rfl rfl rfl ?_
  refine W.rd (X.nilCheck rfl) rfl rfl rfl ?_
  refine W.rd (X.fieldAddr 1 fo41_1 rfl) rfl rfl rfl ?_
  refine W.rd (X.loadAt 0 HS rfl Try.underlying27 rfl rfl rfl) rfl rfl rfl ?_
  refine W.rd (X.move rfl) rfl rfl rfl ?_
  obtain ⟨c3, H⟩ := ite_n H
  refine W.rd (X.slH Try.underlying27 inf5 rfl rfl c3 ((rdC.at 1 row_rd HS rfl)).cap) rfl rfl rfl ?_
  obtain ⟨t4, A5, H⟩ := bind_s H
  refine W.ev (Y.call Try.func20 (by kernel_rfl) rfl (vs := [Value.slice (vaddr a1_1 c1_1 ((0 : Int)).toNat 1) (cut ((a0).b) (0 : Int) (imax (0) (imin (a1) ((((a0).b).length : Int))))).length (c1_1 - ((0 : Int)).toNat)]) rfl (slices_Clone_Sbytebyte.calls (cut ((a0).b) (0 : Int) (imax (0) (imin (a1) ((((a0).b).length : Int))))) _ w0 _ (vaddr a1_1 c1_1 ((0 : Int)).toNat 1) (c1_1 - ((0 : Int)).toNat) t4 (rdC.part 1 (rdC.subM row_rd c3) rfl) A5 (Sep.St.tailJoin (m := []) (r := [blk b0 (#[Value.int .i64 ((a0).room), Value.slice a1_1 ((a0).b).length c1_1, Value.int .i64 ((a0).begun), Value.slice a3_1 ((a0).pieces).length c3_1, Value.int .i64 ((a0).dropped)]) 41, row 5 1 (.slice a1_1 ((a0).b).length c1_1) ((a0).b).length (((a0).b).map (Value.int .u8)), row 3 1 (.slice a3_1 ((a0).pieces).length c3_1) ((a0).pieces).length (((a0).pieces).map (Value.int .i64)), R]) HS))) rfl rfl rfl ?_
  rintro _ w ⟨at4_0, ct4_0, rfl, HS⟩
  replace HS := Sep.St.tailOpen (m := [row 5 1 (.slice at4_0 (t4).length ct4_0) (t4).length ((t4).map (Value.int .u8))]) (r := [blk b0 (#[Value.int .i64 ((a0).room), Value.slice a1_1 ((a0).b).length c1_1, Value.int .i64 ((a0).begun), Value.slice a3_1 ((a0).pieces).length c3_1, Value.int .i64 ((a0).dropped)]) 41, row 5 1 (.slice a1_1 ((a0).b).length c1_1) ((a0).b).length (((a0).b).map (Value.int .u8)), row 3 1 (.slice a3_1 ((a0).pieces).length c3_1) ((a0).pieces).length (((a0).pieces).map (Value.int .i64)), R]) HS
  have HS : Sep.St [row 5 1 (.slice at4_0 (t4).length ct4_0) (t4).length ((t4).map (Value.int .u8)), blk b0 (#[Value.int .i64 ((a0).room), Value.slice a1_1 ((a0).b).length c1_1, Value.int .i64 ((a0).begun), Value.slice a3_1 ((a0).pieces).length c3_1, Value.int .i64 ((a0).dropped)]) 41, row 5 1 (.slice a1_1 ((a0).b).length c1_1) ((a0).b).length (((a0).b).map (Value.int .u8)), row 3 1 (.slice a3_1 ((a0).pieces).length c3_1) ((a0).pieces).length (((a0).pieces).map (Value.int .i64)), R] w0 w := HS
  refine W.rd (X.assign rfl) rfl rfl rfl ?_
  refine W.nil ?_
  refine At.next ?_
  refine V.keep [(0, Value.pointer (some ⟨b0, 0, none⟩)), (1, Value.int .i64 (imax (0) (imin (a1) ((((a0).b).length : Int))))), (5, Value.slice at4_0 (t4).length ct4_0)] ⟨rfl, rfl, rfl, trivial⟩ ?_
  refine V.seq ?_
  refine V.region ?_
  refine W.rd (X.move rfl) rfl rfl rfl ?_
  refine W.rd (X.move rfl) rfl rfl rfl ?_
  refine W.rd (X.nilCheck rfl) rfl rfl rfl ?_
  refine W.rd (X.fieldAddr 1 fo41_1 rfl) rfl rfl rfl ?_
  refine W.rd (X.loadAt 1 HS rfl Try.underlying27 rfl rfl rfl) rfl rfl rfl ?_
  refine W.rd (X.move rfl) rfl rfl rfl ?_
  obtain ⟨t6, A7, H⟩ := bind_s H
  replace HS := HS.re [2, 0, 1, 3, 4] (by kernel_rfl)
  have HS : Sep.St [row 5 1 (.slice a1_1 ((a0).b).length c1_1) ((a0).b).length (((a0).b).map (Value.int .u8)), row 5 1 (.slice at4_0 (t4).length ct4_0) (t4).length ((t4).map (Value.int .u8)), blk b0 (#[Value.int .i64 ((a0).room), Value.slice a1_1 ((a0).b).length c1_1, Value.int .i64 ((a0).begun), Value.slice a3_1 ((a0).pieces).length c3_1, Value.int .i64 ((a0).dropped)]) 41, row 3 1 (.slice a3_1 ((a0).pieces).length c3_1) ((a0).pieces).length (((a0).pieces).map (Value.int .i64)), R] w0 w := HS
  refine W.ev (Y.call Try.func21 (by kernel_rfl) rfl (vs := [Value.slice a1_1 ((a0).b).length c1_1, Value.int .i64 (0), Value.int .i64 (imax (0) (imin (a1) ((((a0).b).length : Int))))]) rfl (slices_Delete_Sbytebyte.calls ((a0).b) 0 (imax (0) (imin (a1) ((((a0).b).length : Int)))) _ w0 _ a1_1 c1_1 t6  A7 (Sep.St.tailJoin (m := [row 5 1 (.slice a1_1 ((a0).b).length c1_1) ((a0).b).length (((a0).b).map (Value.int .u8))]) (r := [row 5 1 (.slice at4_0 (t4).length ct4_0) (t4).length ((t4).map (Value.int .u8)), blk b0 (#[Value.int .i64 ((a0).room), Value.slice a1_1 ((a0).b).length c1_1, Value.int .i64 ((a0).begun), Value.slice a3_1 ((a0).pieces).length c3_1, Value.int .i64 ((a0).dropped)]) 41, row 3 1 (.slice a3_1 ((a0).pieces).length c3_1) ((a0).pieces).length (((a0).pieces).map (Value.int .i64)), R]) HS))) rfl rfl rfl ?_
  rintro _ w ⟨at6_0, ct6_0, rfl, HS⟩
  replace HS := Sep.St.tailOpen (m := [row 5 1 (.slice at6_0 (t6).length ct6_0) (t6).length ((t6).map (Value.int .u8))]) (r := [row 5 1 (.slice at4_0 (t4).length ct4_0) (t4).length ((t4).map (Value.int .u8)), blk b0 (#[Value.int .i64 ((a0).room), Value.slice a1_1 ((a0).b).length c1_1, Value.int .i64 ((a0).begun), Value.slice a3_1 ((a0).pieces).length c3_1, Value.int .i64 ((a0).dropped)]) 41, row 3 1 (.slice a3_1 ((a0).pieces).length c3_1) ((a0).pieces).length (((a0).pieces).map (Value.int .i64)), R]) HS
  have HS : Sep.St [row 5 1 (.slice at6_0 (t6).length ct6_0) (t6).length ((t6).map (Value.int .u8)), row 5 1 (.slice at4_0 (t4).length ct4_0) (t4).length ((t4).map (Value.int .u8)), blk b0 (#[Value.int .i64 ((a0).room), Value.slice a1_1 ((a0).b).length c1_1, Value.int .i64 ((a0).begun), Value.slice a3_1 ((a0).pieces).length c3_1, Value.int .i64 ((a0).dropped)]) 41, row 3 1 (.slice a3_1 ((a0).pieces).length c3_1) ((a0).pieces).length (((a0).pieces).map (Value.int .i64)), R] w0 w := HS
  refine W.rd (X.nilCheck rfl) rfl rfl rfl ?_
  refine W.rd (X.fieldAddr 1 fo41_1 rfl) rfl rfl rfl ?_
  refine W.ev_none (Y.storeAt 2 HS rfl inf27 rfl rfl rfl rfl rfl rfl) rfl rfl ?_
  rintro _ w HS
  have HS : Sep.St [row 5 1 (.slice at6_0 (t6).length ct6_0) (t6).length ((t6).map (Value.int .u8)), row 5 1 (.slice at4_0 (t4).length ct4_0) (t4).length ((t4).map (Value.int .u8)), blk b0 (#[Value.int .i64 ((a0).room), Value.slice at6_0 (t6).length ct6_0, Value.int .i64 ((a0).begun), Value.slice a3_1 ((a0).pieces).length c3_1, Value.int .i64 ((a0).dropped)]) 41, row 3 1 (.slice a3_1 ((a0).pieces).length c3_1) ((a0).pieces).length (((a0).pieces).map (Value.int .i64)), R] w0 w := HS
  refine W.nil ?_
  refine At.next ?_
  refine V.keep [(0, Value.pointer (some ⟨b0, 0, none⟩)), (1, Value.int .i64 (imax (0) (imin (a1) ((((a0).b).length : Int))))), (5, Value.slice at4_0 (t4).length ct4_0)] ⟨rfl, rfl, rfl, trivial⟩ ?_
  refine V.seq ?_
  refine V.region ?_
  refine W.rd (X.move rfl) rfl rfl rfl ?_
  refine W.rd (X.move rfl) rfl rfl rfl ?_
  replace HS := HS.re [2, 0, 3, 1, 4] (by kernel_rfl)
  have HS : Sep.St [blk b0 (#[Value.int .i64 ((a0).room), Value.slice at6_0 (t6).length ct6_0, Value.int .i64 ((a0).begun), Value.slice a3_1 ((a0).pieces).length c3_1, Value.int .i64 ((a0).dropped)]) 41, row 5 1 (.slice at6_0 (t6).length ct6_0) (t6).length ((t6).map (Value.int .u8)), row 3 1 (.slice a3_1 ((a0).pieces).length c3_1) ((a0).pieces).length (((a0).pieces).map (Value.int .i64)), row 5 1 (.slice at4_0 (t4).length ct4_0) (t4).length ((t4).map (Value.int .u8)), R] w0 w := HS
  replace HS := ring_Ring.close (({ room := (a0).room, b := t6, begun := (a0).begun, pieces := (a0).pieces, dropped := (a0).dropped } : ring_Ring)) trivial HS
  have HS : Sep.St [ring_Ring.at b0 (({ room := (a0).room, b := t6, begun := (a0).begun, pieces := (a0).pieces, dropped := (a0).dropped } : ring_Ring)), row 5 1 (.slice at4_0 (t4).length ct4_0) (t4).length ((t4).map (Value.int .u8)), R] w0 w := HS
  obtain ⟨t8, A9, H⟩ := bind_s H
  refine W.ev (Y.call Try.func22 (by kernel_rfl) rfl (vs := [Value.pointer (some ⟨b0, 0, none⟩), Value.int .i64 (imax (0) (imin (a1) ((((a0).b).length : Int))))]) rfl (ring_Ring_passed.calls k ({ room := (a0).room, b := t6, begun := (a0).begun, pieces := (a0).pieces, dropped := (a0).dropped } : ring_Ring) (imax (0) (imin (a1) ((((a0).b).length : Int)))) _ w0 _ b0 t8  A9 (Sep.St.tailJoin (m := [ring_Ring.at b0 (({ room := (a0).room, b := t6, begun := (a0).begun, pieces := (a0).pieces, dropped := (a0).dropped } : ring_Ring))]) (r := [row 5 1 (.slice at4_0 (t4).length ct4_0) (t4).length ((t4).map (Value.int .u8)), R]) HS))) rfl rfl rfl ?_
  rintro _ w ⟨rfl, HS⟩
  replace HS := Sep.St.tailOpen (m := [ring_Ring.at b0 (t8)]) (r := [row 5 1 (.slice at4_0 (t4).length ct4_0) (t4).length ((t4).map (Value.int .u8)), R]) HS
  have HS : Sep.St [ring_Ring.at b0 (t8), row 5 1 (.slice at4_0 (t4).length ct4_0) (t4).length ((t4).map (Value.int .u8)), R] w0 w := HS
  refine W.nil ?_
  refine At.next ?_
  refine V.keep [(5, Value.slice at4_0 (t4).length ct4_0)] ⟨rfl, trivial⟩ ?_
  refine V.seq ?_
  refine V.region ?_
  refine W.rd (X.move rfl) rfl rfl rfl ?_
  refine W.rd (X.assign rfl) rfl rfl rfl ?_
  refine W.nil ?_
  refine At.next ?_
  refine V.keep [(4, Value.slice at4_0 (t4).length ct4_0)] ⟨rfl, trivial⟩ ?_
  refine V.ret ?_
  replace HS := HS.sel [1, 0, 2] [] (by kernel_rfl)
  cases H
  exact At.ret1 rfl rfl ⟨_, rfl, at4_0, ct4_0, rfl, HS⟩

/-! ### (*signalman/ring.Ring).Add: function 9 -/
def ring_Ring_Add.f (a0 : ring_Ring) (a1 : List Int) : Option (Bool × ring_Ring) := (if ((a1).length : Int) > (w64 (((a0).room) - (((a0).b).length : Int))) then some (false, ({ room := (a0).room, b := (a0).b, begun := (a0).begun, pieces := (a0).pieces, dropped := imin (w64 (((a0).dropped) + 1)) (4294967295) } : ring_Ring)) else (if (((a0).b).length : Int) + (a1).length ≤ 1099511627776 then (if (((a0).pieces).length : Int) + (([((a1).length : Int)] : List Int)).length ≤ 1099511627776 then some (true, ({ room := (a0).room, b := ((a0).b) ++ a1, begun := (a0).begun, pieces := ((a0).pieces) ++ ([((a1).length : Int)] : List Int), dropped := (a0).dropped } : ring_Ring)) else none) else none))
set_option maxRecDepth 100000 in
set_option maxHeartbeats 4000000 in
theorem ring_Ring_Add.calls (a0 : ring_Ring) (a1 : List Int) (R : As) (w0 w : World) (b0 : Nat) (sa1 : Option Addr) (sc1 : Nat) (r : Bool × ring_Ring) (hr1 : rdC R 1 (.slice sa1 (a1).length sc1) (a1).length ((a1).map (Value.int .u8))) (H : ring_Ring_Add.f a0 a1 = some r) (HS : Sep.St [ring_Ring.at b0 (a0), R] w0 w) : Calls Try.prog 9 #[Value.pointer (some ⟨b0, 0, none⟩), Value.slice sa1 (a1).length sc1] w (Ret fun u w => u = Value.bool (r.1) ∧ Sep.St [ring_Ring.at b0 (r.2), R] w0 w) := by
  unfold ring_Ring_Add.f at H
  refine calls_enter Try.func9 rfl rfl ?_
  have H : _ = some r := H
  refine V.seq ?_
  refine V.region ?_
  refine W.rd (X.assign rfl) rfl rfl rfl ?_
  refine W.nil ?_
  refine At.next ?_
  refine V.keep [(0, Value.pointer (some ⟨b0, 0, none⟩)), (1, Value.slice sa1 (a1).length sc1)] ⟨rfl, rfl, trivial⟩ ?_
  refine V.seq ?_
  refine V.seq ?_
  obtain ⟨a1_2, c1_2, a3_2, c3_2, hi3, HS⟩ := ring_Ring.open HS
  have HS : Sep.St [blk b0 (#[Value.int .i64 ((a0).room), Value.slice a1_2 ((a0).b).length c1_2, Value.int .i64 ((a0).begun), Value.slice a3_2 ((a0).pieces).length c3_2, Value.int .i64 ((a0).dropped)]) 41, row 5 1 (.slice a1_2 ((a0).b).length c1_2) ((a0).b).length (((a0).b).map (Value.int .u8)), row 3 1 (.slice a3_2 ((a0).pieces).length c3_2) ((a0).pieces).length (((a0).pieces).map (Value.int .i64)), R] w0 w := HS
  refine V.draw (es := []) (bl := []) (f := [(5, Value.slice sa1 (a1).length sc1), (6, Value.int .i64 (((a1).length : Int))), (7, Value.pointer (some ⟨b0, 0, none⟩)), (8, Value.pointer (some ⟨b0, 0, none⟩)), (9, Value.pointer (some ⟨b0, 0 + 0, none⟩)), (10, Value.int .i64 ((a0).room)), (11, Value.pointer (some ⟨b0, 0, none⟩)), (12, Value.pointer (some ⟨b0, 0, none⟩)), (13, Value.pointer (some ⟨b0, 0 + 1, none⟩)), (14, Value.slice a1_2 ((a0).b).length c1_2), (15, Value.int .i64 ((((a0).b).length : Int))), (16, Value.int .i64 (w64 (((a0).room) - (((a0).b).length : Int)))), (17, Value.bool (decide (((a1).length : Int) > (w64 (((a0).room) - (((a0).b).length : Int))))))]) (fun w => Sep.St [blk b0 (#[Value.int .i64 ((a0).room), Value.slice a1_2 ((a0).b).length c1_2, Value.int .i64 ((a0).begun), Value.slice a3_2 ((a0).pieces).length c3_2, Value.int .i64 ((a0).dropped)]) 41, row 5 1 (.slice a1_2 ((a0).b).length c1_2) ((a0).b).length (((a0).b).map (Value.int .u8)), row 3 1 (.slice a3_2 ((a0).pieces).length c3_2) ((a0).pieces).length (((a0).pieces).map (Value.int .i64)), R] w0 w) mo HS.drew rfl ?_
  refine T.fin [(0, Value.pointer (some ⟨b0, 0, none⟩)), (1, Value.slice sa1 (a1).length sc1), (17, Value.bool (decide (((a1).length : Int) > (w64 (((a0).room) - (((a0).b).length : Int))))))] rfl ⟨⟨_, Value.slice sa1 (a1).length sc1, [(1, Value.slice sa1 (a1).length sc1)], 5, rfl, rfl, ⟨.inl ⟨rfl, rfl⟩, trivial⟩, .run rfl (fun w HS => X.move rfl), rfl, rfl, rfl⟩, ⟨_, Value.int .i64 (((a1).length : Int)), [(5, Value.slice sa1 (a1).length sc1)], 6, rfl, rfl, ⟨.inr ⟨rfl, rfl⟩, trivial⟩, .run rfl (fun w HS => X.lenSl Try.underlying27 rfl), rfl, rfl, rfl⟩, ⟨_, Value.pointer (some ⟨b0, 0, none⟩), [(0, Value.pointer (some ⟨b0, 0, none⟩))], 7, rfl, rfl, ⟨.inl ⟨rfl, rfl⟩, trivial⟩, .run rfl (fun w HS => X.move rfl), rfl, rfl, rfl⟩, ⟨_, Value.pointer (some ⟨b0, 0, none⟩), [(7, Value.pointer (some ⟨b0, 0, none⟩))], 8, rfl, rfl, ⟨.inr ⟨rfl, rfl⟩, trivial⟩, .run rfl (fun w HS => X.nilCheck rfl), rfl, rfl, rfl⟩, ⟨_, Value.pointer (some ⟨b0, 0 + 0, none⟩), [(8, Value.pointer (some ⟨b0, 0, none⟩))], 9, rfl, rfl, ⟨.inr ⟨rfl, rfl⟩, trivial⟩, .run rfl (fun w HS => X.fieldAddr 0 fo41_0 rfl), rfl, rfl, rfl⟩, ⟨_, Value.int .i64 ((a0).room), [(9, Value.pointer (some ⟨b0, 0 + 0, none⟩))], 10, rfl, rfl, ⟨.inr ⟨rfl, rfl⟩, trivial⟩, .run rfl (fun w HS => X.loadAt 0 HS rfl Try.underlying3 rfl rfl rfl), rfl, rfl, rfl⟩, ⟨_, Value.pointer (some ⟨b0, 0, none⟩), [(0, Value.pointer (some ⟨b0, 0, none⟩))], 11, rfl, rfl, ⟨.inl ⟨rfl, rfl⟩, trivial⟩, .run rfl (fun w HS => X.move rfl), rfl, rfl, rfl⟩, ⟨_, Value.pointer (some ⟨b0, 0, none⟩), [(11, Value.pointer (some ⟨b0, 0, none⟩))], 12, rfl, rfl, ⟨.inr ⟨rfl, rfl⟩, trivial⟩, .run rfl (fun w HS => X.nilCheck rfl), rfl, rfl, rfl⟩, ⟨_, Value.pointer (some ⟨b0, 0 + 1, none⟩), [(12, Value.pointer (some ⟨b0, 0, none⟩))], 13, rfl, rfl, ⟨.inr ⟨rfl, rfl⟩, trivial⟩, .run rfl (fun w HS => X.fieldAddr 1 fo41_1 rfl), rfl, rfl, rfl⟩, ⟨_, Value.slice a1_2 ((a0).b).length c1_2, [(13, Value.pointer (some ⟨b0, 0 + 1, none⟩))], 14, rfl, rfl, ⟨.inr ⟨rfl, rfl⟩, trivial⟩, .run rfl (fun w HS => X.loadAt 0 HS rfl Try.underlying27 rfl rfl rfl), rfl, rfl, rfl⟩, ⟨_, Value.int .i64 ((((a0).b).length : Int)), [(14, Value.slice a1_2 ((a0).b).length c1_2)], 15, rfl, rfl, ⟨.inr ⟨rfl, rfl⟩, trivial⟩, .run rfl (fun w HS => X.lenSl Try.underlying27 rfl), rfl, rfl, rfl⟩, ⟨_, Value.int .i64 (w64 (((a0).room) - (((a0).b).length : Int))), [(10, Value.int .i64 ((a0).room)), (15, Value.int .i64 ((((a0).b).length : Int)))], 16, rfl, rfl, ⟨.inr ⟨rfl, rfl⟩, ⟨.inr ⟨rfl, rfl⟩, trivial⟩⟩, .run rfl (fun w HS => X.sub rfl rfl), rfl, rfl, rfl⟩, ⟨_, Value.bool (decide (((a1).length : Int) > (w64 (((a0).room) - (((a0).b).length : Int))))), [(6, Value.int .i64 (((a1).length : Int))), (16, Value.int .i64 (w64 (((a0).room) - (((a0).b).length : Int))))], 17, rfl, rfl, ⟨.inr ⟨rfl, rfl⟩, ⟨.inr ⟨rfl, rfl⟩, trivial⟩⟩, .run rfl (fun w HS => X.cmp (decide (((a1).length : Int) > (w64 (((a0).room) - (((a0).b).length : Int))))) rfl rfl rfl rfl), rfl, rfl, rfl⟩, trivial⟩ ⟨.inl ⟨rfl, rfl⟩, ⟨.inl ⟨rfl, rfl⟩, ⟨.inr ⟨rfl, rfl⟩, trivial⟩⟩⟩ (fun w HS => ?_)
  have HS : Sep.St [blk b0 (#[Value.int .i64 ((a0).room), Value.slice a1_2 ((a0).b).length c1_2, Value.int .i64 ((a0).begun), Value.slice a3_2 ((a0).pieces).length c3_2, Value.int .i64 ((a0).dropped)]) 41, row 5 1 (.slice a1_2 ((a0).b).length c1_2) ((a0).b).length (((a0).b).map (Value.int .u8)), row 3 1 (.slice a3_2 ((a0).pieces).length c3_2) ((a0).pieces).length (((a0).pieces).map (Value.int .i64)), R] w0 w := HS
  refine At.next ?_
  refine V.keep [(0, Value.pointer (some ⟨b0, 0, none⟩)), (1, Value.slice sa1 (a1).length sc1), (17, Value.bool (decide (((a1).length : Int) > (w64 (((a0).room) - (((a0).b).length : Int))))))] ⟨rfl, rfl, rfl, trivial⟩ ?_
  by_cases c4 : ((a1).length : Int) > (w64 (((a0).room) - (((a0).b).length : Int)))
  · replace H := ite_t c4 H
    refine V.condT (sb (decide_eq_true c4)) ?_
    refine V.seq ?_
    refine V.region ?_
    refine W.rd (X.move rfl) rfl rfl rfl ?_
    refine W.rd (X.move rfl) rfl rfl rfl ?_
    refine W.rd (X.nilCheck rfl) rfl rfl rfl ?_
    refine W.rd (X.fieldAddr 4 fo41_4 rfl) rfl rfl rfl ?_
    refine W.rd (X.loadAt 0 HS rfl Try.underlying3 rfl rfl rfl) rfl rfl rfl ?_
    refine W.rd (X.add rfl rfl) rfl rfl rfl ?_
    refine W.rd (X.min2 rfl rfl) rfl rfl rfl ?_
    refine W.rd (X.nilCheck rfl) rfl rfl rfl ?_
    refine W.rd (X.fieldAddr 4 fo41_4 rfl) rfl rfl rfl ?_
    refine W.ev_none (Y.storeAt 0 HS rfl inf3 rfl rfl rfl rfl rfl rfl) rfl rfl ?_
    rintro _ w HS
    have HS : Sep.St [blk b0 (#[Value.int .i64 ((a0).room), Value.slice a1_2 ((a0).b).length c1_2, Value.int .i64 ((a0).begun), Value.slice a3_2 ((a0).pieces).length c3_2, Value.int .i64 (imin (w64 (((a0).dropped) + 1)) (4294967295))]) 41, row 5 1 (.slice a1_2 ((a0).b).length c1_2) ((a0).b).length (((a0).b).map (Value.int .u8)), row 3 1 (.slice a3_2 ((a0).pieces).length c3_2) ((a0).pieces).length (((a0).pieces).map (Value.int .i64)), R] w0 w := HS
    refine W.nil ?_
    refine At.next ?_
    refine V.keep [] trivial ?_
    refine V.seq ?_
    refine V.region ?_
    refine W.rd (X.assign rfl) rfl rfl rfl ?_
    refine W.nil ?_
    refine At.next ?_
    refine V.keep [(4, Value.bool (false))] ⟨rfl, trivial⟩ ?_
    refine V.ret ?_
    refine At.thenRet ?_
    replace HS := ring_Ring.close (({ room := (a0).room, b := (a0).b, begun := (a0).begun, pieces := (a0).pieces, dropped := imin (w64 (((a0).dropped) + 1)) (4294967295) } : ring_Ring)) trivial HS
    have HS : Sep.St [ring_Ring.at b0 (({ room := (a0).room, b := (a0).b, begun := (a0).begun, pieces := (a0).pieces, dropped := imin (w64 (((a0).dropped) + 1)) (4294967295) } : ring_Ring)), R] w0 w := HS
    cases H
    exact At.ret1 rfl rfl ⟨_, rfl, rfl, HS⟩
  · replace H := ite_f c4 H
    refine V.condF (sb (decide_eq_false c4)) ?_
    refine V.skip ?_
    refine At.next ?_
    refine V.keep [(0, Value.pointer (some ⟨b0, 0, none⟩)), (1, Value.slice sa1 (a1).length sc1)] ⟨rfl, rfl, trivial⟩ ?_
    refine V.seq ?_
    refine V.region ?_
    refine W.rd (X.move rfl) rfl rfl rfl ?_
    refine W.rd (X.move rfl) rfl rfl rfl ?_
    refine W.rd (X.nilCheck rfl) rfl rfl rfl ?_
    refine W.rd (X.fieldAddr 1 fo41_1 rfl) rfl rfl rfl ?_
    refine W.rd (X.loadAt 0 HS rfl Try.underlying27 rfl rfl rfl) rfl rfl rfl ?_
    refine W.rd (X.move rfl) rfl rfl rfl ?_
    obtain ⟨c5, H⟩ := ite_n H
    refine W.ev (Y.appF (Value.int .u8) (fun _ => rfl) 1 Try.underlying27 ap5 rfl HS rfl rfl rfl (rdC.at 3 hr1 HS rfl) (by omega) (by omega)) rfl rfl rfl ?_
    rintro _ w ⟨ra6, rc7, rfl, HS⟩
    have HS : Sep.St [blk b0 (#[Value.int .i64 ((a0).room), Value.slice a1_2 ((a0).b).length c1_2, Value.int .i64 ((a0).begun), Value.slice a3_2 ((a0).pieces).length c3_2, Value.int .i64 ((a0).dropped)]) 41, row 5 1 (.slice ra6 (((a0).b) ++ a1).length rc7) (((a0).b) ++ a1).length ((((a0).b) ++ a1).map (Value.int .u8)), row 3 1 (.slice a3_2 ((a0).pieces).length c3_2) ((a0).pieces).length (((a0).pieces).map (Value.int .i64)), R] w0 w := HS
    refine W.rd (X.nilCheck rfl) rfl rfl rfl ?_
    refine W.rd (X.fieldAddr 1 fo41_1 rfl) rfl rfl rfl ?_
    refine W.ev_none (Y.storeAt 0 HS rfl inf27 rfl rfl rfl rfl rfl rfl) rfl rfl ?_
    rintro _ w HS
    have HS : Sep.St [blk b0 (#[Value.int .i64 ((a0).room), Value.slice ra6 (((a0).b) ++ a1).length rc7, Value.int .i64 ((a0).begun), Value.slice a3_2 ((a0).pieces).length c3_2, Value.int .i64 ((a0).dropped)]) 41, row 5 1 (.slice ra6 (((a0).b) ++ a1).length rc7) (((a0).b) ++ a1).length ((((a0).b) ++ a1).map (Value.int .u8)), row 3 1 (.slice a3_2 ((a0).pieces).length c3_2) ((a0).pieces).length (((a0).pieces).map (Value.int .i64)), R] w0 w := HS
    refine W.nil ?_
    refine At.next ?_
    refine V.keep [(0, Value.pointer (some ⟨b0, 0, none⟩)), (1, Value.slice sa1 (a1).length sc1)] ⟨rfl, rfl, trivial⟩ ?_
    refine V.seq ?_
    refine V.region ?_
    refine W.rd (X.move rfl) rfl rfl rfl ?_
    refine W.rd (X.move rfl) rfl rfl rfl ?_
    refine W.rd (X.nilCheck rfl) rfl rfl rfl ?_
    refine W.rd (X.fieldAddr 3 fo41_3 rfl) rfl rfl rfl ?_
    refine W.rd (X.loadAt 0 HS rfl Try.underlying23 rfl rfl rfl) rfl rfl rfl ?_
    refine W.rd (X.move rfl) rfl rfl rfl ?_
    refine W.rd (X.lenSl Try.underlying27 rfl) rfl rfl rfl ?_
    refine W.ev (Y.litB (e := 3) (sz := 1) (vs := #[(0, Value.int .i64 (((a1).length : Int)))]) [Value.int .i64 (((a1).length : Int))] HS (fun a ha => by simp only [List.map_toArray, List.map_cons, List.map_nil]; rw [ha.ev (x := .tmp 42) (v := Value.int .i64 (((a1).length : Int))) rfl]; try rfl) rfl (by decide) (fun _ => by kernel_rfl)) rfl rfl rfl ?_
    rintro _ w ⟨lb10, rfl, HS⟩
    have HS : Sep.St [row 3 1 (.slice (some ⟨lb10, 0, none⟩) (([((a1).length : Int)] : List Int)).length 1) (([((a1).length : Int)] : List Int)).length ((([((a1).length : Int)] : List Int)).map (Value.int .i64)), blk b0 (#[Value.int .i64 ((a0).room), Value.slice ra6 (((a0).b) ++ a1).length rc7, Value.int .i64 ((a0).begun), Value.slice a3_2 ((a0).pieces).length c3_2, Value.int .i64 ((a0).dropped)]) 41, row 5 1 (.slice ra6 (((a0).b) ++ a1).length rc7) (((a0).b) ++ a1).length ((((a0).b) ++ a1).map (Value.int .u8)), row 3 1 (.slice a3_2 ((a0).pieces).length c3_2) ((a0).pieces).length (((a0).pieces).map (Value.int .i64)), R] w0 w := HS
    obtain ⟨c11, H⟩ := ite_n H
    refine W.ev (Y.appF (Value.int .i64) (fun _ => rfl) 3 Try.underlying23 ap3 rfl HS rfl rfl rfl (rdC.at 0 row_rd HS rfl) (by omega) (by omega)) rfl rfl rfl ?_
    rintro _ w ⟨ra12, rc13, rfl, HS⟩
    have HS : Sep.St [row 3 1 (.slice (some ⟨lb10, 0, none⟩) (([((a1).length : Int)] : List Int)).length 1) (([((a1).length : Int)] : List Int)).length ((([((a1).length : Int)] : List Int)).map (Value.int .i64)), blk b0 (#[Value.int .i64 ((a0).room), Value.slice ra6 (((a0).b) ++ a1).length rc7, Value.int .i64 ((a0).begun), Value.slice a3_2 ((a0).pieces).length c3_2, Value.int .i64 ((a0).dropped)]) 41, row 5 1 (.slice ra6 (((a0).b) ++ a1).length rc7) (((a0).b) ++ a1).length ((((a0).b) ++ a1).map (Value.int .u8)), row 3 1 (.slice ra12 (((a0).pieces) ++ ([((a1).length : Int)] : List Int)).length rc13) (((a0).pieces) ++ ([((a1).length : Int)] : List Int)).length ((((a0).pieces) ++ ([((a1).length : Int)] : List Int)).map (Value.int .i64)), R] w0 w := HS
    refine W.rd (X.nilCheck rfl) rfl rfl rfl ?_
    refine W.rd (X.fieldAddr 3 fo41_3 rfl) rfl rfl rfl ?_
    refine W.ev_none (Y.storeAt 1 HS rfl inf23 rfl rfl rfl rfl rfl rfl) rfl rfl ?_
    rintro _ w HS
    have HS : Sep.St [row 3 1 (.slice (some ⟨lb10, 0, none⟩) (([((a1).length : Int)] : List Int)).length 1) (([((a1).length : Int)] : List Int)).length ((([((a1).length : Int)] : List Int)).map (Value.int .i64)), blk b0 (#[Value.int .i64 ((a0).room), Value.slice ra6 (((a0).b) ++ a1).length rc7, Value.int .i64 ((a0).begun), Value.slice ra12 (((a0).pieces) ++ ([((a1).length : Int)] : List Int)).length rc13, Value.int .i64 ((a0).dropped)]) 41, row 5 1 (.slice ra6 (((a0).b) ++ a1).length rc7) (((a0).b) ++ a1).length ((((a0).b) ++ a1).map (Value.int .u8)), row 3 1 (.slice ra12 (((a0).pieces) ++ ([((a1).length : Int)] : List Int)).length rc13) (((a0).pieces) ++ ([((a1).length : Int)] : List Int)).length ((((a0).pieces) ++ ([((a1).length : Int)] : List Int)).map (Value.int .i64)), R] w0 w := HS
    refine W.nil ?_
    refine At.next ?_
    refine V.keep [] trivial ?_
    refine V.seq ?_
    refine V.region ?_
    refine W.rd (X.assign rfl) rfl rfl rfl ?_
    refine W.nil ?_
    refine At.next ?_
    refine V.keep [(4, Value.bool (true))] ⟨rfl, trivial⟩ ?_
    refine V.ret ?_
    replace HS := HS.re [1, 2, 3, 0, 4] (by kernel_rfl)
    have HS : Sep.St [blk b0 (#[Value.int .i64 ((a0).room), Value.slice ra6 (((a0).b) ++ a1).length rc7, Value.int .i64 ((a0).begun), Value.slice ra12 (((a0).pieces) ++ ([((a1).length : Int)] : List Int)).length rc13, Value.int .i64 ((a0).dropped)]) 41, row 5 1 (.slice ra6 (((a0).b) ++ a1).length rc7) (((a0).b) ++ a1).length ((((a0).b) ++ a1).map (Value.int .u8)), row 3 1 (.slice ra12 (((a0).pieces) ++ ([((a1).length : Int)] : List Int)).length rc13) (((a0).pieces) ++ ([((a1).length : Int)] : List Int)).length ((((a0).pieces) ++ ([((a1).length : Int)] : List Int)).map (Value.int .i64)), row 3 1 (.slice (some ⟨lb10, 0, none⟩) (([((a1).length : Int)] : List Int)).length 1) (([((a1).length : Int)] : List Int)).length ((([((a1).length : Int)] : List Int)).map (Value.int .i64)), R] w0 w := HS
    replace HS := ring_Ring.close (({ room := (a0).room, b := ((a0).b) ++ a1, begun := (a0).begun, pieces := ((a0).pieces) ++ ([((a1).length : Int)] : List Int), dropped := (a0).dropped } : ring_Ring)) trivial HS
    have HS : Sep.St [ring_Ring.at b0 (({ room := (a0).room, b := ((a0).b) ++ a1, begun := (a0).begun, pieces := ((a0).pieces) ++ ([((a1).length : Int)] : List Int), dropped := (a0).dropped } : ring_Ring)), row 3 1 (.slice (some ⟨lb10, 0, none⟩) (([((a1).length : Int)] : List Int)).length 1) (([((a1).length : Int)] : List Int)).length ((([((a1).length : Int)] : List Int)).map (Value.int .i64)), R] w0 w := HS
    replace HS := HS.sel [0, 2] [1] (by kernel_rfl)
    cases H
    exact At.ret1 rfl rfl ⟨_, rfl, rfl, HS⟩

/-! ### (*signalman/ring.Ring).Dropped: function 12 -/
def ring_Ring_Dropped.f (a0 : ring_Ring) : Option (Int) := some ((a0).dropped)
set_option maxRecDepth 100000 in
set_option maxHeartbeats 4000000 in
theorem ring_Ring_Dropped.calls (a0 : ring_Ring) (R : As) (w0 w : World) (b0 : Nat) (a1_p0 : Option Addr) (c1_p0 : Nat) (a3_p0 : Option Addr) (c3_p0 : Nat) (r : Int)  (H : ring_Ring_Dropped.f a0 = some r) (HS : Sep.St [blk b0 (#[Value.int .i64 ((a0).room), Value.slice a1_p0 ((a0).b).length c1_p0, Value.int .i64 ((a0).begun), Value.slice a3_p0 ((a0).pieces).length c3_p0, Value.int .i64 ((a0).dropped)]) 41, row 5 1 (.slice a1_p0 ((a0).b).length c1_p0) ((a0).b).length (((a0).b).map (Value.int .u8)), row 3 1 (.slice a3_p0 ((a0).pieces).length c3_p0) ((a0).pieces).length (((a0).pieces).map (Value.int .i64)), R] w0 w) : Calls Try.prog 12 #[Value.pointer (some ⟨b0, 0, none⟩)] w (Ret fun u w => u = Value.int .i64 (r) ∧ Sep.St [blk b0 (#[Value.int .i64 ((a0).room), Value.slice a1_p0 ((a0).b).length c1_p0, Value.int .i64 ((a0).begun), Value.slice a3_p0 ((a0).pieces).length c3_p0, Value.int .i64 ((a0).dropped)]) 41, row 5 1 (.slice a1_p0 ((a0).b).length c1_p0) ((a0).b).length (((a0).b).map (Value.int .u8)), row 3 1 (.slice a3_p0 ((a0).pieces).length c3_p0) ((a0).pieces).length (((a0).pieces).map (Value.int .i64)), R] w0 w) := by
  unfold ring_Ring_Dropped.f at H
  refine calls_enter Try.func12 rfl rfl ?_
  have H : _ = some r := H
  refine V.seq ?_
  refine V.region ?_
  refine W.rd (X.assign rfl) rfl rfl rfl ?_
  refine W.nil ?_
  refine At.next ?_
  refine V.keep [(0, Value.pointer (some ⟨b0, 0, none⟩))] ⟨rfl, trivial⟩ ?_
  refine V.seq ?_
  refine V.region ?_
  refine W.rd (X.move rfl) rfl rfl rfl ?_
  refine W.rd (X.nilCheck rfl) rfl rfl rfl ?_
  refine W.rd (X.fieldAddr 4 fo41_4 rfl) rfl rfl rfl ?_
  refine W.rd (X.loadAt 0 HS rfl Try.underlying3 rfl rfl rfl) rfl rfl rfl ?_
  refine W.rd (X.assign rfl) rfl rfl rfl ?_
  refine W.nil ?_
  refine At.next ?_
  refine V.keep [(2, Value.int .i64 ((a0).dropped))] ⟨rfl, trivial⟩ ?_
  refine V.ret ?_
  cases H
  exact At.ret1 rfl rfl ⟨_, rfl, rfl, HS⟩

/-! ### signalman/signalmanlaw11.alive: function 7 -/
def signalmanlaw11_alive.f (k : Nat)  : Option (Bool) := ((ring_New.f 5).bind fun t1 => ((ring_Ring_Take.f k t1 3).bind fun t4 => ((ring_Ring_Add.f t4.2 ([97, 98, 99] : List Int)).bind fun t9 => (if ((t4.1).length : Int) = 0 then (if t9.1 = true then ((ring_Ring_Add.f t9.2 ([100, 101, 102] : List Int)).bind fun t16 => (if t16.1 = true then some (false) else ((ring_Ring_Dropped.f t16.2).bind fun t21 => (if t21 = 1 then ((ring_Ring_Take.f k t16.2 2).bind fun t24 => some (sEq (t24.1) (([97, 98] : List Int)))) else some (false))))) else some (false)) else some (false)))))
set_option maxRecDepth 100000 in
set_option maxHeartbeats 4000000 in
theorem signalmanlaw11_alive.calls (k : Nat)  (R : As) (w0 w : World)  (r : Bool)  (H : signalmanlaw11_alive.f k  = some r) (HS : Sep.St [R] w0 w) : Calls Try.prog 7 #[] w (Ret fun u w => u = Value.bool (r) ∧ Sep.St [R] w0 w) := by
  unfold signalmanlaw11_alive.f at H
  refine calls_enter Try.func7 rfl rfl ?_
  have H : _ = some r := H
  refine V.seq ?_
  refine V.region ?_
  refine W.rd (X.assign rfl) rfl rfl rfl ?_
  refine W.nil ?_
  refine At.next ?_
  refine V.keep [] trivial ?_
  refine V.seq ?_
  refine V.region ?_
  obtain ⟨t1, A2, H⟩ := bind_s H
  refine W.ev (Y.call Try.func8 (by kernel_rfl) rfl (vs := [Value.int .i64 (5)]) rfl (ring_New.calls 5 _ w0 _  t1  A2 (Sep.St.tailJoin (m := []) (r := [R]) HS))) rfl rfl rfl ?_
  rintro _ w ⟨bt1_0, rfl, HS⟩
  replace HS := Sep.St.tailOpen (m := [ring_Ring.at bt1_0 (t1)]) (r := [R]) HS
  have HS : Sep.St [ring_Ring.at bt1_0 (t1), R] w0 w := HS
  refine W.rd (X.assign rfl) rfl rfl rfl ?_
  refine W.nil ?_
  refine At.next ?_
  refine V.keep [(1, Value.pointer (some ⟨bt1_0, 0, none⟩))] ⟨rfl, trivial⟩ ?_
  refine V.seq ?_
  refine V.seq ?_
  refine V.region ?_
  refine W.rd (X.move rfl) rfl rfl rfl ?_
  refine W.rd (X.eqP Try.underlying25 rfl rfl) rfl rfl rfl ?_
  refine W.nil ?_
  refine At.next ?_
  refine V.keep [(1, Value.pointer (some ⟨bt1_0, 0, none⟩)), (6, Value.bool (false))] ⟨rfl, rfl, trivial⟩ ?_
  refine V.condF rfl ?_
  refine V.skip ?_
  refine At.next ?_
  refine V.keep [(1, Value.pointer (some ⟨bt1_0, 0, none⟩))] ⟨rfl, trivial⟩ ?_
  refine V.seq ?_
  refine V.region ?_
  refine W.rd (X.move rfl) rfl rfl rfl ?_
  obtain ⟨t4, A5, H⟩ := bind_s H
  refine W.ev (Y.call Try.func10 (by kernel_rfl) rfl (vs := [Value.pointer (some ⟨bt1_0, 0, none⟩), Value.int .i64 (3)]) rfl (ring_Ring_Take.calls k t1 3 _ w0 _ bt1_0 t4  A5 (Sep.St.tailJoin (m := [ring_Ring.at bt1_0 (t1)]) (r := [R]) HS))) rfl rfl rfl ?_
  rintro _ w ⟨at4_0, ct4_0, rfl, HS⟩
  replace HS := Sep.St.tailOpen (m := [row 5 1 (.slice at4_0 (t4.1).length ct4_0) (t4.1).length ((t4.1).map (Value.int .u8)), ring_Ring.at bt1_0 (t4.2)]) (r := [R]) HS
  have HS : Sep.St [row 5 1 (.slice at4_0 (t4.1).length ct4_0) (t4.1).length ((t4.1).map (Value.int .u8)), ring_Ring.at bt1_0 (t4.2), R] w0 w := HS
  refine W.rd (X.lenSl Try.underlying27 rfl) rfl rfl rfl ?_
  refine W.rd (X.assign rfl) rfl rfl rfl ?_
  refine W.nil ?_
  refine At.next ?_
  refine V.keep [(1, Value.pointer (some ⟨bt1_0, 0, none⟩)), (2, Value.int .i64 (((t4.1).length : Int)))] ⟨rfl, rfl, trivial⟩ ?_
  refine V.seq ?_
  refine V.region ?_
  refine W.rd (X.move rfl) rfl rfl rfl ?_
  refine W.ev (Y.litB (e := 5) (sz := 1) (vs := #[(0, Value.int .u8 (97)), (1, Value.int .u8 (98)), (2, Value.int .u8 (99))]) [Value.int .u8 (97), Value.int .u8 (98), Value.int .u8 (99)] HS (fun a ha => by simp only [List.map_toArray, List.map_cons, List.map_nil]; try rfl) rfl (by decide) (fun _ => by kernel_rfl)) rfl rfl rfl ?_
  rintro _ w ⟨lb8, rfl, HS⟩
  have HS : Sep.St [row 5 1 (.slice (some ⟨lb8, 0, none⟩) (([97, 98, 99] : List Int)).length 3) (([97, 98, 99] : List Int)).length ((([97, 98, 99] : List Int)).map (Value.int .u8)), row 5 1 (.slice at4_0 (t4.1).length ct4_0) (t4.1).length ((t4.1).map (Value.int .u8)), ring_Ring.at bt1_0 (t4.2), R] w0 w := HS
  refine W.ev (Y.markS 0 HS rfl (by decide) Try.underlying27 Try.underlying5 rfl) rfl rfl rfl ?_
  rintro _ w ⟨rfl, HS⟩
  have HS : Sep.St [fsl 1 (.slice (some ⟨lb8, 0, none⟩) (([97, 98, 99] : List Int)).length 3) (([97, 98, 99] : List Int)).length ((([97, 98, 99] : List Int)).map (Value.int .u8)), row 5 1 (.slice at4_0 (t4.1).length ct4_0) (t4.1).length ((t4.1).map (Value.int .u8)), ring_Ring.at bt1_0 (t4.2), R] w0 w := HS
  obtain ⟨t9, A10, H⟩ := bind_s H
  replace HS := HS.re [2, 0, 1, 3] (by kernel_rfl)
  have HS : Sep.St [ring_Ring.at bt1_0 (t4.2), fsl 1 (.slice (some ⟨lb8, 0, none⟩) (([97, 98, 99] : List Int)).length 3) (([97, 98, 99] : List Int)).length ((([97, 98, 99] : List Int)).map (Value.int .u8)), row 5 1 (.slice at4_0 (t4.1).length ct4_0) (t4.1).length ((t4.1).map (Value.int .u8)), R] w0 w := HS
  refine W.ev (Y.call Try.func9 (by kernel_rfl) rfl (vs := [Value.pointer (some ⟨bt1_0, 0, none⟩), Value.slice (some ⟨lb8, 0, none⟩) (([97, 98, 99] : List Int)).length 3]) rfl (ring_Ring_Add.calls t4.2 ([97, 98, 99] : List Int) _ w0 _ bt1_0 (some ⟨lb8, 0, none⟩) 3 t9 (rdC.part 0 fsl.rd rfl) A10 (Sep.St.tailJoin (m := [ring_Ring.at bt1_0 (t4.2)]) (r := [fsl 1 (.slice (some ⟨lb8, 0, none⟩) (([97, 98, 99] : List Int)).length 3) (([97, 98, 99] : List Int)).length ((([97, 98, 99] : List Int)).map (Value.int .u8)), row 5 1 (.slice at4_0 (t4.1).length ct4_0) (t4.1).length ((t4.1).map (Value.int .u8)), R]) HS))) rfl rfl rfl ?_
  rintro _ w ⟨rfl, HS⟩
  replace HS := Sep.St.tailOpen (m := [ring_Ring.at bt1_0 (t9.2)]) (r := [fsl 1 (.slice (some ⟨lb8, 0, none⟩) (([97, 98, 99] : List Int)).length 3) (([97, 98, 99] : List Int)).length ((([97, 98, 99] : List Int)).map (Value.int .u8)), row 5 1 (.slice at4_0 (t4.1).length ct4_0) (t4.1).length ((t4.1).map (Value.int .u8)), R]) HS
  have HS : Sep.St [ring_Ring.at bt1_0 (t9.2), fsl 1 (.slice (some ⟨lb8, 0, none⟩) (([97, 98, 99] : List Int)).length 3) (([97, 98, 99] : List Int)).length ((([97, 98, 99] : List Int)).map (Value.int .u8)), row 5 1 (.slice at4_0 (t4.1).length ct4_0) (t4.1).length ((t4.1).map (Value.int .u8)), R] w0 w := HS
  refine W.rd (X.assign rfl) rfl rfl rfl ?_
  refine W.nil ?_
  refine At.next ?_
  refine V.keep [(1, Value.pointer (some ⟨bt1_0, 0, none⟩)), (2, Value.int .i64 (((t4.1).length : Int))), (3, Value.bool (t9.1))] ⟨rfl, rfl, rfl, trivial⟩ ?_
  refine V.seq ?_
  refine V.region ?_
  refine W.rd (X.move rfl) rfl rfl rfl ?_
  refine W.rd (X.cmp (decide (((t4.1).length : Int) = 0)) rfl rfl rfl rfl) rfl rfl rfl ?_
  refine W.rd (X.move rfl) rfl rfl rfl ?_
  by_cases c11 : ((t4.1).length : Int) = 0
  · replace H := ite_t c11 H
    refine W.want 16 rfl (sb (decide_eq_true c11)) ?_
    refine W.rd (X.move rfl) rfl rfl rfl ?_
    refine W.rd (X.pickT (sb (decide_eq_true c11)) rfl) rfl rfl rfl ?_
    refine W.rd (X.move rfl) rfl rfl rfl ?_
    by_cases c12 : t9.1 = true
    · replace H := ite_t c12 H
      refine W.want 19 rfl (sb c12) ?_
      refine W.rd (X.move rfl) rfl rfl rfl ?_
      refine W.want 19 rfl (sb c12) ?_
      refine W.ev (Y.litB (e := 5) (sz := 1) (vs := #[(0, Value.int .u8 (100)), (1, Value.int .u8 (101)), (2, Value.int .u8 (102))]) [Value.int .u8 (100), Value.int .u8 (101), Value.int .u8 (102)] HS (fun a ha => by simp only [List.map_toArray, List.map_cons, List.map_nil]; try rfl) rfl (by decide) (fun _ => by kernel_rfl)) rfl rfl rfl ?_
      rintro _ w ⟨lb15, rfl, HS⟩
      have HS : Sep.St [row 5 1 (.slice (some ⟨lb15, 0, none⟩) (([100, 101, 102] : List Int)).length 3) (([100, 101, 102] : List Int)).length ((([100, 101, 102] : List Int)).map (Value.int .u8)), ring_Ring.at bt1_0 (t9.2), fsl 1 (.slice (some ⟨lb8, 0, none⟩) (([97, 98, 99] : List Int)).length 3) (([97, 98, 99] : List Int)).length ((([97, 98, 99] : List Int)).map (Value.int .u8)), row 5 1 (.slice at4_0 (t4.1).length ct4_0) (t4.1).length ((t4.1).map (Value.int .u8)), R] w0 w := HS
      refine W.want 19 rfl (sb c12) ?_
      refine W.ev (Y.markS 0 HS rfl (by decide) Try.underlying27 Try.underlying5 rfl) rfl rfl rfl ?_
      rintro _ w ⟨rfl, HS⟩
      have HS : Sep.St [fsl 1 (.slice (some ⟨lb15, 0, none⟩) (([100, 101, 102] : List Int)).length 3) (([100, 101, 102] : List Int)).length ((([100, 101, 102] : List Int)).map (Value.int .u8)), ring_Ring.at bt1_0 (t9.2), fsl 1 (.slice (some ⟨lb8, 0, none⟩) (([97, 98, 99] : List Int)).length 3) (([97, 98, 99] : List Int)).length ((([97, 98, 99] : List Int)).map (Value.int .u8)), row 5 1 (.slice at4_0 (t4.1).length ct4_0) (t4.1).length ((t4.1).map (Value.int .u8)), R] w0 w := HS
      refine W.want 19 rfl (sb c12) ?_
      obtain ⟨t16, A17, H⟩ := bind_s H
      replace HS := HS.re [1, 0, 2, 3, 4] (by kernel_rfl)
      have HS : Sep.St [ring_Ring.at bt1_0 (t9.2), fsl 1 (.slice (some ⟨lb15, 0, none⟩) (([100, 101, 102] : List Int)).length 3) (([100, 101, 102] : List Int)).length ((([100, 101, 102] : List Int)).map (Value.int .u8)), fsl 1 (.slice (some ⟨lb8, 0, none⟩) (([97, 98, 99] : List Int)).length 3) (([97, 98, 99] : List Int)).length ((([97, 98, 99] : List Int)).map (Value.int .u8)), row 5 1 (.slice at4_0 (t4.1).length ct4_0) (t4.1).length ((t4.1).map (Value.int .u8)), R] w0 w := HS
      refine W.ev (Y.call Try.func9 (by kernel_rfl) rfl (vs := [Value.pointer (some ⟨bt1_0, 0, none⟩), Value.slice (some ⟨lb15, 0, none⟩) (([100, 101, 102] : List Int)).length 3]) rfl (ring_Ring_Add.calls t9.2 ([100, 101, 102] : List Int) _ w0 _ bt1_0 (some ⟨lb15, 0, none⟩) 3 t16 (rdC.part 0 fsl.rd rfl) A17 (Sep.St.tailJoin (m := [ring_Ring.at bt1_0 (t9.2)]) (r := [fsl 1 (.slice (some ⟨lb15, 0, none⟩) (([100, 101, 102] : List Int)).length 3) (([100, 101, 102] : List Int)).length ((([100, 101, 102] : List Int)).map (Value.int .u8)), fsl 1 (.slice (some ⟨lb8, 0, none⟩) (([97, 98, 99] : List Int)).length 3) (([97, 98, 99] : List Int)).length ((([97, 98, 99] : List Int)).map (Value.int .u8)), row 5 1 (.slice at4_0 (t4.1).length ct4_0) (t4.1).length ((t4.1).map (Value.int .u8)), R]) HS))) rfl rfl rfl ?_
      rintro _ w ⟨rfl, HS⟩
      replace HS := Sep.St.tailOpen (m := [ring_Ring.at bt1_0 (t16.2)]) (r := [fsl 1 (.slice (some ⟨lb15, 0, none⟩) (([100, 101, 102] : List Int)).length 3) (([100, 101, 102] : List Int)).length ((([100, 101, 102] : List Int)).map (Value.int .u8)), fsl 1 (.slice (some ⟨lb8, 0, none⟩) (([97, 98, 99] : List Int)).length 3) (([97, 98, 99] : List Int)).length ((([97, 98, 99] : List Int)).map (Value.int .u8)), row 5 1 (.slice at4_0 (t4.1).length ct4_0) (t4.1).length ((t4.1).map (Value.int .u8)), R]) HS
      have HS : Sep.St [ring_Ring.at bt1_0 (t16.2), fsl 1 (.slice (some ⟨lb15, 0, none⟩) (([100, 101, 102] : List Int)).length 3) (([100, 101, 102] : List Int)).length ((([100, 101, 102] : List Int)).map (Value.int .u8)), fsl 1 (.slice (some ⟨lb8, 0, none⟩) (([97, 98, 99] : List Int)).length 3) (([97, 98, 99] : List Int)).length ((([97, 98, 99] : List Int)).map (Value.int .u8)), row 5 1 (.slice at4_0 (t4.1).length ct4_0) (t4.1).length ((t4.1).map (Value.int .u8)), R] w0 w := HS
      refine W.want 19 rfl (sb c12) ?_
      refine W.rd (X.not rfl) rfl rfl rfl ?_
      refine W.rd (X.pickT (sb c12) rfl) rfl rfl rfl ?_
      refine W.rd (X.move rfl) rfl rfl rfl ?_
      by_cases c18 : t16.1 = true
      · replace H := ite_t c18 H
        refine W.pass 26 rfl (sb (n_t c18)) rfl rfl ?_
        refine W.pass 26 rfl (sb (n_t c18)) rfl rfl ?_
        refine W.pass 26 rfl (sb (n_t c18)) rfl rfl ?_
        refine W.rd (X.pickF (sb (n_t c18)) rfl) rfl rfl rfl ?_
        refine W.rd (X.move rfl) rfl rfl rfl ?_
        refine W.pass 31 rfl rfl rfl rfl ?_
        refine W.pass 31 rfl rfl rfl rfl ?_
        refine W.pass 31 rfl rfl rfl rfl ?_
        refine W.pass 31 rfl rfl rfl rfl ?_
        refine W.rd (X.pickF rfl rfl) rfl rfl rfl ?_
        refine W.rd (X.assign rfl) rfl rfl rfl ?_
        refine W.nil ?_
        refine At.next ?_
        refine V.keep [(0, Value.bool (false))] ⟨rfl, trivial⟩ ?_
        refine V.ret ?_
        replace HS := HS.sel [4] [0, 1, 2, 3] (by kernel_rfl)
        cases H
        exact At.ret1 rfl rfl ⟨_, rfl, rfl, HS⟩
      · replace H := ite_f c18 H
        refine W.want 26 rfl (sb (n_f (b_f c18))) ?_
        refine W.rd (X.move rfl) rfl rfl rfl ?_
        refine W.want 26 rfl (sb (n_f (b_f c18))) ?_
        obtain ⟨a1_19, c1_19, a3_19, c3_19, hi20, HS⟩ := ring_Ring.open HS
        have HS : Sep.St [blk bt1_0 (#[Value.int .i64 ((t16.2).room), Value.slice a1_19 ((t16.2).b).length c1_19, Value.int .i64 ((t16.2).begun), Value.slice a3_19 ((t16.2).pieces).length c3_19, Value.int .i64 ((t16.2).dropped)]) 41, row 5 1 (.slice a1_19 ((t16.2).b).length c1_19) ((t16.2).b).length (((t16.2).b).map (Value.int .u8)), row 3 1 (.slice a3_19 ((t16.2).pieces).length c3_19) ((t16.2).pieces).length (((t16.2).pieces).map (Value.int .i64)), fsl 1 (.slice (some ⟨lb15, 0, none⟩) (([100, 101, 102] : List Int)).length 3) (([100, 101, 102] : List Int)).length ((([100, 101, 102] : List Int)).map (Value.int .u8)), fsl 1 (.slice (some ⟨lb8, 0, none⟩) (([97, 98, 99] : List Int)).length 3) (([97, 98, 99] : List Int)).length ((([97, 98, 99] : List Int)).map (Value.int .u8)), row 5 1 (.slice at4_0 (t4.1).length ct4_0) (t4.1).length ((t4.1).map (Value.int .u8)), R] w0 w := HS
        obtain ⟨t21, A22, H⟩ := bind_s H
        refine W.ev (Y.call Try.func12 (by kernel_rfl) rfl (vs := [Value.pointer (some ⟨bt1_0, 0, none⟩)]) rfl (ring_Ring_Dropped.calls t16.2 _ w0 _ bt1_0 a1_19 c1_19 a3_19 c3_19 t21  A22 (Sep.St.tailJoin (m := [blk bt1_0 (#[Value.int .i64 ((t16.2).room), Value.slice a1_19 ((t16.2).b).length c1_19, Value.int .i64 ((t16.2).begun), Value.slice a3_19 ((t16.2).pieces).length c3_19, Value.int .i64 ((t16.2).dropped)]) 41, row 5 1 (.slice a1_19 ((t16.2).b).length c1_19) ((t16.2).b).length (((t16.2).b).map (Value.int .u8)), row 3 1 (.slice a3_19 ((t16.2).pieces).length c3_19) ((t16.2).pieces).length (((t16.2).pieces).map (Value.int .i64))]) (r := [fsl 1 (.slice (some ⟨lb15, 0, none⟩) (([100, 101, 102] : List Int)).length 3) (([100, 101, 102] : List Int)).length ((([100, 101, 102] : List Int)).map (Value.int .u8)), fsl 1 (.slice (some ⟨lb8, 0, none⟩) (([97, 98, 99] : List Int)).length 3) (([97, 98, 99] : List Int)).length ((([97, 98, 99] : List Int)).map (Value.int .u8)), row 5 1 (.slice at4_0 (t4.1).length ct4_0) (t4.1).length ((t4.1).map (Value.int .u8)), R]) HS))) rfl rfl rfl ?_
        rintro _ w ⟨rfl, HS⟩
        replace HS := Sep.St.tailOpen (m := [blk bt1_0 (#[Value.int .i64 ((t16.2).room), Value.slice a1_19 ((t16.2).b).length c1_19, Value.int .i64 ((t16.2).begun), Value.slice a3_19 ((t16.2).pieces).length c3_19, Value.int .i64 ((t16.2).dropped)]) 41, row 5 1 (.slice a1_19 ((t16.2).b).length c1_19) ((t16.2).b).length (((t16.2).b).map (Value.int .u8)), row 3 1 (.slice a3_19 ((t16.2).pieces).length c3_19) ((t16.2).pieces).length (((t16.2).pieces).map (Value.int .i64))]) (r := [fsl 1 (.slice (some ⟨lb15, 0, none⟩) (([100, 101, 102] : List Int)).length 3) (([100, 101, 102] : List Int)).length ((([100, 101, 102] : List Int)).map (Value.int .u8)), fsl 1 (.slice (some ⟨lb8, 0, none⟩) (([97, 98, 99] : List Int)).length 3) (([97, 98, 99] : List Int)).length ((([97, 98, 99] : List Int)).map (Value.int .u8)), row 5 1 (.slice at4_0 (t4.1).length ct4_0) (t4.1).length ((t4.1).map (Value.int .u8)), R]) HS
        have HS : Sep.St [blk bt1_0 (#[Value.int .i64 ((t16.2).room), Value.slice a1_19 ((t16.2).b).length c1_19, Value.int .i64 ((t16.2).begun), Value.slice a3_19 ((t16.2).pieces).length c3_19, Value.int .i64 ((t16.2).dropped)]) 41, row 5 1 (.slice a1_19 ((t16.2).b).length c1_19) ((t16.2).b).length (((t16.2).b).map (Value.int .u8)), row 3 1 (.slice a3_19 ((t16.2).pieces).length c3_19) ((t16.2).pieces).length (((t16.2).pieces).map (Value.int .i64)), fsl 1 (.slice (some ⟨lb15, 0, none⟩) (([100, 101, 102] : List Int)).length 3) (([100, 101, 102] : List Int)).length ((([100, 101, 102] : List Int)).map (Value.int .u8)), fsl 1 (.slice (some ⟨lb8, 0, none⟩) (([97, 98, 99] : List Int)).length 3) (([97, 98, 99] : List Int)).length ((([97, 98, 99] : List Int)).map (Value.int .u8)), row 5 1 (.slice at4_0 (t4.1).length ct4_0) (t4.1).length ((t4.1).map (Value.int .u8)), R] w0 w := HS
        refine W.want 26 rfl (sb (n_f (b_f c18))) ?_
        refine W.rd (X.cmp (decide (t21 = 1)) rfl rfl rfl rfl) rfl rfl rfl ?_
        refine W.rd (X.pickT (sb (n_f (b_f c18))) rfl) rfl rfl rfl ?_
        refine W.rd (X.move rfl) rfl rfl rfl ?_
        by_cases c23 : t21 = 1
        · replace H := ite_t c23 H
          refine W.want 31 rfl (sb (decide_eq_true c23)) ?_
          refine W.rd (X.move rfl) rfl rfl rfl ?_
          refine W.want 31 rfl (sb (decide_eq_true c23)) ?_
          replace HS := ring_Ring.close (t16.2) trivial HS
          have HS : Sep.St [ring_Ring.at bt1_0 (t16.2), fsl 1 (.slice (some ⟨lb15, 0, none⟩) (([100, 101, 102] : List Int)).length 3) (([100, 101, 102] : List Int)).length ((([100, 101, 102] : List Int)).map (Value.int .u8)), fsl 1 (.slice (some ⟨lb8, 0, none⟩) (([97, 98, 99] : List Int)).length 3) (([97, 98, 99] : List Int)).length ((([97, 98, 99] : List Int)).map (Value.int .u8)), row 5 1 (.slice at4_0 (t4.1).length ct4_0) (t4.1).length ((t4.1).map (Value.int .u8)), R] w0 w := HS
          obtain ⟨t24, A25, H⟩ := bind_s H
          refine W.ev (Y.call Try.func10 (by kernel_rfl) rfl (vs := [Value.pointer (some ⟨bt1_0, 0, none⟩), Value.int .i64 (2)]) rfl (ring_Ring_Take.calls k t16.2 2 _ w0 _ bt1_0 t24  A25 (Sep.St.tailJoin (m := [ring_Ring.at bt1_0 (t16.2)]) (r := [fsl 1 (.slice (some ⟨lb15, 0, none⟩) (([100, 101, 102] : List Int)).length 3) (([100, 101, 102] : List Int)).length ((([100, 101, 102] : List Int)).map (Value.int .u8)), fsl 1 (.slice (some ⟨lb8, 0, none⟩) (([97, 98, 99] : List Int)).length 3) (([97, 98, 99] : List Int)).length ((([97, 98, 99] : List Int)).map (Value.int .u8)), row 5 1 (.slice at4_0 (t4.1).length ct4_0) (t4.1).length ((t4.1).map (Value.int .u8)), R]) HS))) rfl rfl rfl ?_
          rintro _ w ⟨at24_0, ct24_0, rfl, HS⟩
          replace HS := Sep.St.tailOpen (m := [row 5 1 (.slice at24_0 (t24.1).length ct24_0) (t24.1).length ((t24.1).map (Value.int .u8)), ring_Ring.at bt1_0 (t24.2)]) (r := [fsl 1 (.slice (some ⟨lb15, 0, none⟩) (([100, 101, 102] : List Int)).length 3) (([100, 101, 102] : List Int)).length ((([100, 101, 102] : List Int)).map (Value.int .u8)), fsl 1 (.slice (some ⟨lb8, 0, none⟩) (([97, 98, 99] : List Int)).length 3) (([97, 98, 99] : List Int)).length ((([97, 98, 99] : List Int)).map (Value.int .u8)), row 5 1 (.slice at4_0 (t4.1).length ct4_0) (t4.1).length ((t4.1).map (Value.int .u8)), R]) HS
          have HS : Sep.St [row 5 1 (.slice at24_0 (t24.1).length ct24_0) (t24.1).length ((t24.1).map (Value.int .u8)), ring_Ring.at bt1_0 (t24.2), fsl 1 (.slice (some ⟨lb15, 0, none⟩) (([100, 101, 102] : List Int)).length 3) (([100, 101, 102] : List Int)).length ((([100, 101, 102] : List Int)).map (Value.int .u8)), fsl 1 (.slice (some ⟨lb8, 0, none⟩) (([97, 98, 99] : List Int)).length 3) (([97, 98, 99] : List Int)).length ((([97, 98, 99] : List Int)).map (Value.int .u8)), row 5 1 (.slice at4_0 (t4.1).length ct4_0) (t4.1).length ((t4.1).map (Value.int .u8)), R] w0 w := HS
          refine W.want 31 rfl (sb (decide_eq_true c23)) ?_
          refine W.rd (X.bytesStr Try.underlying27 Try.underlying5 Try.underlying9 rfl (rdC.at 0 row_rd HS rfl)) rfl rfl rfl ?_
          refine W.want 31 rfl (sb (decide_eq_true c23)) ?_
          refine W.rd (X.eqStr (a := t24.1) (b := ([97, 98] : List Int)) rfl rfl) rfl rfl rfl ?_
          refine W.rd (X.pickT (sb (decide_eq_true c23)) rfl) rfl rfl rfl ?_
          refine W.rd (X.assign rfl) rfl rfl rfl ?_
          refine W.nil ?_
          refine At.next ?_
          refine V.keep [(0, Value.bool (sEq (t24.1) (([97, 98] : List Int))))] ⟨rfl, trivial⟩ ?_
          refine V.ret ?_
          replace HS := HS.sel [5] [0, 1, 2, 3, 4] (by kernel_rfl)
          cases H
          exact At.ret1 rfl rfl ⟨_, rfl, rfl, HS⟩
        · replace H := ite_f c23 H
          refine W.pass 31 rfl (sb (decide_eq_false c23)) rfl rfl ?_
          refine W.pass 31 rfl (sb (decide_eq_false c23)) rfl rfl ?_
          refine W.pass 31 rfl (sb (decide_eq_false c23)) rfl rfl ?_
          refine W.pass 31 rfl (sb (decide_eq_false c23)) rfl rfl ?_
          refine W.rd (X.pickF (sb (decide_eq_false c23)) rfl) rfl rfl rfl ?_
          refine W.rd (X.assign rfl) rfl rfl rfl ?_
          refine W.nil ?_
          refine At.next ?_
          refine V.keep [(0, Value.bool (false))] ⟨rfl, trivial⟩ ?_
          refine V.ret ?_
          replace HS := HS.sel [6] [0, 1, 2, 3, 4, 5] (by kernel_rfl)
          cases H
          exact At.ret1 rfl rfl ⟨_, rfl, rfl, HS⟩
    · replace H := ite_f c12 H
      refine W.pass 19 rfl (sb (b_f c12)) rfl rfl ?_
      refine W.pass 19 rfl (sb (b_f c12)) rfl rfl ?_
      refine W.pass 19 rfl (sb (b_f c12)) rfl rfl ?_
      refine W.pass 19 rfl (sb (b_f c12)) rfl rfl ?_
      refine W.pass 19 rfl (sb (b_f c12)) rfl rfl ?_
      refine W.rd (X.pickF (sb (b_f c12)) rfl) rfl rfl rfl ?_
      refine W.rd (X.move rfl) rfl rfl rfl ?_
      refine W.pass 26 rfl rfl rfl rfl ?_
      refine W.pass 26 rfl rfl rfl rfl ?_
      refine W.pass 26 rfl rfl rfl rfl ?_
      refine W.rd (X.pickF rfl rfl) rfl rfl rfl ?_
      refine W.rd (X.move rfl) rfl rfl rfl ?_
      refine W.pass 31 rfl rfl rfl rfl ?_
      refine W.pass 31 rfl rfl rfl rfl ?_
      refine W.pass 31 rfl rfl rfl rfl ?_
      refine W.pass 31 rfl rfl rfl rfl ?_
      refine W.rd (X.pickF rfl rfl) rfl rfl rfl ?_
      refine W.rd (X.assign rfl) rfl rfl rfl ?_
      refine W.nil ?_
      refine At.next ?_
      refine V.keep [(0, Value.bool (false))] ⟨rfl, trivial⟩ ?_
      refine V.ret ?_
      replace HS := HS.sel [3] [0, 1, 2] (by kernel_rfl)
      cases H
      exact At.ret1 rfl rfl ⟨_, rfl, rfl, HS⟩
  · replace H := ite_f c11 H
    refine W.pass 16 rfl (sb (decide_eq_false c11)) rfl rfl ?_
    refine W.rd (X.pickF (sb (decide_eq_false c11)) rfl) rfl rfl rfl ?_
    refine W.rd (X.move rfl) rfl rfl rfl ?_
    refine W.pass 19 rfl rfl rfl rfl ?_
    refine W.pass 19 rfl rfl rfl rfl ?_
    refine W.pass 19 rfl rfl rfl rfl ?_
    refine W.pass 19 rfl rfl rfl rfl ?_
    refine W.pass 19 rfl rfl rfl rfl ?_
    refine W.rd (X.pickF rfl rfl) rfl rfl rfl ?_
    refine W.rd (X.move rfl) rfl rfl rfl ?_
    refine W.pass 26 rfl rfl rfl rfl ?_
    refine W.pass 26 rfl rfl rfl rfl ?_
    refine W.pass 26 rfl rfl rfl rfl ?_
    refine W.rd (X.pickF rfl rfl) rfl rfl rfl ?_
    refine W.rd (X.move rfl) rfl rfl rfl ?_
    refine W.pass 31 rfl rfl rfl rfl ?_
    refine W.pass 31 rfl rfl rfl rfl ?_
    refine W.pass 31 rfl rfl rfl rfl ?_
    refine W.pass 31 rfl rfl rfl rfl ?_
    refine W.rd (X.pickF rfl rfl) rfl rfl rfl ?_
    refine W.rd (X.assign rfl) rfl rfl rfl ?_
    refine W.nil ?_
    refine At.next ?_
    refine V.keep [(0, Value.bool (false))] ⟨rfl, trivial⟩ ?_
    refine V.ret ?_
    replace HS := HS.sel [3] [0, 1, 2] (by kernel_rfl)
    cases H
    exact At.ret1 rfl rfl ⟨_, rfl, rfl, HS⟩

/-! ### signalman/signalmanref1.Cut: function 23 -/
def signalmanref1_Cut.f (a0 : Int) (a1 : Int) (a2 : Int) : Option (Int) := (if a0 < a1 then some (a1) else (if a0 > a2 then some (a2) else some (a0)))
set_option maxRecDepth 100000 in
set_option maxHeartbeats 4000000 in
theorem signalmanref1_Cut.calls (a0 : Int) (a1 : Int) (a2 : Int) (R : As) (w0 w : World)  (r : Int)  (H : signalmanref1_Cut.f a0 a1 a2 = some r) (HS : Sep.St [R] w0 w) : Calls Try.prog 23 #[Value.int .i64 (a0), Value.int .i64 (a1), Value.int .i64 (a2)] w (Ret fun u w => u = Value.int .i64 (r) ∧ Sep.St [R] w0 w) := by
  unfold signalmanref1_Cut.f at H
  refine calls_enter Try.func23 rfl rfl ?_
  have H : _ = some r := H
  refine V.seq ?_
  refine V.region ?_
  refine W.rd (X.assign rfl) rfl rfl rfl ?_
  refine W.nil ?_
  refine At.next ?_
  refine V.keep [(0, Value.int .i64 (a0)), (1, Value.int .i64 (a1)), (2, Value.int .i64 (a2))] ⟨rfl, rfl, rfl, trivial⟩ ?_
  refine V.seq ?_
  refine V.block ?_
  refine V.seq ?_
  refine V.region ?_
  refine W.rd (X.move rfl) rfl rfl rfl ?_
  refine W.rd (X.move rfl) rfl rfl rfl ?_
  refine W.rd (X.cmp (decide (a0 < a1)) rfl rfl rfl rfl) rfl rfl rfl ?_
  refine W.rd (X.assign rfl) rfl rfl rfl ?_
  refine W.nil ?_
  refine At.next ?_
  refine V.keep [(0, Value.int .i64 (a0)), (1, Value.int .i64 (a1)), (2, Value.int .i64 (a2)), (7, Value.bool (decide (a0 < a1)))] ⟨rfl, rfl, rfl, rfl, trivial⟩ ?_
  by_cases c1 : a0 < a1
  · replace H := ite_t c1 H
    refine V.condT (sb (decide_eq_true c1)) ?_
    refine V.seq ?_
    refine V.region ?_
    refine W.rd (X.move rfl) rfl rfl rfl ?_
    refine W.rd (X.assign rfl) rfl rfl rfl ?_
    refine W.nil ?_
    refine At.next ?_
    refine V.keep [(6, Value.int .i64 (a1))] ⟨rfl, trivial⟩ ?_
    refine V.ret ?_
    refine At.blockRet ?_
    refine At.thenRet ?_
    cases H
    exact At.ret1 rfl rfl ⟨_, rfl, rfl, HS⟩
  · replace H := ite_f c1 H
    refine V.condF (sb (decide_eq_false c1)) ?_
    refine V.seq ?_
    refine V.region ?_
    refine W.rd (X.move rfl) rfl rfl rfl ?_
    refine W.rd (X.move rfl) rfl rfl rfl ?_
    refine W.rd (X.cmp (decide (a0 > a2)) rfl rfl rfl rfl) rfl rfl rfl ?_
    refine W.rd (X.assign rfl) rfl rfl rfl ?_
    refine W.nil ?_
    refine At.next ?_
    refine V.keep [(0, Value.int .i64 (a0)), (2, Value.int .i64 (a2)), (12, Value.bool (decide (a0 > a2)))] ⟨rfl, rfl, rfl, trivial⟩ ?_
    by_cases c2 : a0 > a2
    · replace H := ite_t c2 H
      refine V.condT (sb (decide_eq_true c2)) ?_
      refine V.seq ?_
      refine V.region ?_
      refine W.rd (X.move rfl) rfl rfl rfl ?_
      refine W.rd (X.assign rfl) rfl rfl rfl ?_
      refine W.nil ?_
      refine At.next ?_
      refine V.keep [(6, Value.int .i64 (a2))] ⟨rfl, trivial⟩ ?_
      refine V.ret ?_
      refine At.blockRet ?_
      refine At.thenRet ?_
      cases H
      exact At.ret1 rfl rfl ⟨_, rfl, rfl, HS⟩
    · replace H := ite_f c2 H
      refine V.condF (sb (decide_eq_false c2)) ?_
      refine V.skip ?_
      refine At.blockEnd ?_
      refine At.next ?_
      refine V.keep [(0, Value.int .i64 (a0))] ⟨rfl, trivial⟩ ?_
      refine V.seq ?_
      refine V.region ?_
      refine W.rd (X.move rfl) rfl rfl rfl ?_
      refine W.rd (X.assign rfl) rfl rfl rfl ?_
      refine W.nil ?_
      refine At.next ?_
      refine V.keep [(6, Value.int .i64 (a0))] ⟨rfl, trivial⟩ ?_
      refine V.ret ?_
      cases H
      exact At.ret1 rfl rfl ⟨_, rfl, rfl, HS⟩

structure signalmanref6_Ring where
  room : Int
  l : List (List Int)
  begun : Bool
  dropped : Int
deriving DecidableEq, Inhabited

def signalmanref6_Ring.at (b : Nat) (x : signalmanref6_Ring) : As := fun h => (True) ∧ ∃ a1 : Option Addr, ∃ c1 : Nat, ∃ d1 : List Value, Sp [blk b (#[Value.int .i64 ((x.room)), Value.slice a1 ((x.l)).length c1, Value.bool ((x.begun)), Value.int .i64 ((x.dropped))]) 47, row 27 1 (.slice a1 ((x.l)).length c1) ((x.l)).length d1, tie (El.sl (El.int .u8)) d1 ((x.l))] h
theorem signalmanref6_Ring.open {b : Nat} {x : signalmanref6_Ring} {L : List As} {w0 w : World} (hs : Sep.St (signalmanref6_Ring.at b x :: L) w0 w) : ∃ a1 : Option Addr, ∃ c1 : Nat, ∃ d1 : List Value, (True) ∧ Sep.St (blk b (#[Value.int .i64 ((x.room)), Value.slice a1 ((x.l)).length c1, Value.bool ((x.begun)), Value.int .i64 ((x.dropped))]) 47 :: row 27 1 (.slice a1 ((x.l)).length c1) ((x.l)).length d1 :: tie (El.sl (El.int .u8)) d1 ((x.l)) :: L) w0 w := by
  have h1 := St.pure.1 (show St ((fun h => (True) ∧ (fun h => ∃ a1 : Option Addr, ∃ c1 : Nat, ∃ d1 : List Value, Sp [blk b (#[Value.int .i64 ((x.room)), Value.slice a1 ((x.l)).length c1, Value.bool ((x.begun)), Value.int .i64 ((x.dropped))]) 47, row 27 1 (.slice a1 ((x.l)).length c1) ((x.l)).length d1, tie (El.sl (El.int .u8)) d1 ((x.l))] h) h) :: L) w0 w from hs)
  obtain ⟨hi, hs⟩ := h1
  obtain ⟨a1, hs⟩ := St.ex.1 (show St ((fun h => ∃ a1 : Option Addr, (fun h => ∃ c1 : Nat, ∃ d1 : List Value, Sp [blk b (#[Value.int .i64 ((x.room)), Value.slice a1 ((x.l)).length c1, Value.bool ((x.begun)), Value.int .i64 ((x.dropped))]) 47, row 27 1 (.slice a1 ((x.l)).length c1) ((x.l)).length d1, tie (El.sl (El.int .u8)) d1 ((x.l))] h) h) :: L) w0 w from hs)
  obtain ⟨c1, hs⟩ := St.ex.1 (show St ((fun h => ∃ c1 : Nat, (fun h => ∃ d1 : List Value, Sp [blk b (#[Value.int .i64 ((x.room)), Value.slice a1 ((x.l)).length c1, Value.bool ((x.begun)), Value.int .i64 ((x.dropped))]) 47, row 27 1 (.slice a1 ((x.l)).length c1) ((x.l)).length d1, tie (El.sl (El.int .u8)) d1 ((x.l))] h) h) :: L) w0 w from hs)
  obtain ⟨d1, hs⟩ := St.ex.1 (show St ((fun h => ∃ d1 : List Value, (fun h => Sp [blk b (#[Value.int .i64 ((x.room)), Value.slice a1 ((x.l)).length c1, Value.bool ((x.begun)), Value.int .i64 ((x.dropped))]) 47, row 27 1 (.slice a1 ((x.l)).length c1) ((x.l)).length d1, tie (El.sl (El.int .u8)) d1 ((x.l))] h) h) :: L) w0 w from hs)
  exact ⟨a1, c1, d1, hi, St.open (m := [blk b (#[Value.int .i64 ((x.room)), Value.slice a1 ((x.l)).length c1, Value.bool ((x.begun)), Value.int .i64 ((x.dropped))]) 47, row 27 1 (.slice a1 ((x.l)).length c1) ((x.l)).length d1, tie (El.sl (El.int .u8)) d1 ((x.l))]) hs⟩
theorem signalmanref6_Ring.close {b : Nat} (x : signalmanref6_Ring) {a1 : Option Addr} {c1 : Nat} {d1 : List Value} {L : List As} {w0 w : World} (hi : True) (hs : Sep.St (blk b (#[Value.int .i64 ((x.room)), Value.slice a1 ((x.l)).length c1, Value.bool ((x.begun)), Value.int .i64 ((x.dropped))]) 47 :: row 27 1 (.slice a1 ((x.l)).length c1) ((x.l)).length d1 :: tie (El.sl (El.int .u8)) d1 ((x.l)) :: L) w0 w) : Sep.St (signalmanref6_Ring.at b x :: L) w0 w := by
  have h2 := St.join (m := [blk b (#[Value.int .i64 ((x.room)), Value.slice a1 ((x.l)).length c1, Value.bool ((x.begun)), Value.int .i64 ((x.dropped))]) 47, row 27 1 (.slice a1 ((x.l)).length c1) ((x.l)).length d1, tie (El.sl (El.int .u8)) d1 ((x.l))]) hs
  exact h2.mono fun h hh => ⟨hi, _, _, _, hh⟩

/-! ### signalman/signalmanref6.NewRing: function 14 -/
def signalmanref6_NewRing.f (a0 : Int) : Option (signalmanref6_Ring) := ((signalmanref1_Cut.f a0 0 1048576).bind fun t1 => some (({ room := t1, l := ([] : List (List Int)), begun := false, dropped := 0 } : signalmanref6_Ring)))
set_option maxRecDepth 100000 in
set_option maxHeartbeats 4000000 in
theorem signalmanref6_NewRing.calls (a0 : Int) (R : As) (w0 w : World)  (r : signalmanref6_Ring)  (H : signalmanref6_NewRing.f a0 = some r) (HS : Sep.St [R] w0 w) : Calls Try.prog 14 #[Value.int .i64 (a0)] w (Ret fun u w => ∃ (bq0 : Nat), u = Value.pointer (some ⟨bq0, 0, none⟩) ∧ Sep.St [signalmanref6_Ring.at bq0 (r), R] w0 w) := by
  unfold signalmanref6_NewRing.f at H
  refine calls_enter Try.func14 rfl rfl ?_
  have H : _ = some r := H
  refine V.seq ?_
  refine V.region ?_
  refine W.rd (X.assign rfl) rfl rfl rfl ?_
  refine W.nil ?_
  refine At.next ?_
  refine V.keep [(0, Value.int .i64 (a0))] ⟨rfl, trivial⟩ ?_
  refine V.seq ?_
  refine V.region ?_
  refine W.rd (X.move rfl) rfl rfl rfl ?_
  obtain ⟨t1, A2, H⟩ := bind_s H
  refine W.ev (Y.call Try.func23 (by kernel_rfl) rfl (vs := [Value.int .i64 (a0), Value.int .i64 (0), Value.int .i64 (1048576)]) rfl (signalmanref1_Cut.calls a0 0 1048576 _ w0 _  t1  A2 (Sep.St.tailJoin (m := []) (r := [R]) HS))) rfl rfl rfl ?_
  rintro _ w ⟨rfl, HS⟩
  replace HS := Sep.St.tailOpen (m := []) (r := [R]) HS
  have HS : Sep.St [R] w0 w := HS
  refine W.rd (X.build (vs := #[(0, Value.int .i64 (t1))]) (v := Value.agg #[Value.int .i64 (t1), Value.slice none 0 0, Value.bool (false), Value.int .i64 (0)]) (fun a ha => by simp only [List.map_toArray, List.map_cons, List.map_nil]; rw [ha.ev (x := .tmp 4) (v := Value.int .i64 (t1)) rfl]; try rfl) (fun _ => by kernel_rfl)) rfl rfl rfl ?_
  refine W.ev (Y.box HS rfl) rfl rfl rfl ?_
  rintro _ w ⟨nb3, rfl, HS⟩
  have HS : Sep.St [blk nb3 (#[Value.int .i64 (t1), Value.slice none 0 0, Value.bool (false), Value.int .i64 (0)]) 47, R] w0 w := HS
  refine W.rd (X.assign rfl) rfl rfl rfl ?_
  refine W.nil ?_
  refine At.next ?_
  refine V.keep [(2, Value.pointer (some ⟨nb3, 0, none⟩))] ⟨rfl, trivial⟩ ?_
  refine V.ret ?_
  replace HS := row_nil' (e := 27) 1 none (St.put (A := tie (El.sl (El.int .u8)) ([]) (([] : List (List Int)))) (fun _ => tie.nil) HS)
  have HS : Sep.St [row 27 1 (.slice none (([] : List (List Int))).length 0) (([] : List (List Int))).length ([]), tie (El.sl (El.int .u8)) ([]) (([] : List (List Int))), blk nb3 (#[Value.int .i64 (t1), Value.slice none 0 0, Value.bool (false), Value.int .i64 (0)]) 47, R] w0 w := HS
  replace HS := HS.re [2, 0, 1, 3] (by kernel_rfl)
  have HS : Sep.St [blk nb3 (#[Value.int .i64 (t1), Value.slice none (([] : List (List Int))).length 0, Value.bool (false), Value.int .i64 (0)]) 47, row 27 1 (.slice none (([] : List (List Int))).length 0) (([] : List (List Int))).length ([]), tie (El.sl (El.int .u8)) ([]) (([] : List (List Int))), R] w0 w := HS
  replace HS := signalmanref6_Ring.close (({ room := t1, l := ([] : List (List Int)), begun := false, dropped := 0 } : signalmanref6_Ring)) trivial HS
  have HS : Sep.St [signalmanref6_Ring.at nb3 (({ room := t1, l := ([] : List (List Int)), begun := false, dropped := 0 } : signalmanref6_Ring)), R] w0 w := HS
  cases H
  exact At.ret1 rfl rfl ⟨_, rfl, nb3, rfl, HS⟩

/-! ### (*signalman/signalmanref6.Ring).Len: function 18 -/
mutual
def signalmanref6_Ring_Len.l0 : Nat → signalmanref6_Ring → Int → Int → Option (Int)
  | 0, _, _, _ => none
  | k + 1, a0, x4, x5 => (if x5 < (((a0).l).length : Int) then (if 0 ≤ x5 ∧ x5 < (((a0).l).length : Int) then (signalmanref6_Ring_Len.l0 k a0 (w64 (x4 + ((((a0).l).getD (x5).toNat []).length : Int))) (w64 (x5 + 1))) else none) else some (x4))
end
def signalmanref6_Ring_Len.f (k : Nat) (a0 : signalmanref6_Ring) : Option (Int) := (signalmanref6_Ring_Len.l0 k a0 0 0)
set_option maxRecDepth 100000 in
set_option maxHeartbeats 4000000 in
theorem signalmanref6_Ring_Len.calls (k : Nat) (a0 : signalmanref6_Ring) (R : As) (w0 w : World) (b0 : Nat) (a1_p0 : Option Addr) (c1_p0 : Nat) (d1_p0 : List Value) (r : Int)  (H : signalmanref6_Ring_Len.f k a0 = some r) (HS : Sep.St [blk b0 (#[Value.int .i64 ((a0).room), Value.slice a1_p0 ((a0).l).length c1_p0, Value.bool ((a0).begun), Value.int .i64 ((a0).dropped)]) 47, row 27 1 (.slice a1_p0 ((a0).l).length c1_p0) ((a0).l).length d1_p0, tie (El.sl (El.int .u8)) d1_p0 ((a0).l), R] w0 w) : Calls Try.prog 18 #[Value.pointer (some ⟨b0, 0, none⟩)] w (Ret fun u w => u = Value.int .i64 (r) ∧ Sep.St [blk b0 (#[Value.int .i64 ((a0).room), Value.slice a1_p0 ((a0).l).length c1_p0, Value.bool ((a0).begun), Value.int .i64 ((a0).dropped)]) 47, row 27 1 (.slice a1_p0 ((a0).l).length c1_p0) ((a0).l).length d1_p0, tie (El.sl (El.int .u8)) d1_p0 ((a0).l), R] w0 w) := by
  unfold signalmanref6_Ring_Len.f at H
  refine calls_enter Try.func18 rfl rfl ?_
  have H : _ = some r := H
  refine V.seq ?_
  refine V.region ?_
  refine W.rd (X.assign rfl) rfl rfl rfl ?_
  refine W.nil ?_
  refine At.next ?_
  refine V.keep [(0, Value.pointer (some ⟨b0, 0, none⟩))] ⟨rfl, trivial⟩ ?_
  refine V.seq ?_
  refine V.region ?_
  refine W.rd (X.assign rfl) rfl rfl rfl ?_
  refine W.nil ?_
  refine At.next ?_
  refine V.keep [(0, Value.pointer (some ⟨b0, 0, none⟩)), (3, Value.int .i64 (0))] ⟨rfl, rfl, trivial⟩ ?_
  refine V.seq ?_
  refine V.seq ?_
  refine V.region ?_
  refine W.rd (X.assign rfl) rfl rfl rfl ?_
  refine W.nil ?_
  refine At.next ?_
  refine V.keep [(0, Value.pointer (some ⟨b0, 0, none⟩)), (3, Value.int .i64 (0)), (4, Value.int .i64 (0))] ⟨rfl, rfl, rfl, trivial⟩ ?_
  refine V.block ?_
  refine V.loop (σ := Int × Int) (fun kq (st : Int × Int) w => match st with | (x4, x5) => Sep.St [blk b0 (#[Value.int .i64 ((a0).room), Value.slice a1_p0 ((a0).l).length c1_p0, Value.bool ((a0).begun), Value.int .i64 ((a0).dropped)]) 47, row 27 1 (.slice a1_p0 ((a0).l).length c1_p0) ((a0).l).length d1_p0, tie (El.sl (El.int .u8)) d1_p0 ((a0).l), R] w0 w ∧ signalmanref6_Ring_Len.l0 kq a0 x4 x5 = some r ∧ kq ≤ k) (fun st => match st with | (x4, x5) => [(0, Value.pointer (some ⟨b0, 0, none⟩)), (3, Value.int .i64 (x4)), (4, Value.int .i64 (x5))]) k (0, 0) ⟨rfl, rfl, rfl, trivial⟩ ⟨HS, H, Nat.le_refl _⟩ ?_
  rintro kq6 ⟨x4, x5⟩ w ⟨HS, H, hk7⟩
  cases kq6 with
  | zero => exact absurd H (by simp [signalmanref6_Ring_Len.l0])
  | succ kq6 =>
    simp only [signalmanref6_Ring_Len.l0] at H
    have HS : Sep.St [blk b0 (#[Value.int .i64 ((a0).room), Value.slice a1_p0 ((a0).l).length c1_p0, Value.bool ((a0).begun), Value.int .i64 ((a0).dropped)]) 47, row 27 1 (.slice a1_p0 ((a0).l).length c1_p0) ((a0).l).length d1_p0, tie (El.sl (El.int .u8)) d1_p0 ((a0).l), R] w0 w := HS
    refine V.seq ?_
    refine V.seq ?_
    refine V.region ?_
    refine W.rd (X.move rfl) rfl rfl rfl ?_
    refine W.rd (X.move rfl) rfl rfl rfl ?_
    refine W.rd (X.nilCheck rfl) rfl rfl rfl ?_
    refine W.rd (X.fieldAddr 1 fo47_1 rfl) rfl rfl rfl ?_
    refine W.rd (X.loadAt 0 HS rfl Try.underlying22 rfl rfl rfl) rfl rfl rfl ?_
    refine W.rd (X.lenSl Try.underlying22 rfl) rfl rfl rfl ?_
    refine W.rd (X.cmp (decide (x5 < (((a0).l).length : Int))) rfl rfl rfl rfl) rfl rfl rfl ?_
    refine W.nil ?_
    refine At.next ?_
    refine V.keep [(0, Value.pointer (some ⟨b0, 0, none⟩)), (3, Value.int .i64 (x4)), (4, Value.int .i64 (x5)), (11, Value.bool (decide (x5 < (((a0).l).length : Int))))] ⟨rfl, rfl, rfl, rfl, trivial⟩ ?_
    by_cases c8 : x5 < (((a0).l).length : Int)
    · replace H := ite_t c8 H
      refine V.condT (sb (decide_eq_true c8)) ?_
      refine V.skip ?_
      refine At.next ?_
      refine V.keep [(0, Value.pointer (some ⟨b0, 0, none⟩)), (3, Value.int .i64 (x4)), (4, Value.int .i64 (x5))] ⟨rfl, rfl, rfl, trivial⟩ ?_
      refine V.seq ?_
      refine V.block ?_
      refine V.region ?_
      refine W.rd (X.move rfl) rfl rfl rfl ?_
      refine W.rd (X.move rfl) rfl rfl rfl ?_
      refine W.rd (X.nilCheck rfl) rfl rfl rfl ?_
      refine W.rd (X.fieldAddr 1 fo47_1 rfl) rfl rfl rfl ?_
      refine W.rd (X.loadAt 0 HS rfl Try.underlying22 rfl rfl rfl) rfl rfl rfl ?_
      refine W.rd (X.move rfl) rfl rfl rfl ?_
      obtain ⟨c9, H⟩ := ite_n H
      obtain ⟨eb10, eo11, hh⟩ := ((rdC.at 1 row_rd HS rfl)).some (by decide) c9.1 c9.2; subst hh
      refine W.rd (X.indexSl Try.underlying22 inf27 rfl rfl c9.1 c9.2) rfl rfl rfl ?_
      obtain ⟨ec12, hc13, HS⟩ := St.tie_at 2 HS rfl ([]) c9.1 c9.2
      obtain ⟨ea14, em15, he17, HN⟩ := St.sl_openF (Value.int .u8) (fun t => tie_int t) HS; clear HS; subst he17; have HS := HN
      have HS : Sep.St [fsl 1 (.slice ea14 (((a0).l).getD (x5).toNat []).length em15) (((a0).l).getD (x5).toNat []).length ((((a0).l).getD (x5).toNat []).map (Value.int .u8)), blk b0 (#[Value.int .i64 ((a0).room), Value.slice (some ⟨eb10, eo11, none⟩) ((a0).l).length c1_p0, Value.bool ((a0).begun), Value.int .i64 ((a0).dropped)]) 47, row 27 1 (.slice (some ⟨eb10, eo11, none⟩) ((a0).l).length c1_p0) ((a0).l).length d1_p0, tie (El.sl (El.int .u8)) d1_p0 ((a0).l), R] w0 w := HS
      refine W.rd (X.load Try.underlying27 rfl rfl (((rdC.at 2 row_rd HS rfl)).cellEl0 (hc13 0 _ rfl))) rfl rfl rfl ?_
      refine W.rd (X.lenSl Try.underlying27 rfl) rfl rfl rfl ?_
      refine W.rd (X.add rfl rfl) rfl rfl rfl ?_
      refine W.rd (X.assign rfl) rfl rfl rfl ?_
      refine W.nil ?_
      refine At.blockEnd ?_
      refine At.next ?_
      refine V.keep [(0, Value.pointer (some ⟨b0, 0, none⟩)), (3, Value.int .i64 (w64 (x4 + ((((a0).l).getD (x5).toNat []).length : Int)))), (4, Value.int .i64 (x5))] ⟨rfl, rfl, rfl, trivial⟩ ?_
      refine V.region ?_
      refine W.rd (X.move rfl) rfl rfl rfl ?_
      refine W.rd (X.add rfl rfl) rfl rfl rfl ?_
      refine W.rd (X.assign rfl) rfl rfl rfl ?_
      refine W.nil ?_
      replace HS := HS.sel [1, 2, 3, 4] [0] (by kernel_rfl)
      exact At.round kq6 (by omega) (w64 (x4 + ((((a0).l).getD (x5).toNat []).length : Int)), w64 (x5 + 1)) ⟨rfl, rfl, rfl, trivial⟩ ⟨HS, H, by omega⟩
    · replace H := ite_f c8 H
      refine V.condF (sb (decide_eq_false c8)) ?_
      refine V.exit ?_
      refine At.thenExit ?_
      refine At.thenExit ?_
      refine At.blockExit ?_
      refine At.next ?_
      refine V.keep [(3, Value.int .i64 (x4))] ⟨rfl, trivial⟩ ?_
      refine V.seq ?_
      refine V.region ?_
      refine W.rd (X.move rfl) rfl rfl rfl ?_
      refine W.rd (X.assign rfl) rfl rfl rfl ?_
      refine W.nil ?_
      refine At.next ?_
      refine V.keep [(2, Value.int .i64 (x4))] ⟨rfl, trivial⟩ ?_
      refine V.ret ?_
      cases H
      exact At.ret1 rfl rfl ⟨_, rfl, rfl, HS⟩

/-! ### (*signalman/signalmanref6.Ring).Add: function 15 -/
def signalmanref6_Ring_Add.f (k : Nat) (a0 : signalmanref6_Ring) (a1 : List Int) : Option (Bool × signalmanref6_Ring) := ((signalmanref6_Ring_Len.f k a0).bind fun t4 => (if (w64 (t4 + ((a1).length : Int))) > ((a0).room) then ((signalmanref1_Cut.f (w64 (((a0).dropped) + 1)) 0 4294967295).bind fun t7 => some (false, ({ room := (a0).room, l := (a0).l, begun := (a0).begun, dropped := t7 } : signalmanref6_Ring))) else (if ((a1).length : Int) > 0 then (if ((([] : List Int)).length : Int) + (a1).length ≤ 1099511627776 then (if (((a0).l).length : Int) + (([([] : List Int) ++ a1] : List (List Int))).length ≤ 1099511627776 then some (true, ({ room := (a0).room, l := ((a0).l) ++ ([([] : List Int) ++ a1] : List (List Int)), begun := (a0).begun, dropped := (a0).dropped } : signalmanref6_Ring)) else none) else none) else some (true, a0))))
set_option maxRecDepth 100000 in
set_option maxHeartbeats 4000000 in
theorem signalmanref6_Ring_Add.calls (k : Nat) (a0 : signalmanref6_Ring) (a1 : List Int) (R : As) (w0 w : World) (b0 : Nat) (sa1 : Option Addr) (sc1 : Nat) (r : Bool × signalmanref6_Ring) (hr1 : rdC R 1 (.slice sa1 (a1).length sc1) (a1).length ((a1).map (Value.int .u8))) (H : signalmanref6_Ring_Add.f k a0 a1 = some r) (HS : Sep.St [signalmanref6_Ring.at b0 (a0), R] w0 w) : Calls Try.prog 15 #[Value.pointer (some ⟨b0, 0, none⟩), Value.slice sa1 (a1).length sc1] w (Ret fun u w => u = Value.bool (r.1) ∧ Sep.St [signalmanref6_Ring.at b0 (r.2), R] w0 w) := by
  unfold signalmanref6_Ring_Add.f at H
  refine calls_enter Try.func15 rfl rfl ?_
  have H : _ = some r := H
  refine V.seq ?_
  refine V.region ?_
  refine W.rd (X.assign rfl) rfl rfl rfl ?_
  refine W.nil ?_
  refine At.next ?_
  refine V.keep [(0, Value.pointer (some ⟨b0, 0, none⟩)), (1, Value.slice sa1 (a1).length sc1)] ⟨rfl, rfl, trivial⟩ ?_
  refine V.seq ?_
  refine V.seq ?_
  obtain ⟨a1_2, c1_2, d1_2, hi3, HS⟩ := signalmanref6_Ring.open HS
  have HS : Sep.St [blk b0 (#[Value.int .i64 ((a0).room), Value.slice a1_2 ((a0).l).length c1_2, Value.bool ((a0).begun), Value.int .i64 ((a0).dropped)]) 47, row 27 1 (.slice a1_2 ((a0).l).length c1_2) ((a0).l).length d1_2, tie (El.sl (El.int .u8)) d1_2 ((a0).l), R] w0 w := HS
  refine V.draw (es := [1]) (bl := [4, 9]) (f := [(5, Value.pointer (some ⟨b0, 0, none⟩)), (7, Value.slice sa1 (a1).length sc1), (8, Value.int .i64 (((a1).length : Int))), (10, Value.pointer (some ⟨b0, 0, none⟩)), (11, Value.pointer (some ⟨b0, 0, none⟩)), (12, Value.pointer (some ⟨b0, 0 + 0, none⟩)), (13, Value.int .i64 ((a0).room))]) (fun w => Sep.St [blk b0 (#[Value.int .i64 ((a0).room), Value.slice a1_2 ((a0).l).length c1_2, Value.bool ((a0).begun), Value.int .i64 ((a0).dropped)]) 47, row 27 1 (.slice a1_2 ((a0).l).length c1_2) ((a0).l).length d1_2, tie (El.sl (El.int .u8)) d1_2 ((a0).l), R] w0 w) mo HS.drew rfl ?_
  refine T.event _ [(5, Value.pointer (some ⟨b0, 0, none⟩))] rfl rfl ⟨⟨_, Value.pointer (some ⟨b0, 0, none⟩), [(0, Value.pointer (some ⟨b0, 0, none⟩))], 5, rfl, rfl, ⟨.inl ⟨rfl, rfl⟩, trivial⟩, .run rfl (fun w HS => X.move rfl), rfl, rfl, rfl⟩, ⟨_, Value.slice sa1 (a1).length sc1, [(1, Value.slice sa1 (a1).length sc1)], 7, rfl, rfl, ⟨.inl ⟨rfl, rfl⟩, trivial⟩, .run rfl (fun w HS => X.move rfl), rfl, rfl, rfl⟩, ⟨_, Value.int .i64 (((a1).length : Int)), [(7, Value.slice sa1 (a1).length sc1)], 8, rfl, rfl, ⟨.inr ⟨rfl, rfl⟩, trivial⟩, .run rfl (fun w HS => X.lenSl Try.underlying27 rfl), rfl, rfl, rfl⟩, ⟨_, Value.pointer (some ⟨b0, 0, none⟩), [(0, Value.pointer (some ⟨b0, 0, none⟩))], 10, rfl, rfl, ⟨.inl ⟨rfl, rfl⟩, trivial⟩, .run rfl (fun w HS => X.move rfl), rfl, rfl, rfl⟩, ⟨_, Value.pointer (some ⟨b0, 0, none⟩), [(10, Value.pointer (some ⟨b0, 0, none⟩))], 11, rfl, rfl, ⟨.inr ⟨rfl, rfl⟩, trivial⟩, .run rfl (fun w HS => X.nilCheck rfl), rfl, rfl, rfl⟩, ⟨_, Value.pointer (some ⟨b0, 0 + 0, none⟩), [(11, Value.pointer (some ⟨b0, 0, none⟩))], 12, rfl, rfl, ⟨.inr ⟨rfl, rfl⟩, trivial⟩, .run rfl (fun w HS => X.fieldAddr 0 fo47_0 rfl), rfl, rfl, rfl⟩, ⟨_, Value.int .i64 ((a0).room), [(12, Value.pointer (some ⟨b0, 0 + 0, none⟩))], 13, rfl, rfl, ⟨.inr ⟨rfl, rfl⟩, trivial⟩, .run rfl (fun w HS => X.loadAt 0 HS rfl Try.underlying3 rfl rfl rfl), rfl, rfl, rfl⟩, trivial⟩ rfl ⟨.inr ⟨rfl, rfl⟩, trivial⟩ (Or.inl rfl) (by intro d hd; cases hd; exact ⟨by decide, rfl, rfl⟩) [] [0] rfl rfl (fun w HS => ?_)
  have HS : Sep.St [blk b0 (#[Value.int .i64 ((a0).room), Value.slice a1_2 ((a0).l).length c1_2, Value.bool ((a0).begun), Value.int .i64 ((a0).dropped)]) 47, row 27 1 (.slice a1_2 ((a0).l).length c1_2) ((a0).l).length d1_2, tie (El.sl (El.int .u8)) d1_2 ((a0).l), R] w0 w := HS
  obtain ⟨t4, A5, H⟩ := bind_s H
  refine ⟨_, Y.call Try.func18 (by kernel_rfl) rfl (vs := [Value.pointer (some ⟨b0, 0, none⟩)]) rfl (signalmanref6_Ring_Len.calls k a0 _ w0 _ b0 a1_2 c1_2 d1_2 t4  A5 (Sep.St.tailJoin (m := [blk b0 (#[Value.int .i64 ((a0).room), Value.slice a1_2 ((a0).l).length c1_2, Value.bool ((a0).begun), Value.int .i64 ((a0).dropped)]) 47, row 27 1 (.slice a1_2 ((a0).l).length c1_2) ((a0).l).length d1_2, tie (El.sl (El.int .u8)) d1_2 ((a0).l)]) (r := [R]) HS)), ?_⟩
  rintro _ w ⟨rfl, HS⟩
  replace HS := Sep.St.tailOpen (m := [blk b0 (#[Value.int .i64 ((a0).room), Value.slice a1_2 ((a0).l).length c1_2, Value.bool ((a0).begun), Value.int .i64 ((a0).dropped)]) 47, row 27 1 (.slice a1_2 ((a0).l).length c1_2) ((a0).l).length d1_2, tie (El.sl (El.int .u8)) d1_2 ((a0).l)]) (r := [R]) HS
  have HS : Sep.St [blk b0 (#[Value.int .i64 ((a0).room), Value.slice a1_2 ((a0).l).length c1_2, Value.bool ((a0).begun), Value.int .i64 ((a0).dropped)]) 47, row 27 1 (.slice a1_2 ((a0).l).length c1_2) ((a0).l).length d1_2, tie (El.sl (El.int .u8)) d1_2 ((a0).l), R] w0 w := HS
  refine ⟨[(6, Value.int .i64 (t4)), (9, Value.int .i64 (w64 (t4 + ((a1).length : Int)))), (14, Value.bool (decide ((w64 (t4 + ((a1).length : Int))) > ((a0).room))))], fun w => Sep.St [blk b0 (#[Value.int .i64 ((a0).room), Value.slice a1_2 ((a0).l).length c1_2, Value.bool ((a0).begun), Value.int .i64 ((a0).dropped)]) 47, row 27 1 (.slice a1_2 ((a0).l).length c1_2) ((a0).l).length d1_2, tie (El.sl (El.int .u8)) d1_2 ((a0).l), R] w0 w, ⟨.inl ⟨rfl, rfl⟩, ⟨.inr ⟨by decide, rfl⟩, ⟨.inr ⟨by decide, rfl⟩, trivial⟩⟩⟩, ?_, HS⟩
  refine T.fin [(0, Value.pointer (some ⟨b0, 0, none⟩)), (1, Value.slice sa1 (a1).length sc1), (14, Value.bool (decide ((w64 (t4 + ((a1).length : Int))) > ((a0).room))))] rfl ⟨⟨_, Value.slice sa1 (a1).length sc1, [(1, Value.slice sa1 (a1).length sc1)], 7, rfl, rfl, ⟨.inl ⟨rfl, rfl⟩, trivial⟩, .run rfl (fun w HS => X.move rfl), rfl, rfl, rfl⟩, ⟨_, Value.int .i64 (((a1).length : Int)), [(7, Value.slice sa1 (a1).length sc1)], 8, rfl, rfl, ⟨.inr ⟨rfl, rfl⟩, trivial⟩, .run rfl (fun w HS => X.lenSl Try.underlying27 rfl), rfl, rfl, rfl⟩, ⟨_, Value.int .i64 (w64 (t4 + ((a1).length : Int))), [(6, Value.int .i64 (t4)), (8, Value.int .i64 (((a1).length : Int)))], 9, rfl, rfl, ⟨.inr ⟨rfl, rfl⟩, ⟨.inr ⟨rfl, rfl⟩, trivial⟩⟩, .run rfl (fun w HS => X.add rfl rfl), rfl, rfl, rfl⟩, ⟨_, Value.pointer (some ⟨b0, 0, none⟩), [(0, Value.pointer (some ⟨b0, 0, none⟩))], 10, rfl, rfl, ⟨.inl ⟨rfl, rfl⟩, trivial⟩, .run rfl (fun w HS => X.move rfl), rfl, rfl, rfl⟩, ⟨_, Value.pointer (some ⟨b0, 0, none⟩), [(10, Value.pointer (some ⟨b0, 0, none⟩))], 11, rfl, rfl, ⟨.inr ⟨rfl, rfl⟩, trivial⟩, .run rfl (fun w HS => X.nilCheck rfl), rfl, rfl, rfl⟩, ⟨_, Value.pointer (some ⟨b0, 0 + 0, none⟩), [(11, Value.pointer (some ⟨b0, 0, none⟩))], 12, rfl, rfl, ⟨.inr ⟨rfl, rfl⟩, trivial⟩, .run rfl (fun w HS => X.fieldAddr 0 fo47_0 rfl), rfl, rfl, rfl⟩, ⟨_, Value.int .i64 ((a0).room), [(12, Value.pointer (some ⟨b0, 0 + 0, none⟩))], 13, rfl, rfl, ⟨.inr ⟨rfl, rfl⟩, trivial⟩, .run rfl (fun w HS => X.loadAt 0 HS rfl Try.underlying3 rfl rfl rfl), rfl, rfl, rfl⟩, ⟨_, Value.bool (decide ((w64 (t4 + ((a1).length : Int))) > ((a0).room))), [(9, Value.int .i64 (w64 (t4 + ((a1).length : Int)))), (13, Value.int .i64 ((a0).room))], 14, rfl, rfl, ⟨.inr ⟨rfl, rfl⟩, ⟨.inr ⟨rfl, rfl⟩, trivial⟩⟩, .run rfl (fun w HS => X.cmp (decide ((w64 (t4 + ((a1).length : Int))) > ((a0).room))) rfl rfl rfl rfl), rfl, rfl, rfl⟩, trivial⟩ ⟨.inl ⟨rfl, rfl⟩, ⟨.inl ⟨rfl, rfl⟩, ⟨.inr ⟨rfl, rfl⟩, trivial⟩⟩⟩ (fun w HS => ?_)
  have HS : Sep.St [blk b0 (#[Value.int .i64 ((a0).room), Value.slice a1_2 ((a0).l).length c1_2, Value.bool ((a0).begun), Value.int .i64 ((a0).dropped)]) 47, row 27 1 (.slice a1_2 ((a0).l).length c1_2) ((a0).l).length d1_2, tie (El.sl (El.int .u8)) d1_2 ((a0).l), R] w0 w := HS
  refine At.next ?_
  refine V.keep [(0, Value.pointer (some ⟨b0, 0, none⟩)), (1, Value.slice sa1 (a1).length sc1), (14, Value.bool (decide ((w64 (t4 + ((a1).length : Int))) > ((a0).room))))] ⟨rfl, rfl, rfl, trivial⟩ ?_
  by_cases c6 : (w64 (t4 + ((a1).length : Int))) > ((a0).room)
  · replace H := ite_t c6 H
    refine V.condT (sb (decide_eq_true c6)) ?_
    refine V.seq ?_
    refine V.region ?_
    refine W.rd (X.move rfl) rfl rfl rfl ?_
    refine W.rd (X.move rfl) rfl rfl rfl ?_
    refine W.rd (X.nilCheck rfl) rfl rfl rfl ?_
    refine W.rd (X.fieldAddr 3 fo47_3 rfl) rfl rfl rfl ?_
    refine W.rd (X.loadAt 0 HS rfl Try.underlying3 rfl rfl rfl) rfl rfl rfl ?_
    refine W.rd (X.add rfl rfl) rfl rfl rfl ?_
    obtain ⟨t7, A8, H⟩ := bind_s H
    refine W.ev (Y.call Try.func23 (by kernel_rfl) rfl (vs := [Value.int .i64 (w64 (((a0).dropped) + 1)), Value.int .i64 (0), Value.int .i64 (4294967295)]) rfl (signalmanref1_Cut.calls (w64 (((a0).dropped) + 1)) 0 4294967295 _ w0 _  t7  A8 (Sep.St.tailJoin (m := []) (r := [blk b0 (#[Value.int .i64 ((a0).room), Value.slice a1_2 ((a0).l).length c1_2, Value.bool ((a0).begun), Value.int .i64 ((a0).dropped)]) 47, row 27 1 (.slice a1_2 ((a0).l).length c1_2) ((a0).l).length d1_2, tie (El.sl (El.int .u8)) d1_2 ((a0).l), R]) HS))) rfl rfl rfl ?_
    rintro _ w ⟨rfl, HS⟩
    replace HS := Sep.St.tailOpen (m := []) (r := [blk b0 (#[Value.int .i64 ((a0).room), Value.slice a1_2 ((a0).l).length c1_2, Value.bool ((a0).begun), Value.int .i64 ((a0).dropped)]) 47, row 27 1 (.slice a1_2 ((a0).l).length c1_2) ((a0).l).length d1_2, tie (El.sl (El.int .u8)) d1_2 ((a0).l), R]) HS
    have HS : Sep.St [blk b0 (#[Value.int .i64 ((a0).room), Value.slice a1_2 ((a0).l).length c1_2, Value.bool ((a0).begun), Value.int .i64 ((a0).dropped)]) 47, row 27 1 (.slice a1_2 ((a0).l).length c1_2) ((a0).l).length d1_2, tie (El.sl (El.int .u8)) d1_2 ((a0).l), R] w0 w := HS
    refine W.rd (X.nilCheck rfl) rfl rfl rfl ?_
    refine W.rd (X.fieldAddr 3 fo47_3 rfl) rfl rfl rfl ?_
    refine W.ev_none (Y.storeAt 0 HS rfl inf3 rfl rfl rfl rfl rfl rfl) rfl rfl ?_
    rintro _ w HS
    have HS : Sep.St [blk b0 (#[Value.int .i64 ((a0).room), Value.slice a1_2 ((a0).l).length c1_2, Value.bool ((a0).begun), Value.int .i64 (t7)]) 47, row 27 1 (.slice a1_2 ((a0).l).length c1_2) ((a0).l).length d1_2, tie (El.sl (El.int .u8)) d1_2 ((a0).l), R] w0 w := HS
    refine W.nil ?_
    refine At.next ?_
    refine V.keep [] trivial ?_
    refine V.seq ?_
    refine V.region ?_
    refine W.rd (X.assign rfl) rfl rfl rfl ?_
    refine W.nil ?_
    refine At.next ?_
    refine V.keep [(4, Value.bool (false))] ⟨rfl, trivial⟩ ?_
    refine V.ret ?_
    refine At.thenRet ?_
    replace HS := signalmanref6_Ring.close (({ room := (a0).room, l := (a0).l, begun := (a0).begun, dropped := t7 } : signalmanref6_Ring)) trivial HS
    have HS : Sep.St [signalmanref6_Ring.at b0 (({ room := (a0).room, l := (a0).l, begun := (a0).begun, dropped := t7 } : signalmanref6_Ring)), R] w0 w := HS
    cases H
    exact At.ret1 rfl rfl ⟨_, rfl, rfl, HS⟩
  · replace H := ite_f c6 H
    refine V.condF (sb (decide_eq_false c6)) ?_
    refine V.skip ?_
    refine At.next ?_
    refine V.keep [(0, Value.pointer (some ⟨b0, 0, none⟩)), (1, Value.slice sa1 (a1).length sc1)] ⟨rfl, rfl, trivial⟩ ?_
    refine V.seq ?_
    refine V.seq ?_
    refine V.region ?_
    refine W.rd (X.move rfl) rfl rfl rfl ?_
    refine W.rd (X.lenSl Try.underlying27 rfl) rfl rfl rfl ?_
    refine W.rd (X.cmp (decide (((a1).length : Int) > 0)) rfl rfl rfl rfl) rfl rfl rfl ?_
    refine W.nil ?_
    refine At.next ?_
    refine V.keep [(0, Value.pointer (some ⟨b0, 0, none⟩)), (1, Value.slice sa1 (a1).length sc1), (26, Value.bool (decide (((a1).length : Int) > 0)))] ⟨rfl, rfl, rfl, trivial⟩ ?_
    by_cases c9 : ((a1).length : Int) > 0
    · replace H := ite_t c9 H
      refine V.condT (sb (decide_eq_true c9)) ?_
      refine V.draw (es := [6, 7, 8, 11]) (bl := [9, 10]) (f := [(27, Value.pointer (some ⟨b0, 0, none⟩)), (28, Value.pointer (some ⟨b0, 0, none⟩)), (29, Value.pointer (some ⟨b0, 0, none⟩)), (30, Value.pointer (some ⟨b0, 0 + 1, none⟩)), (31, Value.slice a1_2 ((a0).l).length c1_2), (32, Value.slice sa1 (a1).length sc1)]) (fun w => Sep.St [blk b0 (#[Value.int .i64 ((a0).room), Value.slice a1_2 ((a0).l).length c1_2, Value.bool ((a0).begun), Value.int .i64 ((a0).dropped)]) 47, row 27 1 (.slice a1_2 ((a0).l).length c1_2) ((a0).l).length d1_2, tie (El.sl (El.int .u8)) d1_2 ((a0).l), R] w0 w) mo HS.drew rfl ?_
      refine T.event _ [(32, Value.slice sa1 (a1).length sc1)] rfl rfl ⟨⟨_, Value.pointer (some ⟨b0, 0, none⟩), [(0, Value.pointer (some ⟨b0, 0, none⟩))], 27, rfl, rfl, ⟨.inl ⟨rfl, rfl⟩, trivial⟩, .run rfl (fun w HS => X.move rfl), rfl, rfl, rfl⟩, ⟨_, Value.pointer (some ⟨b0, 0, none⟩), [(0, Value.pointer (some ⟨b0, 0, none⟩))], 28, rfl, rfl, ⟨.inl ⟨rfl, rfl⟩, trivial⟩, .run rfl (fun w HS => X.move rfl), rfl, rfl, rfl⟩, ⟨_, Value.pointer (some ⟨b0, 0, none⟩), [(28, Value.pointer (some ⟨b0, 0, none⟩))], 29, rfl, rfl, ⟨.inr ⟨rfl, rfl⟩, trivial⟩, .run rfl (fun w HS => X.nilCheck rfl), rfl, rfl, rfl⟩, ⟨_, Value.pointer (some ⟨b0, 0 + 1, none⟩), [(29, Value.pointer (some ⟨b0, 0, none⟩))], 30, rfl, rfl, ⟨.inr ⟨rfl, rfl⟩, trivial⟩, .run rfl (fun w HS => X.fieldAddr 1 fo47_1 rfl), rfl, rfl, rfl⟩, ⟨_, Value.slice a1_2 ((a0).l).length c1_2, [(30, Value.pointer (some ⟨b0, 0 + 1, none⟩))], 31, rfl, rfl, ⟨.inr ⟨rfl, rfl⟩, trivial⟩, .run rfl (fun w HS => X.loadAt 0 HS rfl Try.underlying22 rfl rfl rfl), rfl, rfl, rfl⟩, ⟨_, Value.slice sa1 (a1).length sc1, [(1, Value.slice sa1 (a1).length sc1)], 32, rfl, rfl, ⟨.inl ⟨rfl, rfl⟩, trivial⟩, .run rfl (fun w HS => X.move rfl), rfl, rfl, rfl⟩, trivial⟩ rfl ⟨.inr ⟨rfl, rfl⟩, trivial⟩ (Or.inl rfl) (by intro d hd; cases hd; exact ⟨by decide, rfl, rfl⟩) [9, 10] [5] rfl rfl (fun w HS => ?_)
      have HS : Sep.St [blk b0 (#[Value.int .i64 ((a0).room), Value.slice a1_2 ((a0).l).length c1_2, Value.bool ((a0).begun), Value.int .i64 ((a0).dropped)]) 47, row 27 1 (.slice a1_2 ((a0).l).length c1_2) ((a0).l).length d1_2, tie (El.sl (El.int .u8)) d1_2 ((a0).l), R] w0 w := HS
      obtain ⟨c10, H⟩ := ite_n H
      replace HS := row_nil' (e := 5) 1 none HS
      have HS : Sep.St [row 5 1 (.slice none (([] : List Int)).length 0) (([] : List Int)).length ((([] : List Int)).map (Value.int .u8)), blk b0 (#[Value.int .i64 ((a0).room), Value.slice a1_2 ((a0).l).length c1_2, Value.bool ((a0).begun), Value.int .i64 ((a0).dropped)]) 47, row 27 1 (.slice a1_2 ((a0).l).length c1_2) ((a0).l).length d1_2, tie (El.sl (El.int .u8)) d1_2 ((a0).l), R] w0 w := HS
      refine ⟨_, Y.appF (Value.int .u8) (fun _ => rfl) 0 Try.underlying27 ap5 rfl HS rfl rfl rfl (rdC.at 4 hr1 HS rfl) (by omega) (by omega), ?_⟩
      rintro _ w ⟨ra11, rc12, rfl, HS⟩
      have HS : Sep.St [row 5 1 (.slice ra11 (([] : List Int) ++ a1).length rc12) (([] : List Int) ++ a1).length ((([] : List Int) ++ a1).map (Value.int .u8)), blk b0 (#[Value.int .i64 ((a0).room), Value.slice a1_2 ((a0).l).length c1_2, Value.bool ((a0).begun), Value.int .i64 ((a0).dropped)]) 47, row 27 1 (.slice a1_2 ((a0).l).length c1_2) ((a0).l).length d1_2, tie (El.sl (El.int .u8)) d1_2 ((a0).l), R] w0 w := HS
      refine ⟨[(33, Value.slice ra11 (([] : List Int) ++ a1).length rc12)], fun w => Sep.St [row 5 1 (.slice ra11 (([] : List Int) ++ a1).length rc12) (([] : List Int) ++ a1).length ((([] : List Int) ++ a1).map (Value.int .u8)), blk b0 (#[Value.int .i64 ((a0).room), Value.slice a1_2 ((a0).l).length c1_2, Value.bool ((a0).begun), Value.int .i64 ((a0).dropped)]) 47, row 27 1 (.slice a1_2 ((a0).l).length c1_2) ((a0).l).length d1_2, tie (El.sl (El.int .u8)) d1_2 ((a0).l), R] w0 w, ⟨.inl ⟨rfl, rfl⟩, trivial⟩, ?_, HS⟩
      refine T.event _ [(33, Value.slice ra11 (([] : List Int) ++ a1).length rc12)] rfl rfl ⟨⟨_, Value.pointer (some ⟨b0, 0, none⟩), [(0, Value.pointer (some ⟨b0, 0, none⟩))], 27, rfl, rfl, ⟨.inl ⟨rfl, rfl⟩, trivial⟩, .run rfl (fun w HS => X.move rfl), rfl, rfl, rfl⟩, ⟨_, Value.pointer (some ⟨b0, 0, none⟩), [(0, Value.pointer (some ⟨b0, 0, none⟩))], 28, rfl, rfl, ⟨.inl ⟨rfl, rfl⟩, trivial⟩, .run rfl (fun w HS => X.move rfl), rfl, rfl, rfl⟩, ⟨_, Value.pointer (some ⟨b0, 0, none⟩), [(28, Value.pointer (some ⟨b0, 0, none⟩))], 29, rfl, rfl, ⟨.inr ⟨rfl, rfl⟩, trivial⟩, .run rfl (fun w HS => X.nilCheck rfl), rfl, rfl, rfl⟩, ⟨_, Value.pointer (some ⟨b0, 0 + 1, none⟩), [(29, Value.pointer (some ⟨b0, 0, none⟩))], 30, rfl, rfl, ⟨.inr ⟨rfl, rfl⟩, trivial⟩, .run rfl (fun w HS => X.fieldAddr 1 fo47_1 rfl), rfl, rfl, rfl⟩, ⟨_, Value.slice a1_2 ((a0).l).length c1_2, [(30, Value.pointer (some ⟨b0, 0 + 1, none⟩))], 31, rfl, rfl, ⟨.inr ⟨rfl, rfl⟩, trivial⟩, .run rfl (fun w HS => X.loadAt 1 HS rfl Try.underlying22 rfl rfl rfl), rfl, rfl, rfl⟩, trivial⟩ rfl ⟨.inr ⟨rfl, rfl⟩, trivial⟩ (Or.inl rfl) (by intro d hd; cases hd; exact ⟨by decide, rfl, rfl⟩) [9, 10] [] rfl rfl (fun w HS => ?_)
      have HS : Sep.St [row 5 1 (.slice ra11 (([] : List Int) ++ a1).length rc12) (([] : List Int) ++ a1).length ((([] : List Int) ++ a1).map (Value.int .u8)), blk b0 (#[Value.int .i64 ((a0).room), Value.slice a1_2 ((a0).l).length c1_2, Value.bool ((a0).begun), Value.int .i64 ((a0).dropped)]) 47, row 27 1 (.slice a1_2 ((a0).l).length c1_2) ((a0).l).length d1_2, tie (El.sl (El.int .u8)) d1_2 ((a0).l), R] w0 w := HS
      replace HS := St.row_freeze HS
      have HS : Sep.St [fsl 1 (.slice ra11 (([] : List Int) ++ a1).length rc12) (([] : List Int) ++ a1).length ((([] : List Int) ++ a1).map (Value.int .u8)), blk b0 (#[Value.int .i64 ((a0).room), Value.slice a1_2 ((a0).l).length c1_2, Value.bool ((a0).begun), Value.int .i64 ((a0).dropped)]) 47, row 27 1 (.slice a1_2 ((a0).l).length c1_2) ((a0).l).length d1_2, tie (El.sl (El.int .u8)) d1_2 ((a0).l), R] w0 w := HS
      refine ⟨_, Y.litB (e := 27) (sz := 1) (vs := #[(0, Value.slice ra11 (([] : List Int) ++ a1).length rc12)]) [Value.slice ra11 (([] : List Int) ++ a1).length rc12] HS (fun a ha => by simp only [List.map_toArray, List.map_cons, List.map_nil]; rw [ha.ev (x := .tmp 33) (v := Value.slice ra11 (([] : List Int) ++ a1).length rc12) rfl]; try rfl) rfl (by decide) (fun _ => by kernel_rfl), ?_⟩
      rintro _ w ⟨lb13, rfl, HS⟩
      have HS : Sep.St [row 27 1 (.slice (some ⟨lb13, 0, none⟩) (([([] : List Int) ++ a1] : List (List Int))).length 1) (([([] : List Int) ++ a1] : List (List Int))).length ([Value.slice ra11 (([] : List Int) ++ a1).length rc12]), fsl 1 (.slice ra11 (([] : List Int) ++ a1).length rc12) (([] : List Int) ++ a1).length ((([] : List Int) ++ a1).map (Value.int .u8)), blk b0 (#[Value.int .i64 ((a0).room), Value.slice a1_2 ((a0).l).length c1_2, Value.bool ((a0).begun), Value.int .i64 ((a0).dropped)]) 47, row 27 1 (.slice a1_2 ((a0).l).length c1_2) ((a0).l).length d1_2, tie (El.sl (El.int .u8)) d1_2 ((a0).l), R] w0 w := HS
      replace HS := St.put (A := tie (El.sl (El.int .u8)) ([]) (([] : List (List Int)))) (fun _ => tie.nil) HS
      have HS : Sep.St [tie (El.sl (El.int .u8)) ([]) (([] : List (List Int))), row 27 1 (.slice (some ⟨lb13, 0, none⟩) (([([] : List Int) ++ a1] : List (List Int))).length 1) (([([] : List Int) ++ a1] : List (List Int))).length ([Value.slice ra11 (([] : List Int) ++ a1).length rc12]), fsl 1 (.slice ra11 (([] : List Int) ++ a1).length rc12) (([] : List Int) ++ a1).length ((([] : List Int) ++ a1).map (Value.int .u8)), blk b0 (#[Value.int .i64 ((a0).room), Value.slice a1_2 ((a0).l).length c1_2, Value.bool ((a0).begun), Value.int .i64 ((a0).dropped)]) 47, row 27 1 (.slice a1_2 ((a0).l).length c1_2) ((a0).l).length d1_2, tie (El.sl (El.int .u8)) d1_2 ((a0).l), R] w0 w := HS
      replace HS := HS.more 2 rfl (fun _ t => t) fsl.pers
      have HS : Sep.St [fsl 1 (.slice ra11 (([] : List Int) ++ a1).length rc12) (([] : List Int) ++ a1).length ((([] : List Int) ++ a1).map (Value.int .u8)), tie (El.sl (El.int .u8)) ([]) (([] : List (List Int))), row 27 1 (.slice (some ⟨lb13, 0, none⟩) (([([] : List Int) ++ a1] : List (List Int))).length 1) (([([] : List Int) ++ a1] : List (List Int))).length ([Value.slice ra11 (([] : List Int) ++ a1).length rc12]), fsl 1 (.slice ra11 (([] : List Int) ++ a1).length rc12) (([] : List Int) ++ a1).length ((([] : List Int) ++ a1).map (Value.int .u8)), blk b0 (#[Value.int .i64 ((a0).room), Value.slice a1_2 ((a0).l).length c1_2, Value.bool ((a0).begun), Value.int .i64 ((a0).dropped)]) 47, row 27 1 (.slice a1_2 ((a0).l).length c1_2) ((a0).l).length d1_2, tie (El.sl (El.int .u8)) d1_2 ((a0).l), R] w0 w := HS
      replace HS := St.put (A := tie (El.int .u8) ((([] : List Int) ++ a1).map (Value.int .u8)) (([] : List Int) ++ a1)) (fun _ => int_tie) HS
      have HS : Sep.St [tie (El.int .u8) ((([] : List Int) ++ a1).map (Value.int .u8)) (([] : List Int) ++ a1), fsl 1 (.slice ra11 (([] : List Int) ++ a1).length rc12) (([] : List Int) ++ a1).length ((([] : List Int) ++ a1).map (Value.int .u8)), tie (El.sl (El.int .u8)) ([]) (([] : List (List Int))), row 27 1 (.slice (some ⟨lb13, 0, none⟩) (([([] : List Int) ++ a1] : List (List Int))).length 1) (([([] : List Int) ++ a1] : List (List Int))).length ([Value.slice ra11 (([] : List Int) ++ a1).length rc12]), fsl 1 (.slice ra11 (([] : List Int) ++ a1).length rc12) (([] : List Int) ++ a1).length ((([] : List Int) ++ a1).map (Value.int .u8)), blk b0 (#[Value.int .i64 ((a0).room), Value.slice a1_2 ((a0).l).length c1_2, Value.bool ((a0).begun), Value.int .i64 ((a0).dropped)]) 47, row 27 1 (.slice a1_2 ((a0).l).length c1_2) ((a0).l).length d1_2, tie (El.sl (El.int .u8)) d1_2 ((a0).l), R] w0 w := HS
      replace HS := St.swap HS
      replace HS := St.sl_close (E := (El.int .u8)) HS
      have HS : Sep.St [(El.sl (El.int .u8)).p [Value.slice ra11 (([] : List Int) ++ a1).length rc12] (([] : List Int) ++ a1), tie (El.sl (El.int .u8)) ([]) (([] : List (List Int))), row 27 1 (.slice (some ⟨lb13, 0, none⟩) (([([] : List Int) ++ a1] : List (List Int))).length 1) (([([] : List Int) ++ a1] : List (List Int))).length ([Value.slice ra11 (([] : List Int) ++ a1).length rc12]), fsl 1 (.slice ra11 (([] : List Int) ++ a1).length rc12) (([] : List Int) ++ a1).length ((([] : List Int) ++ a1).map (Value.int .u8)), blk b0 (#[Value.int .i64 ((a0).room), Value.slice a1_2 ((a0).l).length c1_2, Value.bool ((a0).begun), Value.int .i64 ((a0).dropped)]) 47, row 27 1 (.slice a1_2 ((a0).l).length c1_2) ((a0).l).length d1_2, tie (El.sl (El.int .u8)) d1_2 ((a0).l), R] w0 w := HS
      replace HS := HS.front 1 rfl
      have HS : Sep.St [tie (El.sl (El.int .u8)) ([]) (([] : List (List Int))), (El.sl (El.int .u8)).p [Value.slice ra11 (([] : List Int) ++ a1).length rc12] (([] : List Int) ++ a1), row 27 1 (.slice (some ⟨lb13, 0, none⟩) (([([] : List Int) ++ a1] : List (List Int))).length 1) (([([] : List Int) ++ a1] : List (List Int))).length ([Value.slice ra11 (([] : List Int) ++ a1).length rc12]), fsl 1 (.slice ra11 (([] : List Int) ++ a1).length rc12) (([] : List Int) ++ a1).length ((([] : List Int) ++ a1).map (Value.int .u8)), blk b0 (#[Value.int .i64 ((a0).room), Value.slice a1_2 ((a0).l).length c1_2, Value.bool ((a0).begun), Value.int .i64 ((a0).dropped)]) 47, row 27 1 (.slice a1_2 ((a0).l).length c1_2) ((a0).l).length d1_2, tie (El.sl (El.int .u8)) d1_2 ((a0).l), R] w0 w := HS
      replace HS := HS.front 1 rfl
      have HS : Sep.St [(El.sl (El.int .u8)).p [Value.slice ra11 (([] : List Int) ++ a1).length rc12] (([] : List Int) ++ a1), tie (El.sl (El.int .u8)) ([]) (([] : List (List Int))), row 27 1 (.slice (some ⟨lb13, 0, none⟩) (([([] : List Int) ++ a1] : List (List Int))).length 1) (([([] : List Int) ++ a1] : List (List Int))).length ([Value.slice ra11 (([] : List Int) ++ a1).length rc12]), fsl 1 (.slice ra11 (([] : List Int) ++ a1).length rc12) (([] : List Int) ++ a1).length ((([] : List Int) ++ a1).map (Value.int .u8)), blk b0 (#[Value.int .i64 ((a0).room), Value.slice a1_2 ((a0).l).length c1_2, Value.bool ((a0).begun), Value.int .i64 ((a0).dropped)]) 47, row 27 1 (.slice a1_2 ((a0).l).length c1_2) ((a0).l).length d1_2, tie (El.sl (El.int .u8)) d1_2 ((a0).l), R] w0 w := HS
      replace HS := St.tie_cons HS
      have HS : Sep.St [tie (El.sl (El.int .u8)) ([Value.slice ra11 (([] : List Int) ++ a1).length rc12]) (([([] : List Int) ++ a1] : List (List Int))), row 27 1 (.slice (some ⟨lb13, 0, none⟩) (([([] : List Int) ++ a1] : List (List Int))).length 1) (([([] : List Int) ++ a1] : List (List Int))).length ([Value.slice ra11 (([] : List Int) ++ a1).length rc12]), fsl 1 (.slice ra11 (([] : List Int) ++ a1).length rc12) (([] : List Int) ++ a1).length ((([] : List Int) ++ a1).map (Value.int .u8)), blk b0 (#[Value.int .i64 ((a0).room), Value.slice a1_2 ((a0).l).length c1_2, Value.bool ((a0).begun), Value.int .i64 ((a0).dropped)]) 47, row 27 1 (.slice a1_2 ((a0).l).length c1_2) ((a0).l).length d1_2, tie (El.sl (El.int .u8)) d1_2 ((a0).l), R] w0 w := HS
      refine ⟨[(34, Value.slice (some ⟨lb13, 0, none⟩) (([([] : List Int) ++ a1] : List (List Int))).length 1)], fun w => Sep.St [tie (El.sl (El.int .u8)) ([Value.slice ra11 (([] : List Int) ++ a1).length rc12]) (([([] : List Int) ++ a1] : List (List Int))), row 27 1 (.slice (some ⟨lb13, 0, none⟩) (([([] : List Int) ++ a1] : List (List Int))).length 1) (([([] : List Int) ++ a1] : List (List Int))).length ([Value.slice ra11 (([] : List Int) ++ a1).length rc12]), fsl 1 (.slice ra11 (([] : List Int) ++ a1).length rc12) (([] : List Int) ++ a1).length ((([] : List Int) ++ a1).map (Value.int .u8)), blk b0 (#[Value.int .i64 ((a0).room), Value.slice a1_2 ((a0).l).length c1_2, Value.bool ((a0).begun), Value.int .i64 ((a0).dropped)]) 47, row 27 1 (.slice a1_2 ((a0).l).length c1_2) ((a0).l).length d1_2, tie (El.sl (El.int .u8)) d1_2 ((a0).l), R] w0 w, ⟨.inl ⟨rfl, rfl⟩, trivial⟩, ?_, HS⟩
      refine T.event _ [(31, Value.slice a1_2 ((a0).l).length c1_2), (34, Value.slice (some ⟨lb13, 0, none⟩) (([([] : List Int) ++ a1] : List (List Int))).length 1)] rfl rfl ⟨⟨_, Value.pointer (some ⟨b0, 0, none⟩), [(0, Value.pointer (some ⟨b0, 0, none⟩))], 27, rfl, rfl, ⟨.inl ⟨rfl, rfl⟩, trivial⟩, .run rfl (fun w HS => X.move rfl), rfl, rfl, rfl⟩, ⟨_, Value.pointer (some ⟨b0, 0, none⟩), [(0, Value.pointer (some ⟨b0, 0, none⟩))], 28, rfl, rfl, ⟨.inl ⟨rfl, rfl⟩, trivial⟩, .run rfl (fun w HS => X.move rfl), rfl, rfl, rfl⟩, ⟨_, Value.pointer (some ⟨b0, 0, none⟩), [(28, Value.pointer (some ⟨b0, 0, none⟩))], 29, rfl, rfl, ⟨.inr ⟨rfl, rfl⟩, trivial⟩, .run rfl (fun w HS => X.nilCheck rfl), rfl, rfl, rfl⟩, ⟨_, Value.pointer (some ⟨b0, 0 + 1, none⟩), [(29, Value.pointer (some ⟨b0, 0, none⟩))], 30, rfl, rfl, ⟨.inr ⟨rfl, rfl⟩, trivial⟩, .run rfl (fun w HS => X.fieldAddr 1 fo47_1 rfl), rfl, rfl, rfl⟩, ⟨_, Value.slice a1_2 ((a0).l).length c1_2, [(30, Value.pointer (some ⟨b0, 0 + 1, none⟩))], 31, rfl, rfl, ⟨.inr ⟨rfl, rfl⟩, trivial⟩, .run rfl (fun w HS => X.loadAt 3 HS rfl Try.underlying22 rfl rfl rfl), rfl, rfl, rfl⟩, trivial⟩ rfl ⟨.inr ⟨rfl, rfl⟩, ⟨.inr ⟨rfl, rfl⟩, trivial⟩⟩ (Or.inl rfl) (by intro d hd; cases hd; exact ⟨by decide, rfl, rfl⟩) [] [1, 2, 3, 4] rfl rfl (fun w HS => ?_)
      have HS : Sep.St [tie (El.sl (El.int .u8)) ([Value.slice ra11 (([] : List Int) ++ a1).length rc12]) (([([] : List Int) ++ a1] : List (List Int))), row 27 1 (.slice (some ⟨lb13, 0, none⟩) (([([] : List Int) ++ a1] : List (List Int))).length 1) (([([] : List Int) ++ a1] : List (List Int))).length ([Value.slice ra11 (([] : List Int) ++ a1).length rc12]), fsl 1 (.slice ra11 (([] : List Int) ++ a1).length rc12) (([] : List Int) ++ a1).length ((([] : List Int) ++ a1).map (Value.int .u8)), blk b0 (#[Value.int .i64 ((a0).room), Value.slice a1_2 ((a0).l).length c1_2, Value.bool ((a0).begun), Value.int .i64 ((a0).dropped)]) 47, row 27 1 (.slice a1_2 ((a0).l).length c1_2) ((a0).l).length d1_2, tie (El.sl (El.int .u8)) d1_2 ((a0).l), R] w0 w := HS
      obtain ⟨c16, H⟩ := ite_n H
      refine ⟨_, Y.app (xs := (a0).l) (ys := ([([] : List Int) ++ a1] : List (List Int))) 4 Try.underlying22 ap27 rfl (by decide) HS rfl rfl rfl (rdC.at 1 row_rd HS rfl) (St.tie_one 0 HS rfl) (by omega) (by omega), ?_⟩
      rintro _ w ⟨ra17, rc18, rfl, HS⟩
      have HS : Sep.St [tie (El.sl (El.int .u8)) ([Value.slice ra11 (([] : List Int) ++ a1).length rc12]) (([([] : List Int) ++ a1] : List (List Int))), row 27 1 (.slice (some ⟨lb13, 0, none⟩) (([([] : List Int) ++ a1] : List (List Int))).length 1) (([([] : List Int) ++ a1] : List (List Int))).length ([Value.slice ra11 (([] : List Int) ++ a1).length rc12]), fsl 1 (.slice ra11 (([] : List Int) ++ a1).length rc12) (([] : List Int) ++ a1).length ((([] : List Int) ++ a1).map (Value.int .u8)), blk b0 (#[Value.int .i64 ((a0).room), Value.slice a1_2 ((a0).l).length c1_2, Value.bool ((a0).begun), Value.int .i64 ((a0).dropped)]) 47, row 27 1 (.slice ra17 (((a0).l) ++ ([([] : List Int) ++ a1] : List (List Int))).length rc18) (((a0).l) ++ ([([] : List Int) ++ a1] : List (List Int))).length (d1_2 ++ ([Value.slice ra11 (([] : List Int) ++ a1).length rc12])), tie (El.sl (El.int .u8)) d1_2 ((a0).l), R] w0 w := HS
      replace HS := HS.front 5 rfl
      have HS : Sep.St [tie (El.sl (El.int .u8)) d1_2 ((a0).l), tie (El.sl (El.int .u8)) ([Value.slice ra11 (([] : List Int) ++ a1).length rc12]) (([([] : List Int) ++ a1] : List (List Int))), row 27 1 (.slice (some ⟨lb13, 0, none⟩) (([([] : List Int) ++ a1] : List (List Int))).length 1) (([([] : List Int) ++ a1] : List (List Int))).length ([Value.slice ra11 (([] : List Int) ++ a1).length rc12]), fsl 1 (.slice ra11 (([] : List Int) ++ a1).length rc12) (([] : List Int) ++ a1).length ((([] : List Int) ++ a1).map (Value.int .u8)), blk b0 (#[Value.int .i64 ((a0).room), Value.slice a1_2 ((a0).l).length c1_2, Value.bool ((a0).begun), Value.int .i64 ((a0).dropped)]) 47, row 27 1 (.slice ra17 (((a0).l) ++ ([([] : List Int) ++ a1] : List (List Int))).length rc18) (((a0).l) ++ ([([] : List Int) ++ a1] : List (List Int))).length (d1_2 ++ ([Value.slice ra11 (([] : List Int) ++ a1).length rc12])), R] w0 w := HS
      replace HS := St.tie_app 1 HS rfl
      have HS : Sep.St [tie (El.sl (El.int .u8)) (d1_2 ++ ([Value.slice ra11 (([] : List Int) ++ a1).length rc12])) (((a0).l) ++ ([([] : List Int) ++ a1] : List (List Int))), tie (El.sl (El.int .u8)) ([Value.slice ra11 (([] : List Int) ++ a1).length rc12]) (([([] : List Int) ++ a1] : List (List Int))), row 27 1 (.slice (some ⟨lb13, 0, none⟩) (([([] : List Int) ++ a1] : List (List Int))).length 1) (([([] : List Int) ++ a1] : List (List Int))).length ([Value.slice ra11 (([] : List Int) ++ a1).length rc12]), fsl 1 (.slice ra11 (([] : List Int) ++ a1).length rc12) (([] : List Int) ++ a1).length ((([] : List Int) ++ a1).map (Value.int .u8)), blk b0 (#[Value.int .i64 ((a0).room), Value.slice a1_2 ((a0).l).length c1_2, Value.bool ((a0).begun), Value.int .i64 ((a0).dropped)]) 47, row 27 1 (.slice ra17 (((a0).l) ++ ([([] : List Int) ++ a1] : List (List Int))).length rc18) (((a0).l) ++ ([([] : List Int) ++ a1] : List (List Int))).length (d1_2 ++ ([Value.slice ra11 (([] : List Int) ++ a1).length rc12])), R] w0 w := HS
      refine ⟨[(35, Value.slice ra17 (((a0).l) ++ ([([] : List Int) ++ a1] : List (List Int))).length rc18), (36, Value.pointer (some ⟨b0, 0, none⟩)), (37, Value.pointer (some ⟨b0, 0 + 1, none⟩))], fun w => Sep.St [tie (El.sl (El.int .u8)) (d1_2 ++ ([Value.slice ra11 (([] : List Int) ++ a1).length rc12])) (((a0).l) ++ ([([] : List Int) ++ a1] : List (List Int))), tie (El.sl (El.int .u8)) ([Value.slice ra11 (([] : List Int) ++ a1).length rc12]) (([([] : List Int) ++ a1] : List (List Int))), row 27 1 (.slice (some ⟨lb13, 0, none⟩) (([([] : List Int) ++ a1] : List (List Int))).length 1) (([([] : List Int) ++ a1] : List (List Int))).length ([Value.slice ra11 (([] : List Int) ++ a1).length rc12]), fsl 1 (.slice ra11 (([] : List Int) ++ a1).length rc12) (([] : List Int) ++ a1).length ((([] : List Int) ++ a1).map (Value.int .u8)), blk b0 (#[Value.int .i64 ((a0).room), Value.slice a1_2 ((a0).l).length c1_2, Value.bool ((a0).begun), Value.int .i64 ((a0).dropped)]) 47, row 27 1 (.slice ra17 (((a0).l) ++ ([([] : List Int) ++ a1] : List (List Int))).length rc18) (((a0).l) ++ ([([] : List Int) ++ a1] : List (List Int))).length (d1_2 ++ ([Value.slice ra11 (([] : List Int) ++ a1).length rc12])), R] w0 w, ⟨.inl ⟨rfl, rfl⟩, ⟨.inr ⟨by decide, rfl⟩, ⟨.inr ⟨by decide, rfl⟩, trivial⟩⟩⟩, ?_, HS⟩
      refine T.event _ [(35, Value.slice ra17 (((a0).l) ++ ([([] : List Int) ++ a1] : List (List Int))).length rc18), (37, Value.pointer (some ⟨b0, 0 + 1, none⟩))] rfl rfl ⟨⟨_, Value.pointer (some ⟨b0, 0, none⟩), [(0, Value.pointer (some ⟨b0, 0, none⟩))], 27, rfl, rfl, ⟨.inl ⟨rfl, rfl⟩, trivial⟩, .run rfl (fun w HS => X.move rfl), rfl, rfl, rfl⟩, ⟨_, Value.pointer (some ⟨b0, 0, none⟩), [(27, Value.pointer (some ⟨b0, 0, none⟩))], 36, rfl, rfl, ⟨.inr ⟨rfl, rfl⟩, trivial⟩, .run rfl (fun w HS => X.nilCheck rfl), rfl, rfl, rfl⟩, ⟨_, Value.pointer (some ⟨b0, 0 + 1, none⟩), [(36, Value.pointer (some ⟨b0, 0, none⟩))], 37, rfl, rfl, ⟨.inr ⟨rfl, rfl⟩, trivial⟩, .run rfl (fun w HS => X.fieldAddr 1 fo47_1 rfl), rfl, rfl, rfl⟩, trivial⟩ rfl ⟨.inr ⟨rfl, rfl⟩, ⟨.inr ⟨rfl, rfl⟩, trivial⟩⟩ (Or.inl rfl) (by intro d hd; cases hd) [] [0, 9, 10] rfl rfl (fun w HS => ?_)
      have HS : Sep.St [tie (El.sl (El.int .u8)) (d1_2 ++ ([Value.slice ra11 (([] : List Int) ++ a1).length rc12])) (((a0).l) ++ ([([] : List Int) ++ a1] : List (List Int))), tie (El.sl (El.int .u8)) ([Value.slice ra11 (([] : List Int) ++ a1).length rc12]) (([([] : List Int) ++ a1] : List (List Int))), row 27 1 (.slice (some ⟨lb13, 0, none⟩) (([([] : List Int) ++ a1] : List (List Int))).length 1) (([([] : List Int) ++ a1] : List (List Int))).length ([Value.slice ra11 (([] : List Int) ++ a1).length rc12]), fsl 1 (.slice ra11 (([] : List Int) ++ a1).length rc12) (([] : List Int) ++ a1).length ((([] : List Int) ++ a1).map (Value.int .u8)), blk b0 (#[Value.int .i64 ((a0).room), Value.slice a1_2 ((a0).l).length c1_2, Value.bool ((a0).begun), Value.int .i64 ((a0).dropped)]) 47, row 27 1 (.slice ra17 (((a0).l) ++ ([([] : List Int) ++ a1] : List (List Int))).length rc18) (((a0).l) ++ ([([] : List Int) ++ a1] : List (List Int))).length (d1_2 ++ ([Value.slice ra11 (([] : List Int) ++ a1).length rc12])), R] w0 w := HS
      refine ⟨_, Y.storeAt 4 HS rfl inf22 rfl rfl rfl rfl rfl rfl, ?_⟩
      rintro _ w HS
      have HS : Sep.St [tie (El.sl (El.int .u8)) (d1_2 ++ ([Value.slice ra11 (([] : List Int) ++ a1).length rc12])) (((a0).l) ++ ([([] : List Int) ++ a1] : List (List Int))), tie (El.sl (El.int .u8)) ([Value.slice ra11 (([] : List Int) ++ a1).length rc12]) (([([] : List Int) ++ a1] : List (List Int))), row 27 1 (.slice (some ⟨lb13, 0, none⟩) (([([] : List Int) ++ a1] : List (List Int))).length 1) (([([] : List Int) ++ a1] : List (List Int))).length ([Value.slice ra11 (([] : List Int) ++ a1).length rc12]), fsl 1 (.slice ra11 (([] : List Int) ++ a1).length rc12) (([] : List Int) ++ a1).length ((([] : List Int) ++ a1).map (Value.int .u8)), blk b0 (#[Value.int .i64 ((a0).room), Value.slice ra17 (((a0).l) ++ ([([] : List Int) ++ a1] : List (List Int))).length rc18, Value.bool ((a0).begun), Value.int .i64 ((a0).dropped)]) 47, row 27 1 (.slice ra17 (((a0).l) ++ ([([] : List Int) ++ a1] : List (List Int))).length rc18) (((a0).l) ++ ([([] : List Int) ++ a1] : List (List Int))).length (d1_2 ++ ([Value.slice ra11 (([] : List Int) ++ a1).length rc12])), R] w0 w := HS
      refine ⟨[], fun w => Sep.St [tie (El.sl (El.int .u8)) (d1_2 ++ ([Value.slice ra11 (([] : List Int) ++ a1).length rc12])) (((a0).l) ++ ([([] : List Int) ++ a1] : List (List Int))), tie (El.sl (El.int .u8)) ([Value.slice ra11 (([] : List Int) ++ a1).length rc12]) (([([] : List Int) ++ a1] : List (List Int))), row 27 1 (.slice (some ⟨lb13, 0, none⟩) (([([] : List Int) ++ a1] : List (List Int))).length 1) (([([] : List Int) ++ a1] : List (List Int))).length ([Value.slice ra11 (([] : List Int) ++ a1).length rc12]), fsl 1 (.slice ra11 (([] : List Int) ++ a1).length rc12) (([] : List Int) ++ a1).length ((([] : List Int) ++ a1).map (Value.int .u8)), blk b0 (#[Value.int .i64 ((a0).room), Value.slice ra17 (((a0).l) ++ ([([] : List Int) ++ a1] : List (List Int))).length rc18, Value.bool ((a0).begun), Value.int .i64 ((a0).dropped)]) 47, row 27 1 (.slice ra17 (((a0).l) ++ ([([] : List Int) ++ a1] : List (List Int))).length rc18) (((a0).l) ++ ([([] : List Int) ++ a1] : List (List Int))).length (d1_2 ++ ([Value.slice ra11 (([] : List Int) ++ a1).length rc12])), R] w0 w, trivial, ?_, HS⟩
      refine T.fin [] rfl trivial trivial (fun w HS => ?_)
      have HS : Sep.St [tie (El.sl (El.int .u8)) (d1_2 ++ ([Value.slice ra11 (([] : List Int) ++ a1).length rc12])) (((a0).l) ++ ([([] : List Int) ++ a1] : List (List Int))), tie (El.sl (El.int .u8)) ([Value.slice ra11 (([] : List Int) ++ a1).length rc12]) (([([] : List Int) ++ a1] : List (List Int))), row 27 1 (.slice (some ⟨lb13, 0, none⟩) (([([] : List Int) ++ a1] : List (List Int))).length 1) (([([] : List Int) ++ a1] : List (List Int))).length ([Value.slice ra11 (([] : List Int) ++ a1).length rc12]), fsl 1 (.slice ra11 (([] : List Int) ++ a1).length rc12) (([] : List Int) ++ a1).length ((([] : List Int) ++ a1).map (Value.int .u8)), blk b0 (#[Value.int .i64 ((a0).room), Value.slice ra17 (((a0).l) ++ ([([] : List Int) ++ a1] : List (List Int))).length rc18, Value.bool ((a0).begun), Value.int .i64 ((a0).dropped)]) 47, row 27 1 (.slice ra17 (((a0).l) ++ ([([] : List Int) ++ a1] : List (List Int))).length rc18) (((a0).l) ++ ([([] : List Int) ++ a1] : List (List Int))).length (d1_2 ++ ([Value.slice ra11 (([] : List Int) ++ a1).length rc12])), R] w0 w := HS
      refine At.next ?_
      refine V.keep [] trivial ?_
      refine V.seq ?_
      refine V.region ?_
      refine W.rd (X.assign rfl) rfl rfl rfl ?_
      refine W.nil ?_
      refine At.next ?_
      refine V.keep [(4, Value.bool (true))] ⟨rfl, trivial⟩ ?_
      refine V.ret ?_
      replace HS := HS.re [4, 5, 0, 1, 2, 3, 6] (by kernel_rfl)
      have HS : Sep.St [blk b0 (#[Value.int .i64 ((a0).room), Value.slice ra17 (((a0).l) ++ ([([] : List Int) ++ a1] : List (List Int))).length rc18, Value.bool ((a0).begun), Value.int .i64 ((a0).dropped)]) 47, row 27 1 (.slice ra17 (((a0).l) ++ ([([] : List Int) ++ a1] : List (List Int))).length rc18) (((a0).l) ++ ([([] : List Int) ++ a1] : List (List Int))).length (d1_2 ++ ([Value.slice ra11 (([] : List Int) ++ a1).length rc12])), tie (El.sl (El.int .u8)) (d1_2 ++ ([Value.slice ra11 (([] : List Int) ++ a1).length rc12])) (((a0).l) ++ ([([] : List Int) ++ a1] : List (List Int))), tie (El.sl (El.int .u8)) ([Value.slice ra11 (([] : List Int) ++ a1).length rc12]) (([([] : List Int) ++ a1] : List (List Int))), row 27 1 (.slice (some ⟨lb13, 0, none⟩) (([([] : List Int) ++ a1] : List (List Int))).length 1) (([([] : List Int) ++ a1] : List (List Int))).length ([Value.slice ra11 (([] : List Int) ++ a1).length rc12]), fsl 1 (.slice ra11 (([] : List Int) ++ a1).length rc12) (([] : List Int) ++ a1).length ((([] : List Int) ++ a1).map (Value.int .u8)), R] w0 w := HS
      replace HS := signalmanref6_Ring.close (({ room := (a0).room, l := ((a0).l) ++ ([([] : List Int) ++ a1] : List (List Int)), begun := (a0).begun, dropped := (a0).dropped } : signalmanref6_Ring)) trivial HS
      have HS : Sep.St [signalmanref6_Ring.at b0 (({ room := (a0).room, l := ((a0).l) ++ ([([] : List Int) ++ a1] : List (List Int)), begun := (a0).begun, dropped := (a0).dropped } : signalmanref6_Ring)), tie (El.sl (El.int .u8)) ([Value.slice ra11 (([] : List Int) ++ a1).length rc12]) (([([] : List Int) ++ a1] : List (List Int))), row 27 1 (.slice (some ⟨lb13, 0, none⟩) (([([] : List Int) ++ a1] : List (List Int))).length 1) (([([] : List Int) ++ a1] : List (List Int))).length ([Value.slice ra11 (([] : List Int) ++ a1).length rc12]), fsl 1 (.slice ra11 (([] : List Int) ++ a1).length rc12) (([] : List Int) ++ a1).length ((([] : List Int) ++ a1).map (Value.int .u8)), R] w0 w := HS
      replace HS := HS.sel [0, 4] [1, 2, 3] (by kernel_rfl)
      cases H
      exact At.ret1 rfl rfl ⟨_, rfl, rfl, HS⟩
    · replace H := ite_f c9 H
      refine V.condF (sb (decide_eq_false c9)) ?_
      refine V.skip ?_
      refine At.next ?_
      refine V.keep [] trivial ?_
      refine V.seq ?_
      refine V.region ?_
      refine W.rd (X.assign rfl) rfl rfl rfl ?_
      refine W.nil ?_
      refine At.next ?_
      refine V.keep [(4, Value.bool (true))] ⟨rfl, trivial⟩ ?_
      refine V.ret ?_
      replace HS := signalmanref6_Ring.close (a0) trivial HS
      have HS : Sep.St [signalmanref6_Ring.at b0 (a0), R] w0 w := HS
      cases H
      exact At.ret1 rfl rfl ⟨_, rfl, rfl, HS⟩
end Go.Proofs.Ytdliomkoagfocaa

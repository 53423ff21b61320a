/- ReorderClears: the functions that its law reaches, as plain functions, and that the machine's calls come to what these say. Conditions: those that stand at each. -/
import Derived.Test.YtcjmffcpldjbpaaRunReorderClearsP1
set_option linter.all false
namespace Go.Proofs.Ytcjmffcpldjbpaa
open Go.RowKit Go.Proofs.Ytcjmffcpldjbpaa.Sep Go.Proofs.Ytcjmffcpldjbpaa.Walk
/-! ### signalman/signalmanlaw14.ReorderClears: function 6 -/
mutual
def signalmanlaw14_ReorderClears.l1 : Nat → Int → Int → Int → reorder_Order → Option (Bool)
  | 0, _, _, _, _ => none
  | k + 1, a0, a1, x9, x10 => (if x9 < a0 then ((reorder_Order_Put.f k x10 x9 ([IntKind.u8.wrap (x9)] : List Int)).bind fun t17 => (signalmanlaw14_ReorderClears.l1 k a0 a1 (w64 (x9 + 1)) t17.2)) else (signalmanlaw14_ReorderClears.l2 k a0 a1 0 x10))
def signalmanlaw14_ReorderClears.l2 : Nat → Int → Int → Int → reorder_Order → Option (Bool)
  | 0, _, _, _, _ => none
  | k + 1, a0, a1, x19, x20 => (if x19 < a1 then ((reorder_Order_Put.f k x20 ((w64 ((w64 (a0 + 2)) + x19)).tmod (128)) ([107] : List Int)).bind fun t27 => (signalmanlaw14_ReorderClears.l2 k a0 a1 (w64 (x19 + 1)) t27.2)) else ((reorder_Order_Gap.f x20).bind fun t31 => ((reorder_Order_Clear.f x20).bind fun t33 => (if ((t31) != (decide (a1 > 0))) = true then (signalmanlaw14_ReorderClears.j3 k a0 t33 true) else ((reorder_Order_Gap.f t33).bind fun t67 => (if t67 = true then (signalmanlaw14_ReorderClears.j3 k a0 t33 true) else ((reorder_Order_Next.f t33).bind fun t70 => (signalmanlaw14_ReorderClears.j3 k a0 t33 (!(decide (t70 = 0)))))))))))
def signalmanlaw14_ReorderClears.l4 : Nat → Int → (Int × reorder_Order) → Int → reorder_Order → Option (Bool)
  | 0, _, _, _, _ => none
  | k + 1, a0, t41, x44, x45 => (if x44 < a0 then ((reorder_Order_Take.f x45).bind fun t49 => (if t49.2.1 = true then (if sEq (t49.1) (([IntKind.u8.wrap (x44)] : List Int)) = true then (signalmanlaw14_ReorderClears.l4 k a0 t41 (w64 (x44 + 1)) t49.2.2) else some (false)) else some (false))) else ((reorder_Order_Take.f x45).bind fun t57 => ((reorder_Order_Take.f t57.2.2).bind fun t59 => (if t41.1 = 1 then (if t57.2.1 = true then (if sEq (t57.1) (([122] : List Int)) = true then some (!(t59.2.1)) else some (false)) else some (false)) else some (false)))))
def signalmanlaw14_ReorderClears.j3 (k : Nat) (a0 : Int) (t33 : reorder_Order) (x35 : Bool) : Option (Bool) := (if x35 = true then some (false) else ((reorder_Order_Put.f k t33 0 ([122] : List Int)).bind fun t41 => (signalmanlaw14_ReorderClears.l4 k a0 t41 0 t41.2)))
def signalmanlaw14_ReorderClears.j0 (k : Nat) (a0 : Int) (a1 : Int) (t1 : Bool) (x3 : Bool) : Option (Bool) := (if x3 = true then some (t1) else ((reorder_New.f 128 16).bind fun t6 => (signalmanlaw14_ReorderClears.l1 k a0 a1 0 t6)))
end
def signalmanlaw14_ReorderClears.f (k : Nat) (a0 : Int) (a1 : Int) : Option (Bool) := ((signalmanlaw14_alive.f k ).bind fun t1 => (if t1 = true then (if a0 < 0 then (signalmanlaw14_ReorderClears.j0 k a0 a1 t1 true) else (if a0 > 100 then (signalmanlaw14_ReorderClears.j0 k a0 a1 t1 true) else (if a1 < 0 then (signalmanlaw14_ReorderClears.j0 k a0 a1 t1 true) else (signalmanlaw14_ReorderClears.j0 k a0 a1 t1 (decide (a1 > 10)))))) else (signalmanlaw14_ReorderClears.j0 k a0 a1 t1 true)))
set_option maxRecDepth 100000 in
set_option maxHeartbeats 4000000 in
theorem signalmanlaw14_ReorderClears.calls (k : Nat) (a0 : Int) (a1 : Int) (R : As) (w0 w : World)  (r : Bool)  (H : signalmanlaw14_ReorderClears.f k a0 a1 = some r) (HS : Sep.St [R] w0 w) : Calls Try.prog 6 #[Value.int .i64 (a0), Value.int .i64 (a1)] w (Ret fun u w => u = Value.bool (r) ∧ Sep.St [R] w0 w) := by
  unfold signalmanlaw14_ReorderClears.f at H
  refine calls_enter Try.func6 rfl rfl ?_
  have H : _ = some r := H
  refine V.seq ?_
  refine V.region ?_
  refine W.rd (X.assign rfl) rfl rfl rfl ?_
  refine W.nil ?_
  refine At.next ?_
  refine V.keep [(0, Value.int .i64 (a0)), (1, Value.int .i64 (a1))] ⟨rfl, rfl, trivial⟩ ?_
  refine V.seq ?_
  refine V.region ?_
  obtain ⟨t1, A2, H⟩ := bind_s H
  refine W.ev (Y.call Try.func7 (by kernel_rfl) rfl (vs := []) rfl (signalmanlaw14_alive.calls k  _ w0 _  t1  A2 (Sep.St.tailJoin (m := []) (r := [R]) HS))) rfl rfl rfl ?_
  rintro _ w ⟨rfl, HS⟩
  replace HS := Sep.St.tailOpen (m := []) (r := [R]) HS
  have HS : Sep.St [R] w0 w := HS
  refine W.rd (X.assign rfl) rfl rfl rfl ?_
  refine W.nil ?_
  refine At.next ?_
  refine V.keep [(0, Value.int .i64 (a0)), (1, Value.int .i64 (a1)), (5, Value.bool (t1))] ⟨rfl, rfl, rfl, trivial⟩ ?_
  refine V.seq ?_
  refine V.meet (σ := Bool) (fun st w => match st with | x3 => Sep.St [R] w0 w ∧ ∃ kf4, kf4 ≤ k ∧ signalmanlaw14_ReorderClears.j0 kf4 a0 a1 t1 x3 = some r) (fun st => match st with | x3 => [(0, Value.int .i64 (a0)), (1, Value.int .i64 (a1)), (5, Value.bool (t1)), (36, Value.bool (x3))]) ?_ ?_
  · refine V.region ?_
    refine W.rd (X.move rfl) rfl rfl rfl ?_
    refine W.rd (X.not rfl) rfl rfl rfl ?_
    refine W.rd (X.move rfl) rfl rfl rfl ?_
    by_cases c72 : t1 = true
    · replace H := ite_t c72 H
      refine W.want 21 rfl (sb (n_t c72)) ?_
      refine W.rd (X.move rfl) rfl rfl rfl ?_
      refine W.want 21 rfl (sb (n_t c72)) ?_
      refine W.rd (X.cmp (decide (a0 < 0)) rfl rfl rfl rfl) rfl rfl rfl ?_
      refine W.rd (X.pickF (sb (n_t c72)) rfl) rfl rfl rfl ?_
      refine W.rd (X.move rfl) rfl rfl rfl ?_
      by_cases c73 : a0 < 0
      · replace H := ite_t c73 H
        refine W.pass 25 rfl (sb (decide_eq_true c73)) rfl rfl ?_
        refine W.pass 25 rfl (sb (decide_eq_true c73)) rfl rfl ?_
        refine W.rd (X.pickT (sb (decide_eq_true c73)) rfl) rfl rfl rfl ?_
        refine W.rd (X.move rfl) rfl rfl rfl ?_
        refine W.pass 29 rfl rfl rfl rfl ?_
        refine W.pass 29 rfl rfl rfl rfl ?_
        refine W.rd (X.pickT rfl rfl) rfl rfl rfl ?_
        refine W.rd (X.move rfl) rfl rfl rfl ?_
        refine W.pass 33 rfl rfl rfl rfl ?_
        refine W.pass 33 rfl rfl rfl rfl ?_
        refine W.rd (X.pickT rfl rfl) rfl rfl rfl ?_
        refine W.nil ?_
        exact At.meet (true) ⟨rfl, rfl, rfl, rfl, trivial⟩ ⟨HS, k, by omega, H⟩
      · replace H := ite_f c73 H
        refine W.want 25 rfl (sb (decide_eq_false c73)) ?_
        refine W.rd (X.move rfl) rfl rfl rfl ?_
        refine W.want 25 rfl (sb (decide_eq_false c73)) ?_
        refine W.rd (X.cmp (decide (a0 > 100)) rfl rfl rfl rfl) rfl rfl rfl ?_
        refine W.rd (X.pickF (sb (decide_eq_false c73)) rfl) rfl rfl rfl ?_
        refine W.rd (X.move rfl) rfl rfl rfl ?_
        by_cases c74 : a0 > 100
        · replace H := ite_t c74 H
          refine W.pass 29 rfl (sb (decide_eq_true c74)) rfl rfl ?_
          refine W.pass 29 rfl (sb (decide_eq_true c74)) rfl rfl ?_
          refine W.rd (X.pickT (sb (decide_eq_true c74)) rfl) rfl rfl rfl ?_
          refine W.rd (X.move rfl) rfl rfl rfl ?_
          refine W.pass 33 rfl rfl rfl rfl ?_
          refine W.pass 33 rfl rfl rfl rfl ?_
          refine W.rd (X.pickT rfl rfl) rfl rfl rfl ?_
          refine W.nil ?_
          exact At.meet (true) ⟨rfl, rfl, rfl, rfl, trivial⟩ ⟨HS, k, by omega, H⟩
        · replace H := ite_f c74 H
          refine W.want 29 rfl (sb (decide_eq_false c74)) ?_
          refine W.rd (X.move rfl) rfl rfl rfl ?_
          refine W.want 29 rfl (sb (decide_eq_false c74)) ?_
          refine W.rd (X.cmp (decide (a1 < 0)) rfl rfl rfl rfl) rfl rfl rfl ?_
          refine W.rd (X.pickF (sb (decide_eq_false c74)) rfl) rfl rfl rfl ?_
          refine W.rd (X.move rfl) rfl rfl rfl ?_
          by_cases c75 : a1 < 0
          · replace H := ite_t c75 H
            refine W.pass 33 rfl (sb (decide_eq_true c75)) rfl rfl ?_
            refine W.pass 33 rfl (sb (decide_eq_true c75)) rfl rfl ?_
            refine W.rd (X.pickT (sb (decide_eq_true c75)) rfl) rfl rfl rfl ?_
            refine W.nil ?_
            exact At.meet (true) ⟨rfl, rfl, rfl, rfl, trivial⟩ ⟨HS, k, by omega, H⟩
          · replace H := ite_f c75 H
            refine W.want 33 rfl (sb (decide_eq_false c75)) ?_
            refine W.rd (X.move rfl) rfl rfl rfl ?_
            refine W.want 33 rfl (sb (decide_eq_false c75)) ?_
            refine W.rd (X.cmp (decide (a1 > 10)) rfl rfl rfl rfl) rfl rfl rfl ?_
            refine W.rd (X.pickF (sb (decide_eq_false c75)) rfl) rfl rfl rfl ?_
            refine W.nil ?_
            exact At.meet (decide (a1 > 10)) ⟨rfl, rfl, rfl, rfl, trivial⟩ ⟨HS, k, by omega, H⟩
    · replace H := ite_f c72 H
      refine W.pass 21 rfl (sb (n_f (b_f c72))) rfl rfl ?_
      refine W.pass 21 rfl (sb (n_f (b_f c72))) rfl rfl ?_
      refine W.rd (X.pickT (sb (n_f (b_f c72))) rfl) rfl rfl rfl ?_
      refine W.rd (X.move rfl) rfl rfl rfl ?_
      refine W.pass 25 rfl rfl rfl rfl ?_
      refine W.pass 25 rfl rfl rfl rfl ?_
      refine W.rd (X.pickT rfl rfl) rfl rfl rfl ?_
      refine W.rd (X.move rfl) rfl rfl rfl ?_
      refine W.pass 29 rfl rfl rfl rfl ?_
      refine W.pass 29 rfl rfl rfl rfl ?_
      refine W.rd (X.pickT rfl rfl) rfl rfl rfl ?_
      refine W.rd (X.move rfl) rfl rfl rfl ?_
      refine W.pass 33 rfl rfl rfl rfl ?_
      refine W.pass 33 rfl rfl rfl rfl ?_
      refine W.rd (X.pickT rfl rfl) rfl rfl rfl ?_
      refine W.nil ?_
      exact At.meet (true) ⟨rfl, rfl, rfl, rfl, trivial⟩ ⟨HS, k, by omega, H⟩
  · rintro x3 w ⟨HS, kf4, hkkf4, H⟩
    unfold signalmanlaw14_ReorderClears.j0 at H
    have HS : Sep.St [R] w0 w := HS
    by_cases c5 : x3 = true
    · replace H := ite_t c5 H
      refine V.condT (sb c5) ?_
      refine V.seq ?_
      refine V.region ?_
      refine W.rd (X.move rfl) rfl rfl rfl ?_
      refine W.rd (X.assign rfl) rfl rfl rfl ?_
      refine W.nil ?_
      refine At.next ?_
      refine V.keep [(4, Value.bool (t1))] ⟨rfl, trivial⟩ ?_
      refine V.ret ?_
      refine At.thenRet ?_
      cases H
      exact At.ret1 rfl rfl ⟨_, rfl, rfl, HS⟩
    · replace H := ite_f c5 H
      refine V.condF (sb (b_f c5)) ?_
      refine V.skip ?_
      refine At.next ?_
      refine V.keep [(0, Value.int .i64 (a0)), (1, Value.int .i64 (a1))] ⟨rfl, rfl, trivial⟩ ?_
      refine V.seq ?_
      refine V.region ?_
      obtain ⟨t6, A7, H⟩ := bind_s H
      refine W.ev (Y.call Try.func8 (by kernel_rfl) rfl (vs := [Value.int .i64 (128), Value.int .i64 (16)]) rfl (reorder_New.calls 128 16 _ w0 _  t6  A7 (Sep.St.tailJoin (m := []) (r := [R]) HS))) rfl rfl rfl ?_
      rintro _ w ⟨bt6_0, rfl, HS⟩
      replace HS := Sep.St.tailOpen (m := [reorder_Order.at bt6_0 (t6)]) (r := [R]) HS
      have HS : Sep.St [reorder_Order.at bt6_0 (t6), R] w0 w := HS
      refine W.rd (X.assign rfl) rfl rfl rfl ?_
      refine W.nil ?_
      refine At.next ?_
      refine V.keep [(0, Value.int .i64 (a0)), (1, Value.int .i64 (a1)), (6, Value.pointer (some ⟨bt6_0, 0, none⟩))] ⟨rfl, rfl, rfl, trivial⟩ ?_
      refine V.seq ?_
      refine V.seq ?_
      refine V.region ?_
      refine W.rd (X.assign rfl) rfl rfl rfl ?_
      refine W.nil ?_
      refine At.next ?_
      refine V.keep [(0, Value.int .i64 (a0)), (1, Value.int .i64 (a1)), (6, Value.pointer (some ⟨bt6_0, 0, none⟩)), (7, Value.int .i64 (0))] ⟨rfl, rfl, rfl, rfl, trivial⟩ ?_
      refine V.block ?_
      refine V.loop (σ := Int × reorder_Order) (fun kq (st : Int × reorder_Order) w => match st with | (x9, x10) => Sep.St [reorder_Order.at bt6_0 (x10), R] w0 w ∧ signalmanlaw14_ReorderClears.l1 kq a0 a1 x9 x10 = some r ∧ kq ≤ kf4) (fun st => match st with | (x9, x10) => [(0, Value.int .i64 (a0)), (1, Value.int .i64 (a1)), (6, Value.pointer (some ⟨bt6_0, 0, none⟩)), (7, Value.int .i64 (x9))]) kf4 (0, t6) ⟨rfl, rfl, rfl, rfl, trivial⟩ ⟨HS, H, Nat.le_refl _⟩ ?_
      rintro kq11 ⟨x9, x10⟩ w ⟨HS, H, hk12⟩
      cases kq11 with
      | zero => exact absurd H (by simp [signalmanlaw14_ReorderClears.l1])
      | succ kq11 =>
        simp only [signalmanlaw14_ReorderClears.l1] at H
        have HS : Sep.St [reorder_Order.at bt6_0 (x10), R] w0 w := HS
        refine V.seq ?_
        refine V.seq ?_
        refine V.region ?_
        refine W.rd (X.move rfl) rfl rfl rfl ?_
        refine W.rd (X.move rfl) rfl rfl rfl ?_
        refine W.rd (X.cmp (decide (x9 < a0)) rfl rfl rfl rfl) rfl rfl rfl ?_
        refine W.nil ?_
        refine At.next ?_
        refine V.keep [(0, Value.int .i64 (a0)), (1, Value.int .i64 (a1)), (6, Value.pointer (some ⟨bt6_0, 0, none⟩)), (7, Value.int .i64 (x9)), (41, Value.bool (decide (x9 < a0)))] ⟨rfl, rfl, rfl, rfl, rfl, trivial⟩ ?_
        by_cases c13 : x9 < a0
        · replace H := ite_t c13 H
          refine V.condT (sb (decide_eq_true c13)) ?_
          refine V.skip ?_
          refine At.next ?_
          refine V.keep [(0, Value.int .i64 (a0)), (1, Value.int .i64 (a1)), (6, Value.pointer (some ⟨bt6_0, 0, none⟩)), (7, Value.int .i64 (x9))] ⟨rfl, rfl, rfl, rfl, trivial⟩ ?_
          refine V.seq ?_
          refine V.block ?_
          refine V.region ?_
          refine W.rd (X.move rfl) rfl rfl rfl ?_
          refine W.rd (X.move rfl) rfl rfl rfl ?_
          refine W.rd (X.move rfl) rfl rfl rfl ?_
          refine W.rd (X.conv Try.underlying3 Try.underlying5 rfl) rfl rfl rfl ?_
          refine W.ev (Y.litB (e := 5) (sz := 1) (vs := #[(0, Value.int .u8 (IntKind.u8.wrap (x9)))]) [Value.int .u8 (IntKind.u8.wrap (x9))] HS (fun a ha => by simp only [List.map_toArray, List.map_cons, List.map_nil]; rw [ha.ev (x := .tmp 47) (v := Value.int .u8 (IntKind.u8.wrap (x9))) rfl]; try rfl) rfl (by decide) (fun _ => by kernel_rfl)) rfl rfl rfl ?_
          rintro _ w ⟨lb16, rfl, HS⟩
          have HS : Sep.St [row 5 1 (.slice (some ⟨lb16, 0, none⟩) (([IntKind.u8.wrap (x9)] : List Int)).length 1) (([IntKind.u8.wrap (x9)] : List Int)).length ((([IntKind.u8.wrap (x9)] : List Int)).map (Value.int .u8)), reorder_Order.at bt6_0 (x10), R] w0 w := HS
          obtain ⟨t17, A18, H⟩ := bind_s H
          replace HS := HS.re [1, 0, 2] (by kernel_rfl)
          have HS : Sep.St [reorder_Order.at bt6_0 (x10), row 5 1 (.slice (some ⟨lb16, 0, none⟩) (([IntKind.u8.wrap (x9)] : List Int)).length 1) (([IntKind.u8.wrap (x9)] : List Int)).length ((([IntKind.u8.wrap (x9)] : List Int)).map (Value.int .u8)), R] w0 w := HS
          refine W.ev (Y.call Try.func9 (by kernel_rfl) rfl (vs := [Value.pointer (some ⟨bt6_0, 0, none⟩), Value.int .i64 (x9), Value.slice (some ⟨lb16, 0, none⟩) (([IntKind.u8.wrap (x9)] : List Int)).length 1]) rfl (reorder_Order_Put.calls kq11 x10 x9 ([IntKind.u8.wrap (x9)] : List Int) _ w0 _ bt6_0 (some ⟨lb16, 0, none⟩) 1 t17 (rdC.part 0 row_rd rfl) A18 (Sep.St.tailJoin (m := [reorder_Order.at bt6_0 (x10)]) (r := [row 5 1 (.slice (some ⟨lb16, 0, none⟩) (([IntKind.u8.wrap (x9)] : List Int)).length 1) (([IntKind.u8.wrap (x9)] : List Int)).length ((([IntKind.u8.wrap (x9)] : List Int)).map (Value.int .u8)), R]) HS))) rfl rfl rfl ?_
          rintro _ w ⟨rfl, HS⟩
          replace HS := Sep.St.tailOpen (m := [reorder_Order.at bt6_0 (t17.2)]) (r := [row 5 1 (.slice (some ⟨lb16, 0, none⟩) (([IntKind.u8.wrap (x9)] : List Int)).length 1) (([IntKind.u8.wrap (x9)] : List Int)).length ((([IntKind.u8.wrap (x9)] : List Int)).map (Value.int .u8)), R]) HS
          have HS : Sep.St [reorder_Order.at bt6_0 (t17.2), row 5 1 (.slice (some ⟨lb16, 0, none⟩) (([IntKind.u8.wrap (x9)] : List Int)).length 1) (([IntKind.u8.wrap (x9)] : List Int)).length ((([IntKind.u8.wrap (x9)] : List Int)).map (Value.int .u8)), R] w0 w := HS
          refine W.nil ?_
          refine At.blockEnd ?_
          refine At.next ?_
          refine V.keep [(0, Value.int .i64 (a0)), (1, Value.int .i64 (a1)), (6, Value.pointer (some ⟨bt6_0, 0, none⟩)), (7, Value.int .i64 (x9))] ⟨rfl, rfl, rfl, rfl, trivial⟩ ?_
          refine V.region ?_
          refine W.rd (X.move rfl) rfl rfl rfl ?_
          refine W.rd (X.add rfl rfl) rfl rfl rfl ?_
          refine W.rd (X.assign rfl) rfl rfl rfl ?_
          refine W.nil ?_
          replace HS := HS.sel [0, 2] [1] (by kernel_rfl)
          exact At.round kq11 (by omega) (w64 (x9 + 1), t17.2) ⟨rfl, rfl, rfl, rfl, trivial⟩ ⟨HS, H, by omega⟩
        · replace H := ite_f c13 H
          refine V.condF (sb (decide_eq_false c13)) ?_
          refine V.exit ?_
          refine At.thenExit ?_
          refine At.thenExit ?_
          refine At.blockExit ?_
          refine At.next ?_
          refine V.keep [(0, Value.int .i64 (a0)), (1, Value.int .i64 (a1)), (6, Value.pointer (some ⟨bt6_0, 0, none⟩))] ⟨rfl, rfl, rfl, trivial⟩ ?_
          refine V.seq ?_
          refine V.seq ?_
          refine V.region ?_
          refine W.rd (X.assign rfl) rfl rfl rfl ?_
          refine W.nil ?_
          refine At.next ?_
          refine V.keep [(0, Value.int .i64 (a0)), (1, Value.int .i64 (a1)), (6, Value.pointer (some ⟨bt6_0, 0, none⟩)), (8, Value.int .i64 (0))] ⟨rfl, rfl, rfl, rfl, trivial⟩ ?_
          refine V.block ?_
          refine V.loop (σ := Int × reorder_Order) (fun kq (st : Int × reorder_Order) w => match st with | (x19, x20) => Sep.St [reorder_Order.at bt6_0 (x20), R] w0 w ∧ signalmanlaw14_ReorderClears.l2 kq a0 a1 x19 x20 = some r ∧ kq ≤ kq11) (fun st => match st with | (x19, x20) => [(0, Value.int .i64 (a0)), (1, Value.int .i64 (a1)), (6, Value.pointer (some ⟨bt6_0, 0, none⟩)), (8, Value.int .i64 (x19))]) kq11 (0, x10) ⟨rfl, rfl, rfl, rfl, trivial⟩ ⟨HS, H, Nat.le_refl _⟩ ?_
          rintro kq21 ⟨x19, x20⟩ w ⟨HS, H, hk22⟩
          cases kq21 with
          | zero => exact absurd H (by simp [signalmanlaw14_ReorderClears.l2])
          | succ kq21 =>
            simp only [signalmanlaw14_ReorderClears.l2] at H
            have HS : Sep.St [reorder_Order.at bt6_0 (x20), R] w0 w := HS
            refine V.seq ?_
            refine V.seq ?_
            refine V.region ?_
            refine W.rd (X.move rfl) rfl rfl rfl ?_
            refine W.rd (X.move rfl) rfl rfl rfl ?_
            refine W.rd (X.cmp (decide (x19 < a1)) rfl rfl rfl rfl) rfl rfl rfl ?_
            refine W.nil ?_
            refine At.next ?_
            refine V.keep [(0, Value.int .i64 (a0)), (1, Value.int .i64 (a1)), (6, Value.pointer (some ⟨bt6_0, 0, none⟩)), (8, Value.int .i64 (x19)), (52, Value.bool (decide (x19 < a1)))] ⟨rfl, rfl, rfl, rfl, rfl, trivial⟩ ?_
            by_cases c23 : x19 < a1
            · replace H := ite_t c23 H
              refine V.condT (sb (decide_eq_true c23)) ?_
              refine V.skip ?_
              refine At.next ?_
              refine V.keep [(0, Value.int .i64 (a0)), (1, Value.int .i64 (a1)), (6, Value.pointer (some ⟨bt6_0, 0, none⟩)), (8, Value.int .i64 (x19))] ⟨rfl, rfl, rfl, rfl, trivial⟩ ?_
              refine V.seq ?_
              refine V.block ?_
              refine V.region ?_
              refine W.rd (X.move rfl) rfl rfl rfl ?_
              refine W.rd (X.move rfl) rfl rfl rfl ?_
              refine W.rd (X.add rfl rfl) rfl rfl rfl ?_
              refine W.rd (X.move rfl) rfl rfl rfl ?_
              refine W.rd (X.add rfl rfl) rfl rfl rfl ?_
              refine W.rd (X.rem rfl rfl (by decide)) rfl rfl rfl ?_
              refine W.ev (Y.litB (e := 5) (sz := 1) (vs := #[(0, Value.int .u8 (107))]) [Value.int .u8 (107)] HS (fun a ha => by simp only [List.map_toArray, List.map_cons, List.map_nil]; try rfl) rfl (by decide) (fun _ => by kernel_rfl)) rfl rfl rfl ?_
              rintro _ w ⟨lb26, rfl, HS⟩
              have HS : Sep.St [row 5 1 (.slice (some ⟨lb26, 0, none⟩) (([107] : List Int)).length 1) (([107] : List Int)).length ((([107] : List Int)).map (Value.int .u8)), reorder_Order.at bt6_0 (x20), R] w0 w := HS
              refine W.ev (Y.markS 0 HS rfl (by decide) Try.underlying26 Try.underlying5 rfl) rfl rfl rfl ?_
              rintro _ w ⟨rfl, HS⟩
              have HS : Sep.St [fsl 1 (.slice (some ⟨lb26, 0, none⟩) (([107] : List Int)).length 1) (([107] : List Int)).length ((([107] : List Int)).map (Value.int .u8)), reorder_Order.at bt6_0 (x20), R] w0 w := HS
              obtain ⟨t27, A28, H⟩ := bind_s H
              replace HS := HS.re [1, 0, 2] (by kernel_rfl)
              have HS : Sep.St [reorder_Order.at bt6_0 (x20), fsl 1 (.slice (some ⟨lb26, 0, none⟩) (([107] : List Int)).length 1) (([107] : List Int)).length ((([107] : List Int)).map (Value.int .u8)), R] w0 w := HS
              refine W.ev (Y.call Try.func9 (by kernel_rfl) rfl (vs := [Value.pointer (some ⟨bt6_0, 0, none⟩), Value.int .i64 ((w64 ((w64 (a0 + 2)) + x19)).tmod (128)), Value.slice (some ⟨lb26, 0, none⟩) (([107] : List Int)).length 1]) rfl (reorder_Order_Put.calls kq21 x20 ((w64 ((w64 (a0 + 2)) + x19)).tmod (128)) ([107] : List Int) _ w0 _ bt6_0 (some ⟨lb26, 0, none⟩) 1 t27 (rdC.part 0 fsl.rd rfl) A28 (Sep.St.tailJoin (m := [reorder_Order.at bt6_0 (x20)]) (r := [fsl 1 (.slice (some ⟨lb26, 0, none⟩) (([107] : List Int)).length 1) (([107] : List Int)).length ((([107] : List Int)).map (Value.int .u8)), R]) HS))) rfl rfl rfl ?_
              rintro _ w ⟨rfl, HS⟩
              replace HS := Sep.St.tailOpen (m := [reorder_Order.at bt6_0 (t27.2)]) (r := [fsl 1 (.slice (some ⟨lb26, 0, none⟩) (([107] : List Int)).length 1) (([107] : List Int)).length ((([107] : List Int)).map (Value.int .u8)), R]) HS
              have HS : Sep.St [reorder_Order.at bt6_0 (t27.2), fsl 1 (.slice (some ⟨lb26, 0, none⟩) (([107] : List Int)).length 1) (([107] : List Int)).length ((([107] : List Int)).map (Value.int .u8)), R] w0 w := HS
              refine W.nil ?_
              refine At.blockEnd ?_
              refine At.next ?_
              refine V.keep [(0, Value.int .i64 (a0)), (1, Value.int .i64 (a1)), (6, Value.pointer (some ⟨bt6_0, 0, none⟩)), (8, Value.int .i64 (x19))] ⟨rfl, rfl, rfl, rfl, trivial⟩ ?_
              refine V.region ?_
              refine W.rd (X.move rfl) rfl rfl rfl ?_
              refine W.rd (X.add rfl rfl) rfl rfl rfl ?_
              refine W.rd (X.assign rfl) rfl rfl rfl ?_
              refine W.nil ?_
              replace HS := HS.sel [0, 2] [1] (by kernel_rfl)
              exact At.round kq21 (by omega) (w64 (x19 + 1), t27.2) ⟨rfl, rfl, rfl, rfl, trivial⟩ ⟨HS, H, by omega⟩
            · replace H := ite_f c23 H
              refine V.condF (sb (decide_eq_false c23)) ?_
              refine V.exit ?_
              refine At.thenExit ?_
              refine At.thenExit ?_
              refine At.blockExit ?_
              refine At.next ?_
              refine V.keep [(0, Value.int .i64 (a0)), (1, Value.int .i64 (a1)), (6, Value.pointer (some ⟨bt6_0, 0, none⟩))] ⟨rfl, rfl, rfl, trivial⟩ ?_
              refine V.seq ?_
              refine V.region ?_
              refine W.rd (X.move rfl) rfl rfl rfl ?_
              obtain ⟨b3_29, k3_29, a4_29, c4_29, d4_29, hi30, HS⟩ := reorder_Order.open HS
              have HS : Sep.St [blk bt6_0 (#[Value.int .i64 ((x20).m), Value.int .i64 ((x20).window), Value.int .i64 ((x20).next), Value.map (some b3_29), Value.slice a4_29 ((x20).ready).length c4_29]) 47, mblk b3_29 k3_29, tieM (El.sl (El.int .u8)) k3_29 ((x20).kept), row 26 1 (.slice a4_29 ((x20).ready).length c4_29) ((x20).ready).length d4_29, tie (El.sl (El.int .u8)) d4_29 ((x20).ready), R] w0 w := HS
              obtain ⟨t31, A32, H⟩ := bind_s H
              refine W.ev (Y.call Try.func10 (by kernel_rfl) rfl (vs := [Value.pointer (some ⟨bt6_0, 0, none⟩)]) rfl (reorder_Order_Gap.calls x20 _ w0 _ bt6_0 b3_29 k3_29 a4_29 c4_29 d4_29 t31  A32 (Sep.St.tailJoin (m := [blk bt6_0 (#[Value.int .i64 ((x20).m), Value.int .i64 ((x20).window), Value.int .i64 ((x20).next), Value.map (some b3_29), Value.slice a4_29 ((x20).ready).length c4_29]) 47, mblk b3_29 k3_29, tieM (El.sl (El.int .u8)) k3_29 ((x20).kept), row 26 1 (.slice a4_29 ((x20).ready).length c4_29) ((x20).ready).length d4_29, tie (El.sl (El.int .u8)) d4_29 ((x20).ready)]) (r := [R]) HS))) rfl rfl rfl ?_
              rintro _ w ⟨rfl, HS⟩
              replace HS := Sep.St.tailOpen (m := [blk bt6_0 (#[Value.int .i64 ((x20).m), Value.int .i64 ((x20).window), Value.int .i64 ((x20).next), Value.map (some b3_29), Value.slice a4_29 ((x20).ready).length c4_29]) 47, mblk b3_29 k3_29, tieM (El.sl (El.int .u8)) k3_29 ((x20).kept), row 26 1 (.slice a4_29 ((x20).ready).length c4_29) ((x20).ready).length d4_29, tie (El.sl (El.int .u8)) d4_29 ((x20).ready)]) (r := [R]) HS
              have HS : Sep.St [blk bt6_0 (#[Value.int .i64 ((x20).m), Value.int .i64 ((x20).window), Value.int .i64 ((x20).next), Value.map (some b3_29), Value.slice a4_29 ((x20).ready).length c4_29]) 47, mblk b3_29 k3_29, tieM (El.sl (El.int .u8)) k3_29 ((x20).kept), row 26 1 (.slice a4_29 ((x20).ready).length c4_29) ((x20).ready).length d4_29, tie (El.sl (El.int .u8)) d4_29 ((x20).ready), R] w0 w := HS
              refine W.rd (X.assign rfl) rfl rfl rfl ?_
              refine W.nil ?_
              refine At.next ?_
              refine V.keep [(0, Value.int .i64 (a0)), (1, Value.int .i64 (a1)), (6, Value.pointer (some ⟨bt6_0, 0, none⟩)), (9, Value.bool (t31))] ⟨rfl, rfl, rfl, rfl, trivial⟩ ?_
              refine V.seq ?_
              refine V.region ?_
              refine W.rd (X.move rfl) rfl rfl rfl ?_
              replace HS := reorder_Order.close (x20) trivial HS
              have HS : Sep.St [reorder_Order.at bt6_0 (x20), R] w0 w := HS
              obtain ⟨t33, A34, H⟩ := bind_s H
              refine W.ev (Y.call Try.func16 (by kernel_rfl) rfl (vs := [Value.pointer (some ⟨bt6_0, 0, none⟩)]) rfl (reorder_Order_Clear.calls x20 _ w0 _ bt6_0 t33  A34 (Sep.St.tailJoin (m := [reorder_Order.at bt6_0 (x20)]) (r := [R]) HS))) rfl rfl rfl ?_
              rintro _ w ⟨rfl, HS⟩
              replace HS := Sep.St.tailOpen (m := [reorder_Order.at bt6_0 (t33)]) (r := [R]) HS
              have HS : Sep.St [reorder_Order.at bt6_0 (t33), R] w0 w := HS
              refine W.nil ?_
              refine At.next ?_
              refine V.keep [(0, Value.int .i64 (a0)), (1, Value.int .i64 (a1)), (6, Value.pointer (some ⟨bt6_0, 0, none⟩)), (9, Value.bool (t31))] ⟨rfl, rfl, rfl, rfl, trivial⟩ ?_
              refine V.seq ?_
              refine V.meet (σ := Bool) (fun st w => match st with | x35 => Sep.St [reorder_Order.at bt6_0 (t33), R] w0 w ∧ ∃ kf36, kf36 ≤ kq21 ∧ signalmanlaw14_ReorderClears.j3 kf36 a0 t33 x35 = some r) (fun st => match st with | x35 => [(0, Value.int .i64 (a0)), (6, Value.pointer (some ⟨bt6_0, 0, none⟩)), (80, Value.bool (x35))]) ?_ ?_
              · refine V.region ?_
                refine W.rd (X.move rfl) rfl rfl rfl ?_
                refine W.rd (X.move rfl) rfl rfl rfl ?_
                refine W.rd (X.cmp (decide (a1 > 0)) rfl rfl rfl rfl) rfl rfl rfl ?_
                refine W.rd (X.neB Try.underlying4 rfl rfl) rfl rfl rfl ?_
                refine W.rd (X.move rfl) rfl rfl rfl ?_
                by_cases c64 : ((t31) != (decide (a1 > 0))) = true
                · replace H := ite_t c64 H
                  refine W.pass 72 rfl (sb c64) rfl rfl ?_
                  refine W.pass 72 rfl (sb c64) rfl rfl ?_
                  refine W.rd (X.pickT (sb c64) rfl) rfl rfl rfl ?_
                  refine W.rd (X.move rfl) rfl rfl rfl ?_
                  refine W.pass 76 rfl rfl rfl rfl ?_
                  refine W.pass 76 rfl rfl rfl rfl ?_
                  refine W.pass 76 rfl rfl rfl rfl ?_
                  refine W.rd (X.pickT rfl rfl) rfl rfl rfl ?_
                  refine W.nil ?_
                  exact At.meet (true) ⟨rfl, rfl, rfl, trivial⟩ ⟨HS, kq21, by omega, H⟩
                · replace H := ite_f c64 H
                  refine W.want 72 rfl (sb (b_f c64)) ?_
                  refine W.rd (X.move rfl) rfl rfl rfl ?_
                  refine W.want 72 rfl (sb (b_f c64)) ?_
                  obtain ⟨b3_65, k3_65, a4_65, c4_65, d4_65, hi66, HS⟩ := reorder_Order.open HS
                  have HS : Sep.St [blk bt6_0 (#[Value.int .i64 ((t33).m), Value.int .i64 ((t33).window), Value.int .i64 ((t33).next), Value.map (some b3_65), Value.slice a4_65 ((t33).ready).length c4_65]) 47, mblk b3_65 k3_65, tieM (El.sl (El.int .u8)) k3_65 ((t33).kept), row 26 1 (.slice a4_65 ((t33).ready).length c4_65) ((t33).ready).length d4_65, tie (El.sl (El.int .u8)) d4_65 ((t33).ready), R] w0 w := HS
                  obtain ⟨t67, A68, H⟩ := bind_s H
                  refine W.ev (Y.call Try.func10 (by kernel_rfl) rfl (vs := [Value.pointer (some ⟨bt6_0, 0, none⟩)]) rfl (reorder_Order_Gap.calls t33 _ w0 _ bt6_0 b3_65 k3_65 a4_65 c4_65 d4_65 t67  A68 (Sep.St.tailJoin (m := [blk bt6_0 (#[Value.int .i64 ((t33).m), Value.int .i64 ((t33).window), Value.int .i64 ((t33).next), Value.map (some b3_65), Value.slice a4_65 ((t33).ready).length c4_65]) 47, mblk b3_65 k3_65, tieM (El.sl (El.int .u8)) k3_65 ((t33).kept), row 26 1 (.slice a4_65 ((t33).ready).length c4_65) ((t33).ready).length d4_65, tie (El.sl (El.int .u8)) d4_65 ((t33).ready)]) (r := [R]) HS))) rfl rfl rfl ?_
                  rintro _ w ⟨rfl, HS⟩
                  replace HS := Sep.St.tailOpen (m := [blk bt6_0 (#[Value.int .i64 ((t33).m), Value.int .i64 ((t33).window), Value.int .i64 ((t33).next), Value.map (some b3_65), Value.slice a4_65 ((t33).ready).length c4_65]) 47, mblk b3_65 k3_65, tieM (El.sl (El.int .u8)) k3_65 ((t33).kept), row 26 1 (.slice a4_65 ((t33).ready).length c4_65) ((t33).ready).length d4_65, tie (El.sl (El.int .u8)) d4_65 ((t33).ready)]) (r := [R]) HS
                  have HS : Sep.St [blk bt6_0 (#[Value.int .i64 ((t33).m), Value.int .i64 ((t33).window), Value.int .i64 ((t33).next), Value.map (some b3_65), Value.slice a4_65 ((t33).ready).length c4_65]) 47, mblk b3_65 k3_65, tieM (El.sl (El.int .u8)) k3_65 ((t33).kept), row 26 1 (.slice a4_65 ((t33).ready).length c4_65) ((t33).ready).length d4_65, tie (El.sl (El.int .u8)) d4_65 ((t33).ready), R] w0 w := HS
                  refine W.rd (X.pickF (sb (b_f c64)) rfl) rfl rfl rfl ?_
                  refine W.rd (X.move rfl) rfl rfl rfl ?_
                  by_cases c69 : t67 = true
                  · replace H := ite_t c69 H
                    refine W.pass 76 rfl (sb c69) rfl rfl ?_
                    refine W.pass 76 rfl (sb c69) rfl rfl ?_
                    refine W.pass 76 rfl (sb c69) rfl rfl ?_
                    refine W.rd (X.pickT (sb c69) rfl) rfl rfl rfl ?_
                    refine W.nil ?_
                    replace HS := reorder_Order.close (t33) trivial HS
                    have HS : Sep.St [reorder_Order.at bt6_0 (t33), R] w0 w := HS
                    exact At.meet (true) ⟨rfl, rfl, rfl, trivial⟩ ⟨HS, kq21, by omega, H⟩
                  · replace H := ite_f c69 H
                    refine W.want 76 rfl (sb (b_f c69)) ?_
                    refine W.rd (X.move rfl) rfl rfl rfl ?_
                    refine W.want 76 rfl (sb (b_f c69)) ?_
                    obtain ⟨t70, A71, H⟩ := bind_s H
                    refine W.ev (Y.call Try.func12 (by kernel_rfl) rfl (vs := [Value.pointer (some ⟨bt6_0, 0, none⟩)]) rfl (reorder_Order_Next.calls t33 _ w0 _ bt6_0 b3_65 k3_65 a4_65 c4_65 d4_65 t70  A71 (Sep.St.tailJoin (m := [blk bt6_0 (#[Value.int .i64 ((t33).m), Value.int .i64 ((t33).window), Value.int .i64 ((t33).next), Value.map (some b3_65), Value.slice a4_65 ((t33).ready).length c4_65]) 47, mblk b3_65 k3_65, tieM (El.sl (El.int .u8)) k3_65 ((t33).kept), row 26 1 (.slice a4_65 ((t33).ready).length c4_65) ((t33).ready).length d4_65, tie (El.sl (El.int .u8)) d4_65 ((t33).ready)]) (r := [R]) HS))) rfl rfl rfl ?_
                    rintro _ w ⟨rfl, HS⟩
                    replace HS := Sep.St.tailOpen (m := [blk bt6_0 (#[Value.int .i64 ((t33).m), Value.int .i64 ((t33).window), Value.int .i64 ((t33).next), Value.map (some b3_65), Value.slice a4_65 ((t33).ready).length c4_65]) 47, mblk b3_65 k3_65, tieM (El.sl (El.int .u8)) k3_65 ((t33).kept), row 26 1 (.slice a4_65 ((t33).ready).length c4_65) ((t33).ready).length d4_65, tie (El.sl (El.int .u8)) d4_65 ((t33).ready)]) (r := [R]) HS
                    have HS : Sep.St [blk bt6_0 (#[Value.int .i64 ((t33).m), Value.int .i64 ((t33).window), Value.int .i64 ((t33).next), Value.map (some b3_65), Value.slice a4_65 ((t33).ready).length c4_65]) 47, mblk b3_65 k3_65, tieM (El.sl (El.int .u8)) k3_65 ((t33).kept), row 26 1 (.slice a4_65 ((t33).ready).length c4_65) ((t33).ready).length d4_65, tie (El.sl (El.int .u8)) d4_65 ((t33).ready), R] w0 w := HS
                    refine W.want 76 rfl (sb (b_f c69)) ?_
                    refine W.rd (X.cmp (!(decide (t70 = 0))) rfl rfl rfl rfl) rfl rfl rfl ?_
                    refine W.rd (X.pickF (sb (b_f c69)) rfl) rfl rfl rfl ?_
                    refine W.nil ?_
                    replace HS := reorder_Order.close (t33) trivial HS
                    have HS : Sep.St [reorder_Order.at bt6_0 (t33), R] w0 w := HS
                    exact At.meet (!(decide (t70 = 0))) ⟨rfl, rfl, rfl, trivial⟩ ⟨HS, kq21, by omega, H⟩
              · rintro x35 w ⟨HS, kf36, hkkf36, H⟩
                unfold signalmanlaw14_ReorderClears.j3 at H
                have HS : Sep.St [reorder_Order.at bt6_0 (t33), R] w0 w := HS
                by_cases c37 : x35 = true
                · replace H := ite_t c37 H
                  refine V.condT (sb c37) ?_
                  refine V.seq ?_
                  refine V.region ?_
                  refine W.rd (X.assign rfl) rfl rfl rfl ?_
                  refine W.nil ?_
                  refine At.next ?_
                  refine V.keep [(4, Value.bool (false))] ⟨rfl, trivial⟩ ?_
                  refine V.ret ?_
                  refine At.thenRet ?_
                  replace HS := HS.sel [1] [0] (by kernel_rfl)
                  cases H
                  exact At.ret1 rfl rfl ⟨_, rfl, rfl, HS⟩
                · replace H := ite_f c37 H
                  refine V.condF (sb (b_f c37)) ?_
                  refine V.skip ?_
                  refine At.next ?_
                  refine V.keep [(0, Value.int .i64 (a0)), (6, Value.pointer (some ⟨bt6_0, 0, none⟩))] ⟨rfl, rfl, trivial⟩ ?_
                  refine V.seq ?_
                  refine V.region ?_
                  refine W.rd (X.move rfl) rfl rfl rfl ?_
                  refine W.ev (Y.litB (e := 5) (sz := 1) (vs := #[(0, Value.int .u8 (122))]) [Value.int .u8 (122)] HS (fun a ha => by simp only [List.map_toArray, List.map_cons, List.map_nil]; try rfl) rfl (by decide) (fun _ => by kernel_rfl)) rfl rfl rfl ?_
                  rintro _ w ⟨lb40, rfl, HS⟩
                  have HS : Sep.St [row 5 1 (.slice (some ⟨lb40, 0, none⟩) (([122] : List Int)).length 1) (([122] : List Int)).length ((([122] : List Int)).map (Value.int .u8)), reorder_Order.at bt6_0 (t33), R] w0 w := HS
                  refine W.ev (Y.markS 0 HS rfl (by decide) Try.underlying26 Try.underlying5 rfl) rfl rfl rfl ?_
                  rintro _ w ⟨rfl, HS⟩
                  have HS : Sep.St [fsl 1 (.slice (some ⟨lb40, 0, none⟩) (([122] : List Int)).length 1) (([122] : List Int)).length ((([122] : List Int)).map (Value.int .u8)), reorder_Order.at bt6_0 (t33), R] w0 w := HS
                  obtain ⟨t41, A42, H⟩ := bind_s H
                  replace HS := HS.re [1, 0, 2] (by kernel_rfl)
                  have HS : Sep.St [reorder_Order.at bt6_0 (t33), fsl 1 (.slice (some ⟨lb40, 0, none⟩) (([122] : List Int)).length 1) (([122] : List Int)).length ((([122] : List Int)).map (Value.int .u8)), R] w0 w := HS
                  refine W.ev (Y.call Try.func9 (by kernel_rfl) rfl (vs := [Value.pointer (some ⟨bt6_0, 0, none⟩), Value.int .i64 (0), Value.slice (some ⟨lb40, 0, none⟩) (([122] : List Int)).length 1]) rfl (reorder_Order_Put.calls kf36 t33 0 ([122] : List Int) _ w0 _ bt6_0 (some ⟨lb40, 0, none⟩) 1 t41 (rdC.part 0 fsl.rd rfl) A42 (Sep.St.tailJoin (m := [reorder_Order.at bt6_0 (t33)]) (r := [fsl 1 (.slice (some ⟨lb40, 0, none⟩) (([122] : List Int)).length 1) (([122] : List Int)).length ((([122] : List Int)).map (Value.int .u8)), R]) HS))) rfl rfl rfl ?_
                  rintro _ w ⟨rfl, HS⟩
                  replace HS := Sep.St.tailOpen (m := [reorder_Order.at bt6_0 (t41.2)]) (r := [fsl 1 (.slice (some ⟨lb40, 0, none⟩) (([122] : List Int)).length 1) (([122] : List Int)).length ((([122] : List Int)).map (Value.int .u8)), R]) HS
                  have HS : Sep.St [reorder_Order.at bt6_0 (t41.2), fsl 1 (.slice (some ⟨lb40, 0, none⟩) (([122] : List Int)).length 1) (([122] : List Int)).length ((([122] : List Int)).map (Value.int .u8)), R] w0 w := HS
                  refine W.rd (X.assign rfl) rfl rfl rfl ?_
                  refine W.nil ?_
                  refine At.next ?_
                  refine V.keep [(0, Value.int .i64 (a0)), (6, Value.pointer (some ⟨bt6_0, 0, none⟩)), (10, Value.int .i64 (t41.1))] ⟨rfl, rfl, rfl, trivial⟩ ?_
                  refine V.seq ?_
                  refine V.seq ?_
                  refine V.region ?_
                  refine W.rd (X.assign rfl) rfl rfl rfl ?_
                  refine W.nil ?_
                  refine At.next ?_
                  refine V.keep [(0, Value.int .i64 (a0)), (6, Value.pointer (some ⟨bt6_0, 0, none⟩)), (10, Value.int .i64 (t41.1)), (11, Value.int .i64 (0))] ⟨rfl, rfl, rfl, rfl, trivial⟩ ?_
                  refine V.block ?_
                  refine V.loop (σ := Int × reorder_Order) (fun kq (st : Int × reorder_Order) w => match st with | (x44, x45) => Sep.St [reorder_Order.at bt6_0 (x45), fsl 1 (.slice (some ⟨lb40, 0, none⟩) (([122] : List Int)).length 1) (([122] : List Int)).length ((([122] : List Int)).map (Value.int .u8)), R] w0 w ∧ signalmanlaw14_ReorderClears.l4 kq a0 t41 x44 x45 = some r ∧ kq ≤ kf36) (fun st => match st with | (x44, x45) => [(0, Value.int .i64 (a0)), (6, Value.pointer (some ⟨bt6_0, 0, none⟩)), (10, Value.int .i64 (t41.1)), (11, Value.int .i64 (x44))]) kf36 (0, t41.2) ⟨rfl, rfl, rfl, rfl, trivial⟩ ⟨HS, H, Nat.le_refl _⟩ ?_
                  rintro kq46 ⟨x44, x45⟩ w ⟨HS, H, hk47⟩
                  cases kq46 with
                  | zero => exact absurd H (by simp [signalmanlaw14_ReorderClears.l4])
                  | succ kq46 =>
                    simp only [signalmanlaw14_ReorderClears.l4] at H
                    have HS : Sep.St [reorder_Order.at bt6_0 (x45), fsl 1 (.slice (some ⟨lb40, 0, none⟩) (([122] : List Int)).length 1) (([122] : List Int)).length ((([122] : List Int)).map (Value.int .u8)), R] w0 w := HS
                    refine V.seq ?_
                    refine V.seq ?_
                    refine V.region ?_
                    refine W.rd (X.move rfl) rfl rfl rfl ?_
                    refine W.rd (X.move rfl) rfl rfl rfl ?_
                    refine W.rd (X.cmp (decide (x44 < a0)) rfl rfl rfl rfl) rfl rfl rfl ?_
                    refine W.nil ?_
                    refine At.next ?_
                    refine V.keep [(0, Value.int .i64 (a0)), (6, Value.pointer (some ⟨bt6_0, 0, none⟩)), (10, Value.int .i64 (t41.1)), (11, Value.int .i64 (x44)), (87, Value.bool (decide (x44 < a0)))] ⟨rfl, rfl, rfl, rfl, rfl, trivial⟩ ?_
                    by_cases c48 : x44 < a0
                    · replace H := ite_t c48 H
                      refine V.condT (sb (decide_eq_true c48)) ?_
                      refine V.skip ?_
                      refine At.next ?_
                      refine V.keep [(0, Value.int .i64 (a0)), (6, Value.pointer (some ⟨bt6_0, 0, none⟩)), (10, Value.int .i64 (t41.1)), (11, Value.int .i64 (x44))] ⟨rfl, rfl, rfl, rfl, trivial⟩ ?_
                      refine V.seq ?_
                      refine V.block ?_
                      refine V.seq ?_
                      refine V.region ?_
                      refine W.rd (X.move rfl) rfl rfl rfl ?_
                      obtain ⟨t49, A50, H⟩ := bind_s H
                      refine W.ev (Y.call Try.func11 (by kernel_rfl) rfl (vs := [Value.pointer (some ⟨bt6_0, 0, none⟩)]) rfl (reorder_Order_Take.calls x45 _ w0 _ bt6_0 t49  A50 (Sep.St.tailJoin (m := [reorder_Order.at bt6_0 (x45)]) (r := [fsl 1 (.slice (some ⟨lb40, 0, none⟩) (([122] : List Int)).length 1) (([122] : List Int)).length ((([122] : List Int)).map (Value.int .u8)), R]) HS))) rfl rfl rfl ?_
                      rintro _ w ⟨at49_0, ct49_0, rfl, HS⟩
                      replace HS := Sep.St.tailOpen (m := [fsl 1 (.slice at49_0 (t49.1).length ct49_0) (t49.1).length ((t49.1).map (Value.int .u8)), reorder_Order.at bt6_0 (t49.2.2)]) (r := [fsl 1 (.slice (some ⟨lb40, 0, none⟩) (([122] : List Int)).length 1) (([122] : List Int)).length ((([122] : List Int)).map (Value.int .u8)), R]) HS
                      have HS : Sep.St [fsl 1 (.slice at49_0 (t49.1).length ct49_0) (t49.1).length ((t49.1).map (Value.int .u8)), reorder_Order.at bt6_0 (t49.2.2), fsl 1 (.slice (some ⟨lb40, 0, none⟩) (([122] : List Int)).length 1) (([122] : List Int)).length ((([122] : List Int)).map (Value.int .u8)), R] w0 w := HS
                      refine W.rd (X.move rfl) rfl rfl rfl ?_
                      refine W.rd (X.extract rfl rfl) rfl rfl rfl ?_
                      refine W.rd (X.extract rfl rfl) rfl rfl rfl ?_
                      refine W.rd (X.assign rfl) rfl rfl rfl ?_
                      refine W.rd (X.assign rfl) rfl rfl rfl ?_
                      refine W.nil ?_
                      refine At.next ?_
                      refine V.keep [(0, Value.int .i64 (a0)), (6, Value.pointer (some ⟨bt6_0, 0, none⟩)), (10, Value.int .i64 (t41.1)), (11, Value.int .i64 (x44)), (12, Value.slice at49_0 (t49.1).length ct49_0), (13, Value.bool (t49.2.1))] ⟨rfl, rfl, rfl, rfl, rfl, rfl, trivial⟩ ?_
                      refine V.seq ?_
                      refine V.region ?_
                      refine W.rd (X.move rfl) rfl rfl rfl ?_
                      refine W.rd (X.not rfl) rfl rfl rfl ?_
                      refine W.rd (X.move rfl) rfl rfl rfl ?_
                      by_cases c52 : t49.2.1 = true
                      · replace H := ite_t c52 H
                        refine W.want 97 rfl (sb (n_t c52)) ?_
                        refine W.rd (X.move rfl) rfl rfl rfl ?_
                        refine W.want 97 rfl (sb (n_t c52)) ?_
                        refine W.rd (X.bytesStr Try.underlying26 Try.underlying5 Try.underlying9 rfl (rdC.at 0 fsl.rd HS rfl)) rfl rfl rfl ?_
                        refine W.want 97 rfl (sb (n_t c52)) ?_
                        refine W.rd (X.move rfl) rfl rfl rfl ?_
                        refine W.want 97 rfl (sb (n_t c52)) ?_
                        refine W.rd (X.conv Try.underlying3 Try.underlying5 rfl) rfl rfl rfl ?_
                        refine W.want 97 rfl (sb (n_t c52)) ?_
                        refine W.ev (Y.litB (e := 5) (sz := 1) (vs := #[(0, Value.int .u8 (IntKind.u8.wrap (x44)))]) [Value.int .u8 (IntKind.u8.wrap (x44))] HS (fun a ha => by simp only [List.map_toArray, List.map_cons, List.map_nil]; rw [ha.ev (x := .tmp 101) (v := Value.int .u8 (IntKind.u8.wrap (x44))) rfl]; try rfl) rfl (by decide) (fun _ => by kernel_rfl)) rfl rfl rfl ?_
                        rintro _ w ⟨lb55, rfl, HS⟩
                        have HS : Sep.St [row 5 1 (.slice (some ⟨lb55, 0, none⟩) (([IntKind.u8.wrap (x44)] : List Int)).length 1) (([IntKind.u8.wrap (x44)] : List Int)).length ((([IntKind.u8.wrap (x44)] : List Int)).map (Value.int .u8)), fsl 1 (.slice at49_0 (t49.1).length ct49_0) (t49.1).length ((t49.1).map (Value.int .u8)), reorder_Order.at bt6_0 (t49.2.2), fsl 1 (.slice (some ⟨lb40, 0, none⟩) (([122] : List Int)).length 1) (([122] : List Int)).length ((([122] : List Int)).map (Value.int .u8)), R] w0 w := HS
                        refine W.want 97 rfl (sb (n_t c52)) ?_
                        refine W.rd (X.bytesStr Try.underlying26 Try.underlying5 Try.underlying9 rfl (rdC.at 0 row_rd HS rfl)) rfl rfl rfl ?_
                        refine W.want 97 rfl (sb (n_t c52)) ?_
                        refine W.rd (X.neStr (a := t49.1) (b := ([IntKind.u8.wrap (x44)] : List Int)) rfl rfl) rfl rfl rfl ?_
                        refine W.rd (X.pickF (sb (n_t c52)) rfl) rfl rfl rfl ?_
                        refine W.nil ?_
                        refine At.next ?_
                        refine V.keep [(0, Value.int .i64 (a0)), (6, Value.pointer (some ⟨bt6_0, 0, none⟩)), (10, Value.int .i64 (t41.1)), (11, Value.int .i64 (x44)), (98, Value.slice at49_0 (t49.1).length ct49_0), (99, Value.string (strOf (t49.1))), (100, Value.int .i64 (x44)), (101, Value.int .u8 (IntKind.u8.wrap (x44))), (102, Value.slice (some ⟨lb55, 0, none⟩) (([IntKind.u8.wrap (x44)] : List Int)).length 1), (103, Value.string (strOf (([IntKind.u8.wrap (x44)] : List Int)))), (104, Value.bool (!(sEq (t49.1) (([IntKind.u8.wrap (x44)] : List Int))))), (105, Value.bool (!(sEq (t49.1) (([IntKind.u8.wrap (x44)] : List Int)))))] ⟨rfl, rfl, rfl, rfl, rfl, rfl, rfl, rfl, rfl, rfl, rfl, rfl, trivial⟩ ?_
                        by_cases c56 : sEq (t49.1) (([IntKind.u8.wrap (x44)] : List Int)) = true
                        · replace H := ite_t c56 H
                          refine V.condF (sb (n_t c56)) ?_
                          refine V.skip ?_
                          refine At.blockEnd ?_
                          refine At.next ?_
                          refine V.keep [(0, Value.int .i64 (a0)), (6, Value.pointer (some ⟨bt6_0, 0, none⟩)), (10, Value.int .i64 (t41.1)), (11, Value.int .i64 (x44)), (98, Value.slice at49_0 (t49.1).length ct49_0), (99, Value.string (strOf (t49.1))), (100, Value.int .i64 (x44)), (101, Value.int .u8 (IntKind.u8.wrap (x44))), (102, Value.slice (some ⟨lb55, 0, none⟩) (([IntKind.u8.wrap (x44)] : List Int)).length 1), (103, Value.string (strOf (([IntKind.u8.wrap (x44)] : List Int)))), (104, Value.bool (!(sEq (t49.1) (([IntKind.u8.wrap (x44)] : List Int)))))] ⟨rfl, rfl, rfl, rfl, rfl, rfl, rfl, rfl, rfl, rfl, rfl, trivial⟩ ?_
                          refine V.region ?_
                          refine W.rd (X.move rfl) rfl rfl rfl ?_
                          refine W.rd (X.add rfl rfl) rfl rfl rfl ?_
                          refine W.rd (X.assign rfl) rfl rfl rfl ?_
                          refine W.nil ?_
                          replace HS := HS.sel [2, 3, 4] [0, 1] (by kernel_rfl)
                          exact At.round kq46 (by omega) (w64 (x44 + 1), t49.2.2) ⟨rfl, rfl, rfl, rfl, trivial⟩ ⟨HS, H, by omega⟩
                        · replace H := ite_f c56 H
                          refine V.condT (sb (n_f (b_f c56))) ?_
                          refine V.seq ?_
                          refine V.region ?_
                          refine W.rd (X.assign rfl) rfl rfl rfl ?_
                          refine W.nil ?_
                          refine At.next ?_
                          refine V.keep [(4, Value.bool (false))] ⟨rfl, trivial⟩ ?_
                          refine V.ret ?_
                          refine At.blockRet ?_
                          refine At.thenRet ?_
                          refine At.thenRet ?_
                          refine At.blockRet ?_
                          refine At.thenRet ?_
                          replace HS := HS.sel [4] [0, 1, 2, 3] (by kernel_rfl)
                          cases H
                          exact At.ret1 rfl rfl ⟨_, rfl, rfl, HS⟩
                      · replace H := ite_f c52 H
                        refine W.pass 97 rfl (sb (n_f (b_f c52))) rfl rfl ?_
                        refine W.pass 97 rfl (sb (n_f (b_f c52))) rfl rfl ?_
                        refine W.pass 97 rfl (sb (n_f (b_f c52))) rfl rfl ?_
                        refine W.pass 97 rfl (sb (n_f (b_f c52))) rfl rfl ?_
                        refine W.pass 97 rfl (sb (n_f (b_f c52))) rfl rfl ?_
                        refine W.pass 97 rfl (sb (n_f (b_f c52))) rfl rfl ?_
                        refine W.pass 97 rfl (sb (n_f (b_f c52))) rfl rfl ?_
                        refine W.rd (X.pickT (sb (n_f (b_f c52))) rfl) rfl rfl rfl ?_
                        refine W.nil ?_
                        refine At.next ?_
                        refine V.keep [(0, Value.int .i64 (a0)), (6, Value.pointer (some ⟨bt6_0, 0, none⟩)), (10, Value.int .i64 (t41.1)), (11, Value.int .i64 (x44)), (98, undef), (99, undef), (100, undef), (101, undef), (102, undef), (103, undef), (104, undef), (105, Value.bool (true))] ⟨rfl, rfl, rfl, rfl, rfl, rfl, rfl, rfl, rfl, rfl, rfl, rfl, trivial⟩ ?_
                        refine V.condT rfl ?_
                        refine V.seq ?_
                        refine V.region ?_
                        refine W.rd (X.assign rfl) rfl rfl rfl ?_
                        refine W.nil ?_
                        refine At.next ?_
                        refine V.keep [(4, Value.bool (false))] ⟨rfl, trivial⟩ ?_
                        refine V.ret ?_
                        refine At.blockRet ?_
                        refine At.thenRet ?_
                        refine At.thenRet ?_
                        refine At.blockRet ?_
                        refine At.thenRet ?_
                        replace HS := HS.sel [3] [0, 1, 2] (by kernel_rfl)
                        cases H
                        exact At.ret1 rfl rfl ⟨_, rfl, rfl, HS⟩
                    · replace H := ite_f c48 H
                      refine V.condF (sb (decide_eq_false c48)) ?_
                      refine V.exit ?_
                      refine At.thenExit ?_
                      refine At.thenExit ?_
                      refine At.blockExit ?_
                      refine At.next ?_
                      refine V.keep [(6, Value.pointer (some ⟨bt6_0, 0, none⟩)), (10, Value.int .i64 (t41.1))] ⟨rfl, rfl, trivial⟩ ?_
                      refine V.seq ?_
                      refine V.region ?_
                      refine W.rd (X.move rfl) rfl rfl rfl ?_
                      obtain ⟨t57, A58, H⟩ := bind_s H
                      refine W.ev (Y.call Try.func11 (by kernel_rfl) rfl (vs := [Value.pointer (some ⟨bt6_0, 0, none⟩)]) rfl (reorder_Order_Take.calls x45 _ w0 _ bt6_0 t57  A58 (Sep.St.tailJoin (m := [reorder_Order.at bt6_0 (x45)]) (r := [fsl 1 (.slice (some ⟨lb40, 0, none⟩) (([122] : List Int)).length 1) (([122] : List Int)).length ((([122] : List Int)).map (Value.int .u8)), R]) HS))) rfl rfl rfl ?_
                      rintro _ w ⟨at57_0, ct57_0, rfl, HS⟩
                      replace HS := Sep.St.tailOpen (m := [fsl 1 (.slice at57_0 (t57.1).length ct57_0) (t57.1).length ((t57.1).map (Value.int .u8)), reorder_Order.at bt6_0 (t57.2.2)]) (r := [fsl 1 (.slice (some ⟨lb40, 0, none⟩) (([122] : List Int)).length 1) (([122] : List Int)).length ((([122] : List Int)).map (Value.int .u8)), R]) HS
                      have HS : Sep.St [fsl 1 (.slice at57_0 (t57.1).length ct57_0) (t57.1).length ((t57.1).map (Value.int .u8)), reorder_Order.at bt6_0 (t57.2.2), fsl 1 (.slice (some ⟨lb40, 0, none⟩) (([122] : List Int)).length 1) (([122] : List Int)).length ((([122] : List Int)).map (Value.int .u8)), R] w0 w := HS
                      refine W.rd (X.move rfl) rfl rfl rfl ?_
                      refine W.rd (X.extract rfl rfl) rfl rfl rfl ?_
                      refine W.rd (X.extract rfl rfl) rfl rfl rfl ?_
                      refine W.rd (X.assign rfl) rfl rfl rfl ?_
                      refine W.rd (X.assign rfl) rfl rfl rfl ?_
                      refine W.nil ?_
                      refine At.next ?_
                      refine V.keep [(6, Value.pointer (some ⟨bt6_0, 0, none⟩)), (10, Value.int .i64 (t41.1)), (14, Value.slice at57_0 (t57.1).length ct57_0), (15, Value.bool (t57.2.1))] ⟨rfl, rfl, rfl, rfl, trivial⟩ ?_
                      refine V.seq ?_
                      refine V.region ?_
                      refine W.rd (X.move rfl) rfl rfl rfl ?_
                      obtain ⟨t59, A60, H⟩ := bind_s H
                      replace HS := HS.re [1, 0, 2, 3] (by kernel_rfl)
                      have HS : Sep.St [reorder_Order.at bt6_0 (t57.2.2), fsl 1 (.slice at57_0 (t57.1).length ct57_0) (t57.1).length ((t57.1).map (Value.int .u8)), fsl 1 (.slice (some ⟨lb40, 0, none⟩) (([122] : List Int)).length 1) (([122] : List Int)).length ((([122] : List Int)).map (Value.int .u8)), R] w0 w := HS
                      refine W.ev (Y.call Try.func11 (by kernel_rfl) rfl (vs := [Value.pointer (some ⟨bt6_0, 0, none⟩)]) rfl (reorder_Order_Take.calls t57.2.2 _ w0 _ bt6_0 t59  A60 (Sep.St.tailJoin (m := [reorder_Order.at bt6_0 (t57.2.2)]) (r := [fsl 1 (.slice at57_0 (t57.1).length ct57_0) (t57.1).length ((t57.1).map (Value.int .u8)), fsl 1 (.slice (some ⟨lb40, 0, none⟩) (([122] : List Int)).length 1) (([122] : List Int)).length ((([122] : List Int)).map (Value.int .u8)), R]) HS))) rfl rfl rfl ?_
                      rintro _ w ⟨at59_0, ct59_0, rfl, HS⟩
                      replace HS := Sep.St.tailOpen (m := [fsl 1 (.slice at59_0 (t59.1).length ct59_0) (t59.1).length ((t59.1).map (Value.int .u8)), reorder_Order.at bt6_0 (t59.2.2)]) (r := [fsl 1 (.slice at57_0 (t57.1).length ct57_0) (t57.1).length ((t57.1).map (Value.int .u8)), fsl 1 (.slice (some ⟨lb40, 0, none⟩) (([122] : List Int)).length 1) (([122] : List Int)).length ((([122] : List Int)).map (Value.int .u8)), R]) HS
                      have HS : Sep.St [fsl 1 (.slice at59_0 (t59.1).length ct59_0) (t59.1).length ((t59.1).map (Value.int .u8)), reorder_Order.at bt6_0 (t59.2.2), fsl 1 (.slice at57_0 (t57.1).length ct57_0) (t57.1).length ((t57.1).map (Value.int .u8)), fsl 1 (.slice (some ⟨lb40, 0, none⟩) (([122] : List Int)).length 1) (([122] : List Int)).length ((([122] : List Int)).map (Value.int .u8)), R] w0 w := HS
                      refine W.rd (X.move rfl) rfl rfl rfl ?_
                      refine W.rd (X.extract rfl rfl) rfl rfl rfl ?_
                      refine W.rd (X.extract rfl rfl) rfl rfl rfl ?_
                      refine W.rd (X.assign rfl) rfl rfl rfl ?_
                      refine W.rd (X.assign rfl) rfl rfl rfl ?_
                      refine W.nil ?_
                      refine At.next ?_
                      refine V.keep [(10, Value.int .i64 (t41.1)), (14, Value.slice at57_0 (t57.1).length ct57_0), (15, Value.bool (t57.2.1)), (17, Value.bool (t59.2.1))] ⟨rfl, rfl, rfl, rfl, trivial⟩ ?_
                      refine V.seq ?_
                      refine V.region ?_
                      refine W.rd (X.move rfl) rfl rfl rfl ?_
                      refine W.rd (X.cmp (decide (t41.1 = 1)) rfl rfl rfl rfl) rfl rfl rfl ?_
                      refine W.rd (X.move rfl) rfl rfl rfl ?_
                      by_cases c61 : t41.1 = 1
                      · replace H := ite_t c61 H
                        refine W.want 118 rfl (sb (decide_eq_true c61)) ?_
                        refine W.rd (X.move rfl) rfl rfl rfl ?_
                        refine W.rd (X.pickT (sb (decide_eq_true c61)) rfl) rfl rfl rfl ?_
                        refine W.rd (X.move rfl) rfl rfl rfl ?_
                        by_cases c62 : t57.2.1 = true
                        · replace H := ite_t c62 H
                          refine W.want 121 rfl (sb c62) ?_
                          refine W.rd (X.move rfl) rfl rfl rfl ?_
                          refine W.want 121 rfl (sb c62) ?_
                          refine W.rd (X.bytesStr Try.underlying26 Try.underlying5 Try.underlying9 rfl (rdC.at 2 fsl.rd HS rfl)) rfl rfl rfl ?_
                          refine W.want 121 rfl (sb c62) ?_
                          refine W.rd (X.eqStr (a := t57.1) (b := ([122] : List Int)) rfl rfl) rfl rfl rfl ?_
                          refine W.rd (X.pickT (sb c62) rfl) rfl rfl rfl ?_
                          refine W.rd (X.move rfl) rfl rfl rfl ?_
                          by_cases c63 : sEq (t57.1) (([122] : List Int)) = true
                          · replace H := ite_t c63 H
                            refine W.want 126 rfl (sb c63) ?_
                            refine W.rd (X.move rfl) rfl rfl rfl ?_
                            refine W.want 126 rfl (sb c63) ?_
                            refine W.rd (X.not rfl) rfl rfl rfl ?_
                            refine W.rd (X.pickT (sb c63) rfl) rfl rfl rfl ?_
                            refine W.rd (X.assign rfl) rfl rfl rfl ?_
                            refine W.nil ?_
                            refine At.next ?_
                            refine V.keep [(4, Value.bool (!(t59.2.1)))] ⟨rfl, trivial⟩ ?_
                            refine V.ret ?_
                            replace HS := HS.sel [4] [0, 1, 2, 3] (by kernel_rfl)
                            cases H
                            exact At.ret1 rfl rfl ⟨_, rfl, rfl, HS⟩
                          · replace H := ite_f c63 H
                            refine W.pass 126 rfl (sb (b_f c63)) rfl rfl ?_
                            refine W.pass 126 rfl (sb (b_f c63)) rfl rfl ?_
                            refine W.rd (X.pickF (sb (b_f c63)) rfl) rfl rfl rfl ?_
                            refine W.rd (X.assign rfl) rfl rfl rfl ?_
                            refine W.nil ?_
                            refine At.next ?_
                            refine V.keep [(4, Value.bool (false))] ⟨rfl, trivial⟩ ?_
                            refine V.ret ?_
                            replace HS := HS.sel [4] [0, 1, 2, 3] (by kernel_rfl)
                            cases H
                            exact At.ret1 rfl rfl ⟨_, rfl, rfl, HS⟩
                        · replace H := ite_f c62 H
                          refine W.pass 121 rfl (sb (b_f c62)) rfl rfl ?_
                          refine W.pass 121 rfl (sb (b_f c62)) rfl rfl ?_
                          refine W.pass 121 rfl (sb (b_f c62)) rfl rfl ?_
                          refine W.rd (X.pickF (sb (b_f c62)) rfl) rfl rfl rfl ?_
                          refine W.rd (X.move rfl) rfl rfl rfl ?_
                          refine W.pass 126 rfl rfl rfl rfl ?_
                          refine W.pass 126 rfl rfl rfl rfl ?_
                          refine W.rd (X.pickF rfl rfl) rfl rfl rfl ?_
                          refine W.rd (X.assign rfl) rfl rfl rfl ?_
                          refine W.nil ?_
                          refine At.next ?_
                          refine V.keep [(4, Value.bool (false))] ⟨rfl, trivial⟩ ?_
                          refine V.ret ?_
                          replace HS := HS.sel [4] [0, 1, 2, 3] (by kernel_rfl)
                          cases H
                          exact At.ret1 rfl rfl ⟨_, rfl, rfl, HS⟩
                      · replace H := ite_f c61 H
                        refine W.pass 118 rfl (sb (decide_eq_false c61)) rfl rfl ?_
                        refine W.rd (X.pickF (sb (decide_eq_false c61)) rfl) rfl rfl rfl ?_
                        refine W.rd (X.move rfl) rfl rfl rfl ?_
                        refine W.pass 121 rfl rfl rfl rfl ?_
                        refine W.pass 121 rfl rfl rfl rfl ?_
                        refine W.pass 121 rfl rfl rfl rfl ?_
                        refine W.rd (X.pickF rfl rfl) rfl rfl rfl ?_
                        refine W.rd (X.move rfl) rfl rfl rfl ?_
                        refine W.pass 126 rfl rfl rfl rfl ?_
                        refine W.pass 126 rfl rfl rfl rfl ?_
                        refine W.rd (X.pickF rfl rfl) rfl rfl rfl ?_
                        refine W.rd (X.assign rfl) rfl rfl rfl ?_
                        refine W.nil ?_
                        refine At.next ?_
                        refine V.keep [(4, Value.bool (false))] ⟨rfl, trivial⟩ ?_
                        refine V.ret ?_
                        replace HS := HS.sel [4] [0, 1, 2, 3] (by kernel_rfl)
                        cases H
                        exact At.ret1 rfl rfl ⟨_, rfl, rfl, HS⟩

def signalmanlaw14_ReorderClears.Pure : Prop := ∀ (a0 : Int) (a1 : Int), (Lit.int .i64 a0).wf = true → (Lit.int .i64 a1).wf = true → ∃ k, signalmanlaw14_ReorderClears.f k a0 a1 = some true
end Go.Proofs.Ytcjmffcpldjbpaa

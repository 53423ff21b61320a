/- ReorderSorts: the functions that its law reaches, as plain functions, and that the machine's calls come to what these say. Conditions: those that stand at each. -/
import Derived.Test.YtcjmffcpldjbpaaRunReorderSortsP1
set_option linter.all false
namespace Go.Proofs.Ytcjmffcpldjbpaa
open Go.RowKit Go.Proofs.Ytcjmffcpldjbpaa.Sep Go.Proofs.Ytcjmffcpldjbpaa.Walk
/-! ### signalman/signalmanlaw14.ReorderSorts: function 4 -/
mutual
def signalmanlaw14_ReorderSorts.l0 : Nat → Int → Int → Int → (List Int) → Int → Int → (List Bool) → reorder_Order → Option (Bool)
  | 0, _, _, _, _, _, _, _, _ => none
  | k + 1, a0, a1, a2, a3, x18, x19, x22, x23 => (if x19 < ((a3).length : Int) then (if 0 ≤ x19 ∧ x19 < ((a3).length : Int) then (if (w64 ((w64 (x18 + (iand .i64 ((a3).getD (x19).toNat 0) (15)))) - 3)) < 0 then (signalmanlaw14_ReorderSorts.j1 k a0 a2 x18 x19 x22 x23 (signalmanlaw14_ReorderSorts.l0 k a0 a1 a2 a3) (w64 ((w64 (x18 + (iand .i64 ((a3).getD (x19).toNat 0) (15)))) - 3)) true) else (if (w64 ((w64 (x18 + (iand .i64 ((a3).getD (x19).toNat 0) (15)))) - 3)) ≥ a2 then (signalmanlaw14_ReorderSorts.j1 k a0 a2 x18 x19 x22 x23 (signalmanlaw14_ReorderSorts.l0 k a0 a1 a2 a3) (w64 ((w64 (x18 + (iand .i64 ((a3).getD (x19).toNat 0) (15)))) - 3)) true) else (if (w64 ((w64 (x18 + (iand .i64 ((a3).getD (x19).toNat 0) (15)))) - 3)) ≥ (w64 (x18 + a1)) then (signalmanlaw14_ReorderSorts.j1 k a0 a2 x18 x19 x22 x23 (signalmanlaw14_ReorderSorts.l0 k a0 a1 a2 a3) (w64 ((w64 (x18 + (iand .i64 ((a3).getD (x19).toNat 0) (15)))) - 3)) true) else (signalmanlaw14_ReorderSorts.j1 k a0 a2 x18 x19 x22 x23 (signalmanlaw14_ReorderSorts.l0 k a0 a1 a2 a3) (w64 ((w64 (x18 + (iand .i64 ((a3).getD (x19).toNat 0) (15)))) - 3)) (decide ((w64 ((w64 (x18 + (iand .i64 ((a3).getD (x19).toNat 0) (15)))) - 3)) < (w64 (x18 - (w64 ((a0).tdiv (2))))))))))) else none) else (signalmanlaw14_ReorderSorts.l7 k a0 x18 0 x23))
def signalmanlaw14_ReorderSorts.l3 : Nat → Int → Int → (List Bool) → Int → (Int × reorder_Order) → (Int → Int → (List Bool) → reorder_Order → Option (Bool)) → Bool → Int → Int → Option (Bool)
  | 0, _, _, _, _, _, _, _, _, _ => none
  | k + 1, a2, x19, x22, x30, t39, Lq44, x42, x48, x49 => (if x48 < a2 then (if 0 ≤ x48 ∧ x48 < ((x22.set (x30).toNat (true)).length : Int) then (signalmanlaw14_ReorderSorts.j4 x19 x22 x30 t39 x42 x48 x49 Lq44 (signalmanlaw14_ReorderSorts.l3 k a2 x19 x22 x30 t39 Lq44 x42) ((x22.set (x30).toNat (true)).getD (x48).toNat false)) else none) else (signalmanlaw14_ReorderSorts.j4 x19 x22 x30 t39 x42 x48 x49 Lq44 (signalmanlaw14_ReorderSorts.l3 k a2 x19 x22 x30 t39 Lq44 x42) false))
def signalmanlaw14_ReorderSorts.j6 (x19 : Int) (x22 : List Bool) (x30 : Int) (t39 : Int × reorder_Order) (x48 : Int) (Lq62 : Int → Int → (List Bool) → reorder_Order → Option (Bool)) (x60 : Int) : Option (Bool) := (if t39.1 = x60 then (Lq62 x48 (w64 (x19 + 1)) (x22.set (x30).toNat (true)) t39.2) else some (false))
def signalmanlaw14_ReorderSorts.j5 (x19 : Int) (x22 : List Bool) (x30 : Int) (t39 : Int × reorder_Order) (x48 : Int) (x49 : Int) (Lq59 : Int → Int → (List Bool) → reorder_Order → Option (Bool)) (x57 : Int) : Option (Bool) := (if x30 < (w64 (x48 - x49)) then (signalmanlaw14_ReorderSorts.j6 x19 x22 x30 t39 x48 Lq59 (-1)) else (signalmanlaw14_ReorderSorts.j6 x19 x22 x30 t39 x48 Lq59 x57))
def signalmanlaw14_ReorderSorts.j4 (x19 : Int) (x22 : List Bool) (x30 : Int) (t39 : Int × reorder_Order) (x42 : Bool) (x48 : Int) (x49 : Int) (Lq54 : Int → Int → (List Bool) → reorder_Order → Option (Bool)) (Lq55 : Int → Int → Option (Bool)) (x52 : Bool) : Option (Bool) := (if x52 = true then (Lq55 (w64 (x48 + 1)) (w64 (x49 + 1))) else (if x42 = true then (signalmanlaw14_ReorderSorts.j5 x19 x22 x30 t39 x48 x49 Lq54 x49) else (signalmanlaw14_ReorderSorts.j5 x19 x22 x30 t39 x48 x49 Lq54 0)))
def signalmanlaw14_ReorderSorts.j2 (k : Nat) (a2 : Int) (x18 : Int) (x19 : Int) (x22 : List Bool) (x30 : Int) (t39 : Int × reorder_Order) (Lq44 : Int → Int → (List Bool) → reorder_Order → Option (Bool)) (x42 : Bool) : Option (Bool) := (if 0 ≤ x30 ∧ x30 < ((x22).length : Int) then (signalmanlaw14_ReorderSorts.l3 k a2 x19 x22 x30 t39 Lq44 x42 x18 0) else none)
def signalmanlaw14_ReorderSorts.j1 (k : Nat) (a0 : Int) (a2 : Int) (x18 : Int) (x19 : Int) (x22 : List Bool) (x23 : reorder_Order) (Lq33 : Int → Int → (List Bool) → reorder_Order → Option (Bool)) (x30 : Int) (x31 : Bool) : Option (Bool) := (if x31 = true then (Lq33 x18 (w64 (x19 + 1)) x22 x23) else (if ¬ (a0 = 0) then ((reorder_Order_Put.f k x23 ((x30).tmod (a0)) ([IntKind.u8.wrap (x30), IntKind.u8.wrap ((x30).fdiv (2 ^ (min ((8 : Int)).toNat IntKind.i64.bits)))] : List Int)).bind fun t39 => (if x30 ≥ x18 then (if 0 ≤ x30 ∧ x30 < ((x22).length : Int) then (signalmanlaw14_ReorderSorts.j2 k a2 x18 x19 x22 x30 t39 Lq33 (!((x22).getD (x30).toNat false))) else none) else (signalmanlaw14_ReorderSorts.j2 k a2 x18 x19 x22 x30 t39 Lq33 false))) else none))
def signalmanlaw14_ReorderSorts.l7 : Nat → Int → Int → Int → reorder_Order → Option (Bool)
  | 0, _, _, _, _ => none
  | k + 1, a0, x18, x75, x76 => (if x75 < x18 then ((reorder_Order_Take.f x76).bind fun t80 => (if t80.2.1 = true then (signalmanlaw14_ReorderSorts.j8 x75 t80 (signalmanlaw14_ReorderSorts.l7 k a0 x18) (!(sEq (t80.1) (([IntKind.u8.wrap (x75), IntKind.u8.wrap ((x75).fdiv (2 ^ (min ((8 : Int)).toNat IntKind.i64.bits)))] : List Int))))) else (signalmanlaw14_ReorderSorts.j8 x75 t80 (signalmanlaw14_ReorderSorts.l7 k a0 x18) true))) else ((reorder_Order_Take.f x76).bind fun t91 => (if t91.2.1 = true then some (false) else (if ¬ (a0 = 0) then ((reorder_Order_Next.f t91.2.2).bind fun t97 => some (decide (t97 = ((x18).tmod (a0))))) else none))))
def signalmanlaw14_ReorderSorts.j8 (x75 : Int) (t80 : List Int × Bool × reorder_Order) (Lq85 : Int → reorder_Order → Option (Bool)) (x83 : Bool) : Option (Bool) := (if x83 = true then some (false) else (Lq85 (w64 (x75 + 1)) t80.2.2))
end
def signalmanlaw14_ReorderSorts.f (k : Nat) (a0 : Int) (a1 : Int) (a2 : Int) (a3 : List Int) : Option (Bool) := ((signalmanlaw14_alive.f k ).bind fun t1 => (if t1 = true then (if a0 < 8 then some (t1) else (if a0 > 256 then some (t1) else (if a1 < 1 then some (t1) else (if a1 > (w64 ((a0).tdiv (8))) then some (t1) else (if a2 < 0 then some (t1) else (if a2 > 400 then some (t1) else (if ((a3).length : Int) > 800 then some (t1) else ((reorder_New.f a0 a1).bind fun t11 => (if 0 ≤ w64 (a2 + 1) ∧ w64 (a2 + 1) ≤ 1099511627776 then (signalmanlaw14_ReorderSorts.l0 k a0 a1 a2 a3 0 0 (List.replicate (w64 (a2 + 1)).toNat false) t11) else none))))))))) else some (t1)))
set_option maxRecDepth 100000 in
set_option maxHeartbeats 4000000 in
theorem signalmanlaw14_ReorderSorts.calls (k : Nat) (a0 : Int) (a1 : Int) (a2 : Int) (a3 : List Int) (R : As) (w0 w : World) (sa3 : Option Addr) (sc3 : Nat) (r : Bool) (hr3 : rdC R 1 (.slice sa3 (a3).length sc3) (a3).length ((a3).map (Value.int .i64))) (H : signalmanlaw14_ReorderSorts.f k a0 a1 a2 a3 = some r) (HS : Sep.St [R] w0 w) : Calls Try.prog 4 #[Value.int .i64 (a0), Value.int .i64 (a1), Value.int .i64 (a2), Value.slice sa3 (a3).length sc3] w (Ret fun u w => u = Value.bool (r) ∧ Sep.St [R] w0 w) := by
  unfold signalmanlaw14_ReorderSorts.f at H
  refine calls_enter Try.func4 rfl rfl ?_
  have H : _ = some r := H
  refine V.seq ?_
  refine V.region ?_
  refine W.rd (X.assign rfl) rfl rfl rfl ?_
  refine W.nil ?_
  refine At.next ?_
  refine V.keep [(0, Value.int .i64 (a0)), (1, Value.int .i64 (a1)), (2, Value.int .i64 (a2)), (3, Value.slice sa3 (a3).length sc3)] ⟨rfl, rfl, rfl, rfl, trivial⟩ ?_
  refine V.seq ?_
  refine V.region ?_
  obtain ⟨t1, A2, H⟩ := bind_s H
  refine W.ev (Y.call Try.func7 (by kernel_rfl) rfl (vs := []) rfl (signalmanlaw14_alive.calls k  _ w0 _  t1  A2 (Sep.St.tailJoin (m := []) (r := [R]) HS))) rfl rfl rfl ?_
  rintro _ w ⟨rfl, HS⟩
  replace HS := Sep.St.tailOpen (m := []) (r := [R]) HS
  have HS : Sep.St [R] w0 w := HS
  refine W.rd (X.assign rfl) rfl rfl rfl ?_
  refine W.nil ?_
  refine At.next ?_
  refine V.keep [(0, Value.int .i64 (a0)), (1, Value.int .i64 (a1)), (2, Value.int .i64 (a2)), (3, Value.slice sa3 (a3).length sc3), (9, Value.bool (t1))] ⟨rfl, rfl, rfl, rfl, rfl, trivial⟩ ?_
  refine V.seq ?_
  refine V.seq ?_
  refine V.region ?_
  refine W.rd (X.move rfl) rfl rfl rfl ?_
  refine W.rd (X.not rfl) rfl rfl rfl ?_
  refine W.rd (X.move rfl) rfl rfl rfl ?_
  by_cases c3 : t1 = true
  · replace H := ite_t c3 H
    refine W.want 27 rfl (sb (n_t c3)) ?_
    refine W.rd (X.move rfl) rfl rfl rfl ?_
    refine W.want 27 rfl (sb (n_t c3)) ?_
    refine W.rd (X.cmp (decide (a0 < 8)) rfl rfl rfl rfl) rfl rfl rfl ?_
    refine W.rd (X.pickF (sb (n_t c3)) rfl) rfl rfl rfl ?_
    refine W.rd (X.move rfl) rfl rfl rfl ?_
    by_cases c4 : a0 < 8
    · replace H := ite_t c4 H
      refine W.pass 31 rfl (sb (decide_eq_true c4)) rfl rfl ?_
      refine W.pass 31 rfl (sb (decide_eq_true c4)) rfl rfl ?_
      refine W.rd (X.pickT (sb (decide_eq_true c4)) rfl) rfl rfl rfl ?_
      refine W.rd (X.move rfl) rfl rfl rfl ?_
      refine W.pass 35 rfl rfl rfl rfl ?_
      refine W.pass 35 rfl rfl rfl rfl ?_
      refine W.rd (X.pickT rfl rfl) rfl rfl rfl ?_
      refine W.rd (X.move rfl) rfl rfl rfl ?_
      refine W.pass 39 rfl rfl rfl rfl ?_
      refine W.pass 39 rfl rfl rfl rfl ?_
      refine W.pass 39 rfl rfl rfl rfl ?_
      refine W.pass 39 rfl rfl rfl rfl ?_
      refine W.rd (X.pickT rfl rfl) rfl rfl rfl ?_
      refine W.rd (X.move rfl) rfl rfl rfl ?_
      refine W.pass 45 rfl rfl rfl rfl ?_
      refine W.pass 45 rfl rfl rfl rfl ?_
      refine W.rd (X.pickT rfl rfl) rfl rfl rfl ?_
      refine W.rd (X.move rfl) rfl rfl rfl ?_
      refine W.pass 49 rfl rfl rfl rfl ?_
      refine W.pass 49 rfl rfl rfl rfl ?_
      refine W.rd (X.pickT rfl rfl) rfl rfl rfl ?_
      refine W.rd (X.move rfl) rfl rfl rfl ?_
      refine W.pass 53 rfl rfl rfl rfl ?_
      refine W.pass 53 rfl rfl rfl rfl ?_
      refine W.pass 53 rfl rfl rfl rfl ?_
      refine W.rd (X.pickT rfl rfl) rfl rfl rfl ?_
      refine W.nil ?_
      refine At.next ?_
      refine V.keep [(0, Value.int .i64 (a0)), (1, Value.int .i64 (a1)), (2, Value.int .i64 (a2)), (3, Value.slice sa3 (a3).length sc3), (9, Value.bool (t1)), (57, Value.bool (true))] ⟨rfl, rfl, rfl, rfl, rfl, rfl, trivial⟩ ?_
      refine V.condT rfl ?_
      refine V.seq ?_
      refine V.region ?_
      refine W.rd (X.move rfl) rfl rfl rfl ?_
      refine W.rd (X.assign rfl) rfl rfl rfl ?_
      refine W.nil ?_
      refine At.next ?_
      refine V.keep [(8, Value.bool (t1))] ⟨rfl, trivial⟩ ?_
      refine V.ret ?_
      refine At.thenRet ?_
      cases H
      exact At.ret1 rfl rfl ⟨_, rfl, rfl, HS⟩
    · replace H := ite_f c4 H
      refine W.want 31 rfl (sb (decide_eq_false c4)) ?_
      refine W.rd (X.move rfl) rfl rfl rfl ?_
      refine W.want 31 rfl (sb (decide_eq_false c4)) ?_
      refine W.rd (X.cmp (decide (a0 > 256)) rfl rfl rfl rfl) rfl rfl rfl ?_
      refine W.rd (X.pickF (sb (decide_eq_false c4)) rfl) rfl rfl rfl ?_
      refine W.rd (X.move rfl) rfl rfl rfl ?_
      by_cases c5 : a0 > 256
      · replace H := ite_t c5 H
        refine W.pass 35 rfl (sb (decide_eq_true c5)) rfl rfl ?_
        refine W.pass 35 rfl (sb (decide_eq_true c5)) rfl rfl ?_
        refine W.rd (X.pickT (sb (decide_eq_true c5)) rfl) rfl rfl rfl ?_
        refine W.rd (X.move rfl) rfl rfl rfl ?_
        refine W.pass 39 rfl rfl rfl rfl ?_
        refine W.pass 39 rfl rfl rfl rfl ?_
        refine W.pass 39 rfl rfl rfl rfl ?_
        refine W.pass 39 rfl rfl rfl rfl ?_
        refine W.rd (X.pickT rfl rfl) rfl rfl rfl ?_
        refine W.rd (X.move rfl) rfl rfl rfl ?_
        refine W.pass 45 rfl rfl rfl rfl ?_
        refine W.pass 45 rfl rfl rfl rfl ?_
        refine W.rd (X.pickT rfl rfl) rfl rfl rfl ?_
        refine W.rd (X.move rfl) rfl rfl rfl ?_
        refine W.pass 49 rfl rfl rfl rfl ?_
        refine W.pass 49 rfl rfl rfl rfl ?_
        refine W.rd (X.pickT rfl rfl) rfl rfl rfl ?_
        refine W.rd (X.move rfl) rfl rfl rfl ?_
        refine W.pass 53 rfl rfl rfl rfl ?_
        refine W.pass 53 rfl rfl rfl rfl ?_
        refine W.pass 53 rfl rfl rfl rfl ?_
        refine W.rd (X.pickT rfl rfl) rfl rfl rfl ?_
        refine W.nil ?_
        refine At.next ?_
        refine V.keep [(0, Value.int .i64 (a0)), (1, Value.int .i64 (a1)), (2, Value.int .i64 (a2)), (3, Value.slice sa3 (a3).length sc3), (9, Value.bool (t1)), (57, Value.bool (true))] ⟨rfl, rfl, rfl, rfl, rfl, rfl, trivial⟩ ?_
        refine V.condT rfl ?_
        refine V.seq ?_
        refine V.region ?_
        refine W.rd (X.move rfl) rfl rfl rfl ?_
        refine W.rd (X.assign rfl) rfl rfl rfl ?_
        refine W.nil ?_
        refine At.next ?_
        refine V.keep [(8, Value.bool (t1))] ⟨rfl, trivial⟩ ?_
        refine V.ret ?_
        refine At.thenRet ?_
        cases H
        exact At.ret1 rfl rfl ⟨_, rfl, rfl, HS⟩
      · replace H := ite_f c5 H
        refine W.want 35 rfl (sb (decide_eq_false c5)) ?_
        refine W.rd (X.move rfl) rfl rfl rfl ?_
        refine W.want 35 rfl (sb (decide_eq_false c5)) ?_
        refine W.rd (X.cmp (decide (a1 < 1)) rfl rfl rfl rfl) rfl rfl rfl ?_
        refine W.rd (X.pickF (sb (decide_eq_false c5)) rfl) rfl rfl rfl ?_
        refine W.rd (X.move rfl) rfl rfl rfl ?_
        by_cases c6 : a1 < 1
        · replace H := ite_t c6 H
          refine W.pass 39 rfl (sb (decide_eq_true c6)) rfl rfl ?_
          refine W.pass 39 rfl (sb (decide_eq_true c6)) rfl rfl ?_
          refine W.pass 39 rfl (sb (decide_eq_true c6)) rfl rfl ?_
          refine W.pass 39 rfl (sb (decide_eq_true c6)) rfl rfl ?_
          refine W.rd (X.pickT (sb (decide_eq_true c6)) rfl) rfl rfl rfl ?_
          refine W.rd (X.move rfl) rfl rfl rfl ?_
          refine W.pass 45 rfl rfl rfl rfl ?_
          refine W.pass 45 rfl rfl rfl rfl ?_
          refine W.rd (X.pickT rfl rfl) rfl rfl rfl ?_
          refine W.rd (X.move rfl) rfl rfl rfl ?_
          refine W.pass 49 rfl rfl rfl rfl ?_
          refine W.pass 49 rfl rfl rfl rfl ?_
          refine W.rd (X.pickT rfl rfl) rfl rfl rfl ?_
          refine W.rd (X.move rfl) rfl rfl rfl ?_
          refine W.pass 53 rfl rfl rfl rfl ?_
          refine W.pass 53 rfl rfl rfl rfl ?_
          refine W.pass 53 rfl rfl rfl rfl ?_
          refine W.rd (X.pickT rfl rfl) rfl rfl rfl ?_
          refine W.nil ?_
          refine At.next ?_
          refine V.keep [(0, Value.int .i64 (a0)), (1, Value.int .i64 (a1)), (2, Value.int .i64 (a2)), (3, Value.slice sa3 (a3).length sc3), (9, Value.bool (t1)), (57, Value.bool (true))] ⟨rfl, rfl, rfl, rfl, rfl, rfl, trivial⟩ ?_
          refine V.condT rfl ?_
          refine V.seq ?_
          refine V.region ?_
          refine W.rd (X.move rfl) rfl rfl rfl ?_
          refine W.rd (X.assign rfl) rfl rfl rfl ?_
          refine W.nil ?_
          refine At.next ?_
          refine V.keep [(8, Value.bool (t1))] ⟨rfl, trivial⟩ ?_
          refine V.ret ?_
          refine At.thenRet ?_
          cases H
          exact At.ret1 rfl rfl ⟨_, rfl, rfl, HS⟩
        · replace H := ite_f c6 H
          refine W.want 39 rfl (sb (decide_eq_false c6)) ?_
          refine W.rd (X.move rfl) rfl rfl rfl ?_
          refine W.want 39 rfl (sb (decide_eq_false c6)) ?_
          refine W.rd (X.move rfl) rfl rfl rfl ?_
          refine W.want 39 rfl (sb (decide_eq_false c6)) ?_
          refine W.rd (X.quo rfl rfl (by decide)) rfl rfl rfl ?_
          refine W.want 39 rfl (sb (decide_eq_false c6)) ?_
          refine W.rd (X.cmp (decide (a1 > (w64 ((a0).tdiv (8))))) rfl rfl rfl rfl) rfl rfl rfl ?_
          refine W.rd (X.pickF (sb (decide_eq_false c6)) rfl) rfl rfl rfl ?_
          refine W.rd (X.move rfl) rfl rfl rfl ?_
          by_cases c7 : a1 > (w64 ((a0).tdiv (8)))
          · replace H := ite_t c7 H
            refine W.pass 45 rfl (sb (decide_eq_true c7)) rfl rfl ?_
            refine W.pass 45 rfl (sb (decide_eq_true c7)) rfl rfl ?_
            refine W.rd (X.pickT (sb (decide_eq_true c7)) rfl) rfl rfl rfl ?_
            refine W.rd (X.move rfl) rfl rfl rfl ?_
            refine W.pass 49 rfl rfl rfl rfl ?_
            refine W.pass 49 rfl rfl rfl rfl ?_
            refine W.rd (X.pickT rfl rfl) rfl rfl rfl ?_
            refine W.rd (X.move rfl) rfl rfl rfl ?_
            refine W.pass 53 rfl rfl rfl rfl ?_
            refine W.pass 53 rfl rfl rfl rfl ?_
            refine W.pass 53 rfl rfl rfl rfl ?_
            refine W.rd (X.pickT rfl rfl) rfl rfl rfl ?_
            refine W.nil ?_
            refine At.next ?_
            refine V.keep [(0, Value.int .i64 (a0)), (1, Value.int .i64 (a1)), (2, Value.int .i64 (a2)), (3, Value.slice sa3 (a3).length sc3), (9, Value.bool (t1)), (57, Value.bool (true))] ⟨rfl, rfl, rfl, rfl, rfl, rfl, trivial⟩ ?_
            refine V.condT rfl ?_
            refine V.seq ?_
            refine V.region ?_
            refine W.rd (X.move rfl) rfl rfl rfl ?_
            refine W.rd (X.assign rfl) rfl rfl rfl ?_
            refine W.nil ?_
            refine At.next ?_
            refine V.keep [(8, Value.bool (t1))] ⟨rfl, trivial⟩ ?_
            refine V.ret ?_
            refine At.thenRet ?_
            cases H
            exact At.ret1 rfl rfl ⟨_, rfl, rfl, HS⟩
          · replace H := ite_f c7 H
            refine W.want 45 rfl (sb (decide_eq_false c7)) ?_
            refine W.rd (X.move rfl) rfl rfl rfl ?_
            refine W.want 45 rfl (sb (decide_eq_false c7)) ?_
            refine W.rd (X.cmp (decide (a2 < 0)) rfl rfl rfl rfl) rfl rfl rfl ?_
            refine W.rd (X.pickF (sb (decide_eq_false c7)) rfl) rfl rfl rfl ?_
            refine W.rd (X.move rfl) rfl rfl rfl ?_
            by_cases c8 : a2 < 0
            · replace H := ite_t c8 H
              refine W.pass 49 rfl (sb (decide_eq_true c8)) rfl rfl ?_
              refine W.pass 49 rfl (sb (decide_eq_true c8)) rfl rfl ?_
              refine W.rd (X.pickT (sb (decide_eq_true c8)) rfl) rfl rfl rfl ?_
              refine W.rd (X.move rfl) rfl rfl rfl ?_
              refine W.pass 53 rfl rfl rfl rfl ?_
              refine W.pass 53 rfl rfl rfl rfl ?_
              refine W.pass 53 rfl rfl rfl rfl ?_
              refine W.rd (X.pickT rfl rfl) rfl rfl rfl ?_
              refine W.nil ?_
              refine At.next ?_
              refine V.keep [(0, Value.int .i64 (a0)), (1, Value.int .i64 (a1)), (2, Value.int .i64 (a2)), (3, Value.slice sa3 (a3).length sc3), (9, Value.bool (t1)), (57, Value.bool (true))] ⟨rfl, rfl, rfl, rfl, rfl, rfl, trivial⟩ ?_
              refine V.condT rfl ?_
              refine V.seq ?_
              refine V.region ?_
              refine W.rd (X.move rfl) rfl rfl rfl ?_
              refine W.rd (X.assign rfl) rfl rfl rfl ?_
              refine W.nil ?_
              refine At.next ?_
              refine V.keep [(8, Value.bool (t1))] ⟨rfl, trivial⟩ ?_
              refine V.ret ?_
              refine At.thenRet ?_
              cases H
              exact At.ret1 rfl rfl ⟨_, rfl, rfl, HS⟩
            · replace H := ite_f c8 H
              refine W.want 49 rfl (sb (decide_eq_false c8)) ?_
              refine W.rd (X.move rfl) rfl rfl rfl ?_
              refine W.want 49 rfl (sb (decide_eq_false c8)) ?_
              refine W.rd (X.cmp (decide (a2 > 400)) rfl rfl rfl rfl) rfl rfl rfl ?_
              refine W.rd (X.pickF (sb (decide_eq_false c8)) rfl) rfl rfl rfl ?_
              refine W.rd (X.move rfl) rfl rfl rfl ?_
              by_cases c9 : a2 > 400
              · replace H := ite_t c9 H
                refine W.pass 53 rfl (sb (decide_eq_true c9)) rfl rfl ?_
                refine W.pass 53 rfl (sb (decide_eq_true c9)) rfl rfl ?_
                refine W.pass 53 rfl (sb (decide_eq_true c9)) rfl rfl ?_
                refine W.rd (X.pickT (sb (decide_eq_true c9)) rfl) rfl rfl rfl ?_
                refine W.nil ?_
                refine At.next ?_
                refine V.keep [(0, Value.int .i64 (a0)), (1, Value.int .i64 (a1)), (2, Value.int .i64 (a2)), (3, Value.slice sa3 (a3).length sc3), (9, Value.bool (t1)), (57, Value.bool (true))] ⟨rfl, rfl, rfl, rfl, rfl, rfl, trivial⟩ ?_
                refine V.condT rfl ?_
                refine V.seq ?_
                refine V.region ?_
                refine W.rd (X.move rfl) rfl rfl rfl ?_
                refine W.rd (X.assign rfl) rfl rfl rfl ?_
                refine W.nil ?_
                refine At.next ?_
                refine V.keep [(8, Value.bool (t1))] ⟨rfl, trivial⟩ ?_
                refine V.ret ?_
                refine At.thenRet ?_
                cases H
                exact At.ret1 rfl rfl ⟨_, rfl, rfl, HS⟩
              · replace H := ite_f c9 H
                refine W.want 53 rfl (sb (decide_eq_false c9)) ?_
                refine W.rd (X.move rfl) rfl rfl rfl ?_
                refine W.want 53 rfl (sb (decide_eq_false c9)) ?_
                refine W.rd (X.lenSl Try.underlying28 rfl) rfl rfl rfl ?_
                refine W.want 53 rfl (sb (decide_eq_false c9)) ?_
                refine W.rd (X.cmp (decide (((a3).length : Int) > 800)) rfl rfl rfl rfl) rfl rfl rfl ?_
                refine W.rd (X.pickF (sb (decide_eq_false c9)) rfl) rfl rfl rfl ?_
                refine W.nil ?_
                refine At.next ?_
                refine V.keep [(0, Value.int .i64 (a0)), (1, Value.int .i64 (a1)), (2, Value.int .i64 (a2)), (3, Value.slice sa3 (a3).length sc3), (9, Value.bool (t1)), (57, Value.bool (decide (((a3).length : Int) > 800)))] ⟨rfl, rfl, rfl, rfl, rfl, rfl, trivial⟩ ?_
                by_cases c10 : ((a3).length : Int) > 800
                · replace H := ite_t c10 H
                  refine V.condT (sb (decide_eq_true c10)) ?_
                  refine V.seq ?_
                  refine V.region ?_
                  refine W.rd (X.move rfl) rfl rfl rfl ?_
                  refine W.rd (X.assign rfl) rfl rfl rfl ?_
                  refine W.nil ?_
                  refine At.next ?_
                  refine V.keep [(8, Value.bool (t1))] ⟨rfl, trivial⟩ ?_
                  refine V.ret ?_
                  refine At.thenRet ?_
                  cases H
                  exact At.ret1 rfl rfl ⟨_, rfl, rfl, HS⟩
                · replace H := ite_f c10 H
                  refine V.condF (sb (decide_eq_false c10)) ?_
                  refine V.skip ?_
                  refine At.next ?_
                  refine V.keep [(0, Value.int .i64 (a0)), (1, Value.int .i64 (a1)), (2, Value.int .i64 (a2)), (3, Value.slice sa3 (a3).length sc3)] ⟨rfl, rfl, rfl, rfl, trivial⟩ ?_
                  refine V.seq ?_
                  refine V.region ?_
                  refine W.rd (X.move rfl) rfl rfl rfl ?_
                  refine W.rd (X.move rfl) rfl rfl rfl ?_
                  obtain ⟨t11, A12, H⟩ := bind_s H
                  refine W.ev (Y.call Try.func8 (by kernel_rfl) rfl (vs := [Value.int .i64 (a0), Value.int .i64 (a1)]) rfl (reorder_New.calls a0 a1 _ w0 _  t11  A12 (Sep.St.tailJoin (m := []) (r := [R]) HS))) rfl rfl rfl ?_
                  rintro _ w ⟨bt11_0, rfl, HS⟩
                  replace HS := Sep.St.tailOpen (m := [reorder_Order.at bt11_0 (t11)]) (r := [R]) HS
                  have HS : Sep.St [reorder_Order.at bt11_0 (t11), R] w0 w := HS
                  refine W.rd (X.assign rfl) rfl rfl rfl ?_
                  refine W.nil ?_
                  refine At.next ?_
                  refine V.keep [(0, Value.int .i64 (a0)), (1, Value.int .i64 (a1)), (2, Value.int .i64 (a2)), (3, Value.slice sa3 (a3).length sc3), (10, Value.pointer (some ⟨bt11_0, 0, none⟩))] ⟨rfl, rfl, rfl, rfl, rfl, trivial⟩ ?_
                  refine V.seq ?_
                  refine V.region ?_
                  refine W.rd (X.assign rfl) rfl rfl rfl ?_
                  refine W.nil ?_
                  refine At.next ?_
                  refine V.keep [(0, Value.int .i64 (a0)), (1, Value.int .i64 (a1)), (2, Value.int .i64 (a2)), (3, Value.slice sa3 (a3).length sc3), (10, Value.pointer (some ⟨bt11_0, 0, none⟩)), (11, Value.int .i64 (0))] ⟨rfl, rfl, rfl, rfl, rfl, rfl, trivial⟩ ?_
                  refine V.seq ?_
                  refine V.region ?_
                  refine W.rd (X.move rfl) rfl rfl rfl ?_
                  refine W.rd (X.add rfl rfl) rfl rfl rfl ?_
                  obtain ⟨c13, H⟩ := ite_n H
                  refine W.ev (Y.makeSl (g := Value.bool) (N := w64 (a2 + 1)) false Try.underlying29 ap4 rfl HS rfl rfl c13 (by decide)) rfl rfl rfl ?_
                  rintro _ w ⟨ra14, rc15, rfl, HS⟩
                  have HS : Sep.St [row 4 1 (.slice ra14 (List.replicate (w64 (a2 + 1)).toNat false).length rc15) (List.replicate (w64 (a2 + 1)).toNat false).length ((List.replicate (w64 (a2 + 1)).toNat false).map Value.bool), reorder_Order.at bt11_0 (t11), R] w0 w := HS
                  refine W.rd (X.assign rfl) rfl rfl rfl ?_
                  refine W.nil ?_
                  refine At.next ?_
                  refine V.keep [(0, Value.int .i64 (a0)), (1, Value.int .i64 (a1)), (2, Value.int .i64 (a2)), (3, Value.slice sa3 (a3).length sc3), (10, Value.pointer (some ⟨bt11_0, 0, none⟩)), (11, Value.int .i64 (0)), (12, Value.slice ra14 (List.replicate (w64 (a2 + 1)).toNat false).length rc15)] ⟨rfl, rfl, rfl, rfl, rfl, rfl, rfl, trivial⟩ ?_
                  refine V.seq ?_
                  refine V.seq ?_
                  refine V.region ?_
                  refine W.rd (X.assign rfl) rfl rfl rfl ?_
                  refine W.nil ?_
                  refine At.next ?_
                  refine V.keep [(0, Value.int .i64 (a0)), (1, Value.int .i64 (a1)), (2, Value.int .i64 (a2)), (3, Value.slice sa3 (a3).length sc3), (10, Value.pointer (some ⟨bt11_0, 0, none⟩)), (11, Value.int .i64 (0)), (12, Value.slice ra14 (List.replicate (w64 (a2 + 1)).toNat false).length rc15), (13, Value.int .i64 (0))] ⟨rfl, rfl, rfl, rfl, rfl, rfl, rfl, rfl, trivial⟩ ?_
                  refine V.block ?_
                  refine V.loop (σ := Int × Int × Option Addr × Nat × List Bool × reorder_Order) (fun kq (st : Int × Int × Option Addr × Nat × List Bool × reorder_Order) w => match st with | (x18, x19, ra20, rc21, x22, x23) => Sep.St [row 4 1 (.slice ra20 (x22).length rc21) (x22).length ((x22).map Value.bool), reorder_Order.at bt11_0 (x23), R] w0 w ∧ signalmanlaw14_ReorderSorts.l0 kq a0 a1 a2 a3 x18 x19 x22 x23 = some r ∧ kq ≤ k) (fun st => match st with | (x18, x19, ra20, rc21, x22, x23) => [(0, Value.int .i64 (a0)), (1, Value.int .i64 (a1)), (2, Value.int .i64 (a2)), (3, Value.slice sa3 (a3).length sc3), (10, Value.pointer (some ⟨bt11_0, 0, none⟩)), (11, Value.int .i64 (x18)), (12, Value.slice ra20 (x22).length rc21), (13, Value.int .i64 (x19))]) k (0, 0, ra14, rc15, List.replicate (w64 (a2 + 1)).toNat false, t11) ⟨rfl, rfl, rfl, rfl, rfl, rfl, rfl, rfl, trivial⟩ ⟨HS, H, Nat.le_refl _⟩ ?_
                  rintro kq24 ⟨x18, x19, ra20, rc21, x22, x23⟩ w ⟨HS, H, hk25⟩
                  cases kq24 with
                  | zero => exact absurd H (by simp [signalmanlaw14_ReorderSorts.l0])
                  | succ kq24 =>
                    simp only [signalmanlaw14_ReorderSorts.l0] at H
                    have HS : Sep.St [row 4 1 (.slice ra20 (x22).length rc21) (x22).length ((x22).map Value.bool), reorder_Order.at bt11_0 (x23), R] w0 w := HS
                    refine V.seq ?_
                    refine V.seq ?_
                    refine V.region ?_
                    refine W.rd (X.move rfl) rfl rfl rfl ?_
                    refine W.rd (X.move rfl) rfl rfl rfl ?_
                    refine W.rd (X.lenSl Try.underlying28 rfl) rfl rfl rfl ?_
                    refine W.rd (X.cmp (decide (x19 < ((a3).length : Int))) rfl rfl rfl rfl) rfl rfl rfl ?_
                    refine W.nil ?_
                    refine At.next ?_
                    refine V.keep [(0, Value.int .i64 (a0)), (1, Value.int .i64 (a1)), (2, Value.int .i64 (a2)), (3, Value.slice sa3 (a3).length sc3), (10, Value.pointer (some ⟨bt11_0, 0, none⟩)), (11, Value.int .i64 (x18)), (12, Value.slice ra20 (x22).length rc21), (13, Value.int .i64 (x19)), (68, Value.bool (decide (x19 < ((a3).length : Int))))] ⟨rfl, rfl, rfl, rfl, rfl, rfl, rfl, rfl, rfl, trivial⟩ ?_
                    by_cases c26 : x19 < ((a3).length : Int)
                    · replace H := ite_t c26 H
                      refine V.condT (sb (decide_eq_true c26)) ?_
                      refine V.skip ?_
                      refine At.next ?_
                      refine V.keep [(0, Value.int .i64 (a0)), (1, Value.int .i64 (a1)), (2, Value.int .i64 (a2)), (3, Value.slice sa3 (a3).length sc3), (10, Value.pointer (some ⟨bt11_0, 0, none⟩)), (11, Value.int .i64 (x18)), (12, Value.slice ra20 (x22).length rc21), (13, Value.int .i64 (x19))] ⟨rfl, rfl, rfl, rfl, rfl, rfl, rfl, rfl, trivial⟩ ?_
                      refine V.seq ?_
                      refine V.block ?_
                      refine V.seq ?_
                      refine V.region ?_
                      refine W.rd (X.move rfl) rfl rfl rfl ?_
                      refine W.rd (X.move rfl) rfl rfl rfl ?_
                      refine W.rd (X.move rfl) rfl rfl rfl ?_
                      obtain ⟨c27, H⟩ := ite_n H
                      obtain ⟨eb28, eo29, hh⟩ := ((rdC.at 2 hr3 HS rfl)).some (by decide) c27.1 c27.2; subst hh
                      refine W.rd (X.indexSl Try.underlying28 inf3 rfl rfl c27.1 c27.2) rfl rfl rfl ?_
                      refine W.rd (X.load Try.underlying3 rfl rfl (((rdC.at 2 hr3 HS rfl)).cellI c27.1 c27.2)) rfl rfl rfl ?_
                      refine W.rd (X.and rfl rfl) rfl rfl rfl ?_
                      refine W.rd (X.add rfl rfl) rfl rfl rfl ?_
                      refine W.rd (X.sub rfl rfl) rfl rfl rfl ?_
                      refine W.rd (X.assign rfl) rfl rfl rfl ?_
                      refine W.nil ?_
                      refine At.next ?_
                      refine V.keep [(0, Value.int .i64 (a0)), (1, Value.int .i64 (a1)), (2, Value.int .i64 (a2)), (3, Value.slice (some ⟨eb28, eo29, none⟩) (a3).length sc3), (10, Value.pointer (some ⟨bt11_0, 0, none⟩)), (11, Value.int .i64 (x18)), (12, Value.slice ra20 (x22).length rc21), (13, Value.int .i64 (x19)), (14, Value.int .i64 (w64 ((w64 (x18 + (iand .i64 ((a3).getD (x19).toNat 0) (15)))) - 3)))] ⟨rfl, rfl, rfl, rfl, rfl, rfl, rfl, rfl, rfl, trivial⟩ ?_
                      refine V.seq ?_
                      refine V.meet (σ := Int × Bool) (fun st w => match st with | (x30, x31) => Sep.St [row 4 1 (.slice ra20 (x22).length rc21) (x22).length ((x22).map Value.bool), reorder_Order.at bt11_0 (x23), R] w0 w ∧ ∃ kf32, kf32 ≤ kq24 ∧ signalmanlaw14_ReorderSorts.j1 kf32 a0 a2 x18 x19 x22 x23 (signalmanlaw14_ReorderSorts.l0 kf32 a0 a1 a2 a3) x30 x31 = some r) (fun st => match st with | (x30, x31) => [(0, Value.int .i64 (a0)), (1, Value.int .i64 (a1)), (2, Value.int .i64 (a2)), (3, Value.slice (some ⟨eb28, eo29, none⟩) (a3).length sc3), (10, Value.pointer (some ⟨bt11_0, 0, none⟩)), (11, Value.int .i64 (x18)), (12, Value.slice ra20 (x22).length rc21), (13, Value.int .i64 (x19)), (14, Value.int .i64 (x30)), (100, Value.bool (x31))]) ?_ ?_
                      · refine V.region ?_
                        refine W.rd (X.move rfl) rfl rfl rfl ?_
                        refine W.rd (X.cmp (decide ((w64 ((w64 (x18 + (iand .i64 ((a3).getD (x19).toNat 0) (15)))) - 3)) < 0)) rfl rfl rfl rfl) rfl rfl rfl ?_
                        refine W.rd (X.move rfl) rfl rfl rfl ?_
                        by_cases c72 : (w64 ((w64 (x18 + (iand .i64 ((a3).getD (x19).toNat 0) (15)))) - 3)) < 0
                        · replace H := ite_t c72 H
                          refine W.pass 81 rfl (sb (decide_eq_true c72)) rfl rfl ?_
                          refine W.pass 81 rfl (sb (decide_eq_true c72)) rfl rfl ?_
                          refine W.pass 81 rfl (sb (decide_eq_true c72)) rfl rfl ?_
                          refine W.rd (X.pickT (sb (decide_eq_true c72)) rfl) rfl rfl rfl ?_
                          refine W.rd (X.move rfl) rfl rfl rfl ?_
                          refine W.pass 86 rfl rfl rfl rfl ?_
                          refine W.pass 86 rfl rfl rfl rfl ?_
                          refine W.pass 86 rfl rfl rfl rfl ?_
                          refine W.pass 86 rfl rfl rfl rfl ?_
                          refine W.pass 86 rfl rfl rfl rfl ?_
                          refine W.rd (X.pickT rfl rfl) rfl rfl rfl ?_
                          refine W.rd (X.move rfl) rfl rfl rfl ?_
                          refine W.pass 93 rfl rfl rfl rfl ?_
                          refine W.pass 93 rfl rfl rfl rfl ?_
                          refine W.pass 93 rfl rfl rfl rfl ?_
                          refine W.pass 93 rfl rfl rfl rfl ?_
                          refine W.pass 93 rfl rfl rfl rfl ?_
                          refine W.pass 93 rfl rfl rfl rfl ?_
                          refine W.rd (X.pickT rfl rfl) rfl rfl rfl ?_
                          refine W.nil ?_
                          exact At.meet (w64 ((w64 (x18 + (iand .i64 ((a3).getD (x19).toNat 0) (15)))) - 3), true) ⟨rfl, rfl, rfl, rfl, rfl, rfl, rfl, rfl, rfl, rfl, trivial⟩ ⟨HS, kq24, by omega, H⟩
                        · replace H := ite_f c72 H
                          refine W.want 81 rfl (sb (decide_eq_false c72)) ?_
                          refine W.rd (X.move rfl) rfl rfl rfl ?_
                          refine W.want 81 rfl (sb (decide_eq_false c72)) ?_
                          refine W.rd (X.move rfl) rfl rfl rfl ?_
                          refine W.want 81 rfl (sb (decide_eq_false c72)) ?_
                          refine W.rd (X.cmp (decide ((w64 ((w64 (x18 + (iand .i64 ((a3).getD (x19).toNat 0) (15)))) - 3)) ≥ a2)) rfl rfl rfl rfl) rfl rfl rfl ?_
                          refine W.rd (X.pickF (sb (decide_eq_false c72)) rfl) rfl rfl rfl ?_
                          refine W.rd (X.move rfl) rfl rfl rfl ?_
                          by_cases c73 : (w64 ((w64 (x18 + (iand .i64 ((a3).getD (x19).toNat 0) (15)))) - 3)) ≥ a2
                          · replace H := ite_t c73 H
                            refine W.pass 86 rfl (sb (decide_eq_true c73)) rfl rfl ?_
                            refine W.pass 86 rfl (sb (decide_eq_true c73)) rfl rfl ?_
                            refine W.pass 86 rfl (sb (decide_eq_true c73)) rfl rfl ?_
                            refine W.pass 86 rfl (sb (decide_eq_true c73)) rfl rfl ?_
                            refine W.pass 86 rfl (sb (decide_eq_true c73)) rfl rfl ?_
                            refine W.rd (X.pickT (sb (decide_eq_true c73)) rfl) rfl rfl rfl ?_
                            refine W.rd (X.move rfl) rfl rfl rfl ?_
                            refine W.pass 93 rfl rfl rfl rfl ?_
                            refine W.pass 93 rfl rfl rfl rfl ?_
                            refine W.pass 93 rfl rfl rfl rfl ?_
                            refine W.pass 93 rfl rfl rfl rfl ?_
                            refine W.pass 93 rfl rfl rfl rfl ?_
                            refine W.pass 93 rfl rfl rfl rfl ?_
                            refine W.rd (X.pickT rfl rfl) rfl rfl rfl ?_
                            refine W.nil ?_
                            exact At.meet (w64 ((w64 (x18 + (iand .i64 ((a3).getD (x19).toNat 0) (15)))) - 3), true) ⟨rfl, rfl, rfl, rfl, rfl, rfl, rfl, rfl, rfl, rfl, trivial⟩ ⟨HS, kq24, by omega, H⟩
                          · replace H := ite_f c73 H
                            refine W.want 86 rfl (sb (decide_eq_false c73)) ?_
                            refine W.rd (X.move rfl) rfl rfl rfl ?_
                            refine W.want 86 rfl (sb (decide_eq_false c73)) ?_
                            refine W.rd (X.move rfl) rfl rfl rfl ?_
                            refine W.want 86 rfl (sb (decide_eq_false c73)) ?_
                            refine W.rd (X.move rfl) rfl rfl rfl ?_
                            refine W.want 86 rfl (sb (decide_eq_false c73)) ?_
                            refine W.rd (X.add rfl rfl) rfl rfl rfl ?_
                            refine W.want 86 rfl (sb (decide_eq_false c73)) ?_
                            refine W.rd (X.cmp (decide ((w64 ((w64 (x18 + (iand .i64 ((a3).getD (x19).toNat 0) (15)))) - 3)) ≥ (w64 (x18 + a1)))) rfl rfl rfl rfl) rfl rfl rfl ?_
                            refine W.rd (X.pickF (sb (decide_eq_false c73)) rfl) rfl rfl rfl ?_
                            refine W.rd (X.move rfl) rfl rfl rfl ?_
                            by_cases c74 : (w64 ((w64 (x18 + (iand .i64 ((a3).getD (x19).toNat 0) (15)))) - 3)) ≥ (w64 (x18 + a1))
                            · replace H := ite_t c74 H
                              refine W.pass 93 rfl (sb (decide_eq_true c74)) rfl rfl ?_
                              refine W.pass 93 rfl (sb (decide_eq_true c74)) rfl rfl ?_
                              refine W.pass 93 rfl (sb (decide_eq_true c74)) rfl rfl ?_
                              refine W.pass 93 rfl (sb (decide_eq_true c74)) rfl rfl ?_
                              refine W.pass 93 rfl (sb (decide_eq_true c74)) rfl rfl ?_
                              refine W.pass 93 rfl (sb (decide_eq_true c74)) rfl rfl ?_
                              refine W.rd (X.pickT (sb (decide_eq_true c74)) rfl) rfl rfl rfl ?_
                              refine W.nil ?_
                              exact At.meet (w64 ((w64 (x18 + (iand .i64 ((a3).getD (x19).toNat 0) (15)))) - 3), true) ⟨rfl, rfl, rfl, rfl, rfl, rfl, rfl, rfl, rfl, rfl, trivial⟩ ⟨HS, kq24, by omega, H⟩
                            · replace H := ite_f c74 H
                              refine W.want 93 rfl (sb (decide_eq_false c74)) ?_
                              refine W.rd (X.move rfl) rfl rfl rfl ?_
                              refine W.want 93 rfl (sb (decide_eq_false c74)) ?_
                              refine W.rd (X.move rfl) rfl rfl rfl ?_
                              refine W.want 93 rfl (sb (decide_eq_false c74)) ?_
                              refine W.rd (X.move rfl) rfl rfl rfl ?_
                              refine W.want 93 rfl (sb (decide_eq_false c74)) ?_
                              refine W.rd (X.quo rfl rfl (by decide)) rfl rfl rfl ?_
                              refine W.want 93 rfl (sb (decide_eq_false c74)) ?_
                              refine W.rd (X.sub rfl rfl) rfl rfl rfl ?_
                              refine W.want 93 rfl (sb (decide_eq_false c74)) ?_
                              refine W.rd (X.cmp (decide ((w64 ((w64 (x18 + (iand .i64 ((a3).getD (x19).toNat 0) (15)))) - 3)) < (w64 (x18 - (w64 ((a0).tdiv (2))))))) rfl rfl rfl rfl) rfl rfl rfl ?_
                              refine W.rd (X.pickF (sb (decide_eq_false c74)) rfl) rfl rfl rfl ?_
                              refine W.nil ?_
                              exact At.meet (w64 ((w64 (x18 + (iand .i64 ((a3).getD (x19).toNat 0) (15)))) - 3), decide ((w64 ((w64 (x18 + (iand .i64 ((a3).getD (x19).toNat 0) (15)))) - 3)) < (w64 (x18 - (w64 ((a0).tdiv (2))))))) ⟨rfl, rfl, rfl, rfl, rfl, rfl, rfl, rfl, rfl, rfl, trivial⟩ ⟨HS, kq24, by omega, H⟩
                      · rintro ⟨x30, x31⟩ w ⟨HS, kf32, hkkf32, H⟩
                        unfold signalmanlaw14_ReorderSorts.j1 at H
                        have HS : Sep.St [row 4 1 (.slice ra20 (x22).length rc21) (x22).length ((x22).map Value.bool), reorder_Order.at bt11_0 (x23), R] w0 w := HS
                        by_cases c34 : x31 = true
                        · replace H := ite_t c34 H
                          refine V.condT (sb c34) ?_
                          refine V.exit ?_
                          refine At.thenExit ?_
                          refine At.blockExit ?_
                          refine At.next ?_
                          refine V.keep [(0, Value.int .i64 (a0)), (1, Value.int .i64 (a1)), (2, Value.int .i64 (a2)), (3, Value.slice (some ⟨eb28, eo29, none⟩) (a3).length sc3), (10, Value.pointer (some ⟨bt11_0, 0, none⟩)), (11, Value.int .i64 (x18)), (12, Value.slice ra20 (x22).length rc21), (13, Value.int .i64 (x19))] ⟨rfl, rfl, rfl, rfl, rfl, rfl, rfl, rfl, trivial⟩ ?_
                          refine V.region ?_
                          refine W.rd (X.move rfl) rfl rfl rfl ?_
                          refine W.rd (X.add rfl rfl) rfl rfl rfl ?_
                          refine W.rd (X.assign rfl) rfl rfl rfl ?_
                          refine W.nil ?_
                          exact At.round kf32 (by omega) (x18, w64 (x19 + 1), ra20, rc21, x22, x23) ⟨rfl, rfl, rfl, rfl, rfl, rfl, rfl, rfl, trivial⟩ ⟨HS, H, by omega⟩
                        · replace H := ite_f c34 H
                          refine V.condF (sb (b_f c34)) ?_
                          refine V.skip ?_
                          refine At.next ?_
                          refine V.keep [(0, Value.int .i64 (a0)), (1, Value.int .i64 (a1)), (2, Value.int .i64 (a2)), (3, Value.slice (some ⟨eb28, eo29, none⟩) (a3).length sc3), (10, Value.pointer (some ⟨bt11_0, 0, none⟩)), (11, Value.int .i64 (x18)), (12, Value.slice ra20 (x22).length rc21), (13, Value.int .i64 (x19)), (14, Value.int .i64 (x30))] ⟨rfl, rfl, rfl, rfl, rfl, rfl, rfl, rfl, rfl, trivial⟩ ?_
                          refine V.seq ?_
                          refine V.region ?_
                          refine W.rd (X.move rfl) rfl rfl rfl ?_
                          refine W.rd (X.move rfl) rfl rfl rfl ?_
                          refine W.rd (X.move rfl) rfl rfl rfl ?_
                          obtain ⟨c35, H⟩ := ite_n H
                          refine W.rd (X.rem rfl rfl c35) rfl rfl rfl ?_
                          refine W.rd (X.move rfl) rfl rfl rfl ?_
                          refine W.rd (X.conv Try.underlying3 Try.underlying5 rfl) rfl rfl rfl ?_
                          refine W.rd (X.move rfl) rfl rfl rfl ?_
                          refine W.rd (X.shr rfl rfl (by decide)) rfl rfl rfl ?_
                          refine W.rd (X.conv Try.underlying3 Try.underlying5 rfl) rfl rfl rfl ?_
                          refine W.ev (Y.litB (e := 5) (sz := 1) (vs := #[(0, Value.int .u8 (IntKind.u8.wrap (x30))), (1, Value.int .u8 (IntKind.u8.wrap ((x30).fdiv (2 ^ (min ((8 : Int)).toNat IntKind.i64.bits)))))]) [Value.int .u8 (IntKind.u8.wrap (x30)), Value.int .u8 (IntKind.u8.wrap ((x30).fdiv (2 ^ (min ((8 : Int)).toNat IntKind.i64.bits))))] HS (fun a ha => by simp only [List.map_toArray, List.map_cons, List.map_nil]; rw [ha.ev (x := .tmp 106) (v := Value.int .u8 (IntKind.u8.wrap (x30))) rfl]; rw [ha.ev (x := .tmp 109) (v := Value.int .u8 (IntKind.u8.wrap ((x30).fdiv (2 ^ (min ((8 : Int)).toNat IntKind.i64.bits))))) rfl]; try rfl) rfl (by decide) (fun _ => by kernel_rfl)) rfl rfl rfl ?_
                          rintro _ w ⟨lb38, rfl, HS⟩
                          have HS : Sep.St [row 5 1 (.slice (some ⟨lb38, 0, none⟩) (([IntKind.u8.wrap (x30), IntKind.u8.wrap ((x30).fdiv (2 ^ (min ((8 : Int)).toNat IntKind.i64.bits)))] : List Int)).length 2) (([IntKind.u8.wrap (x30), IntKind.u8.wrap ((x30).fdiv (2 ^ (min ((8 : Int)).toNat IntKind.i64.bits)))] : List Int)).length ((([IntKind.u8.wrap (x30), IntKind.u8.wrap ((x30).fdiv (2 ^ (min ((8 : Int)).toNat IntKind.i64.bits)))] : List Int)).map (Value.int .u8)), row 4 1 (.slice ra20 (x22).length rc21) (x22).length ((x22).map Value.bool), reorder_Order.at bt11_0 (x23), R] w0 w := HS
                          obtain ⟨t39, A40, H⟩ := bind_s H
                          replace HS := HS.re [2, 0, 1, 3] (by kernel_rfl)
                          have HS : Sep.St [reorder_Order.at bt11_0 (x23), row 5 1 (.slice (some ⟨lb38, 0, none⟩) (([IntKind.u8.wrap (x30), IntKind.u8.wrap ((x30).fdiv (2 ^ (min ((8 : Int)).toNat IntKind.i64.bits)))] : List Int)).length 2) (([IntKind.u8.wrap (x30), IntKind.u8.wrap ((x30).fdiv (2 ^ (min ((8 : Int)).toNat IntKind.i64.bits)))] : List Int)).length ((([IntKind.u8.wrap (x30), IntKind.u8.wrap ((x30).fdiv (2 ^ (min ((8 : Int)).toNat IntKind.i64.bits)))] : List Int)).map (Value.int .u8)), row 4 1 (.slice ra20 (x22).length rc21) (x22).length ((x22).map Value.bool), R] w0 w := HS
                          refine W.ev (Y.call Try.func9 (by kernel_rfl) rfl (vs := [Value.pointer (some ⟨bt11_0, 0, none⟩), Value.int .i64 ((x30).tmod (a0)), Value.slice (some ⟨lb38, 0, none⟩) (([IntKind.u8.wrap (x30), IntKind.u8.wrap ((x30).fdiv (2 ^ (min ((8 : Int)).toNat IntKind.i64.bits)))] : List Int)).length 2]) rfl (reorder_Order_Put.calls kf32 x23 ((x30).tmod (a0)) ([IntKind.u8.wrap (x30), IntKind.u8.wrap ((x30).fdiv (2 ^ (min ((8 : Int)).toNat IntKind.i64.bits)))] : List Int) _ w0 _ bt11_0 (some ⟨lb38, 0, none⟩) 2 t39 (rdC.part 0 row_rd rfl) A40 (Sep.St.tailJoin (m := [reorder_Order.at bt11_0 (x23)]) (r := [row 5 1 (.slice (some ⟨lb38, 0, none⟩) (([IntKind.u8.wrap (x30), IntKind.u8.wrap ((x30).fdiv (2 ^ (min ((8 : Int)).toNat IntKind.i64.bits)))] : List Int)).length 2) (([IntKind.u8.wrap (x30), IntKind.u8.wrap ((x30).fdiv (2 ^ (min ((8 : Int)).toNat IntKind.i64.bits)))] : List Int)).length ((([IntKind.u8.wrap (x30), IntKind.u8.wrap ((x30).fdiv (2 ^ (min ((8 : Int)).toNat IntKind.i64.bits)))] : List Int)).map (Value.int .u8)), row 4 1 (.slice ra20 (x22).length rc21) (x22).length ((x22).map Value.bool), R]) HS))) rfl rfl rfl ?_
                          rintro _ w ⟨rfl, HS⟩
                          replace HS := Sep.St.tailOpen (m := [reorder_Order.at bt11_0 (t39.2)]) (r := [row 5 1 (.slice (some ⟨lb38, 0, none⟩) (([IntKind.u8.wrap (x30), IntKind.u8.wrap ((x30).fdiv (2 ^ (min ((8 : Int)).toNat IntKind.i64.bits)))] : List Int)).length 2) (([IntKind.u8.wrap (x30), IntKind.u8.wrap ((x30).fdiv (2 ^ (min ((8 : Int)).toNat IntKind.i64.bits)))] : List Int)).length ((([IntKind.u8.wrap (x30), IntKind.u8.wrap ((x30).fdiv (2 ^ (min ((8 : Int)).toNat IntKind.i64.bits)))] : List Int)).map (Value.int .u8)), row 4 1 (.slice ra20 (x22).length rc21) (x22).length ((x22).map Value.bool), R]) HS
                          have HS : Sep.St [reorder_Order.at bt11_0 (t39.2), row 5 1 (.slice (some ⟨lb38, 0, none⟩) (([IntKind.u8.wrap (x30), IntKind.u8.wrap ((x30).fdiv (2 ^ (min ((8 : Int)).toNat IntKind.i64.bits)))] : List Int)).length 2) (([IntKind.u8.wrap (x30), IntKind.u8.wrap ((x30).fdiv (2 ^ (min ((8 : Int)).toNat IntKind.i64.bits)))] : List Int)).length ((([IntKind.u8.wrap (x30), IntKind.u8.wrap ((x30).fdiv (2 ^ (min ((8 : Int)).toNat IntKind.i64.bits)))] : List Int)).map (Value.int .u8)), row 4 1 (.slice ra20 (x22).length rc21) (x22).length ((x22).map Value.bool), R] w0 w := HS
                          refine W.rd (X.assign rfl) rfl rfl rfl ?_
                          refine W.nil ?_
                          refine At.next ?_
                          refine V.keep [(0, Value.int .i64 (a0)), (1, Value.int .i64 (a1)), (2, Value.int .i64 (a2)), (3, Value.slice (some ⟨eb28, eo29, none⟩) (a3).length sc3), (10, Value.pointer (some ⟨bt11_0, 0, none⟩)), (11, Value.int .i64 (x18)), (12, Value.slice ra20 (x22).length rc21), (13, Value.int .i64 (x19)), (14, Value.int .i64 (x30)), (15, Value.int .i64 (t39.1))] ⟨rfl, rfl, rfl, rfl, rfl, rfl, rfl, rfl, rfl, rfl, trivial⟩ ?_
                          refine V.meet (σ := Bool) (fun st w => match st with | x42 => Sep.St [reorder_Order.at bt11_0 (t39.2), row 5 1 (.slice (some ⟨lb38, 0, none⟩) (([IntKind.u8.wrap (x30), IntKind.u8.wrap ((x30).fdiv (2 ^ (min ((8 : Int)).toNat IntKind.i64.bits)))] : List Int)).length 2) (([IntKind.u8.wrap (x30), IntKind.u8.wrap ((x30).fdiv (2 ^ (min ((8 : Int)).toNat IntKind.i64.bits)))] : List Int)).length ((([IntKind.u8.wrap (x30), IntKind.u8.wrap ((x30).fdiv (2 ^ (min ((8 : Int)).toNat IntKind.i64.bits)))] : List Int)).map (Value.int .u8)), row 4 1 (.slice ra20 (x22).length rc21) (x22).length ((x22).map Value.bool), R] w0 w ∧ ∃ kf43, kf43 ≤ kf32 ∧ signalmanlaw14_ReorderSorts.j2 kf43 a2 x18 x19 x22 x30 t39 (signalmanlaw14_ReorderSorts.l0 kf32 a0 a1 a2 a3) x42 = some r) (fun st => match st with | x42 => [(0, Value.int .i64 (a0)), (1, Value.int .i64 (a1)), (2, Value.int .i64 (a2)), (3, Value.slice (some ⟨eb28, eo29, none⟩) (a3).length sc3), (10, Value.pointer (some ⟨bt11_0, 0, none⟩)), (11, Value.int .i64 (x18)), (12, Value.slice ra20 (x22).length rc21), (13, Value.int .i64 (x19)), (14, Value.int .i64 (x30)), (15, Value.int .i64 (t39.1)), (16, Value.bool (x42))]) ?_ ?_
                          · refine V.region ?_
                            refine W.rd (X.move rfl) rfl rfl rfl ?_
                            refine W.rd (X.move rfl) rfl rfl rfl ?_
                            refine W.rd (X.cmp (decide (x30 ≥ x18)) rfl rfl rfl rfl) rfl rfl rfl ?_
                            refine W.rd (X.move rfl) rfl rfl rfl ?_
                            by_cases c68 : x30 ≥ x18
                            · replace H := ite_t c68 H
                              refine W.want 115 rfl (sb (decide_eq_true c68)) ?_
                              refine W.rd (X.move rfl) rfl rfl rfl ?_
                              refine W.want 115 rfl (sb (decide_eq_true c68)) ?_
                              refine W.rd (X.move rfl) rfl rfl rfl ?_
                              refine W.want 115 rfl (sb (decide_eq_true c68)) ?_
                              obtain ⟨c69, H⟩ := ite_n H
                              obtain ⟨eb70, eo71, hh⟩ := ((rdC.at 2 row_rd HS rfl)).some (by decide) c69.1 c69.2; subst hh
                              refine W.rd (X.indexSl Try.underlying29 inf4 rfl rfl c69.1 c69.2) rfl rfl rfl ?_
                              refine W.want 115 rfl (sb (decide_eq_true c68)) ?_
                              refine W.rd (X.load Try.underlying4 rfl rfl (((rdC.at 2 row_rd HS rfl)).cellB c69.1 c69.2)) rfl rfl rfl ?_
                              refine W.want 115 rfl (sb (decide_eq_true c68)) ?_
                              refine W.rd (X.not rfl) rfl rfl rfl ?_
                              refine W.rd (X.pickT (sb (decide_eq_true c68)) rfl) rfl rfl rfl ?_
                              refine W.rd (X.assign rfl) rfl rfl rfl ?_
                              refine W.nil ?_
                              exact At.meet (!((x22).getD (x30).toNat false)) ⟨rfl, rfl, rfl, rfl, rfl, rfl, rfl, rfl, rfl, rfl, rfl, trivial⟩ ⟨HS, kf32, by omega, H⟩
                            · replace H := ite_f c68 H
                              refine W.pass 115 rfl (sb (decide_eq_false c68)) rfl rfl ?_
                              refine W.pass 115 rfl (sb (decide_eq_false c68)) rfl rfl ?_
                              refine W.pass 115 rfl (sb (decide_eq_false c68)) rfl rfl ?_
                              refine W.pass 115 rfl (sb (decide_eq_false c68)) rfl rfl ?_
                              refine W.pass 115 rfl (sb (decide_eq_false c68)) rfl rfl ?_
                              refine W.rd (X.pickF (sb (decide_eq_false c68)) rfl) rfl rfl rfl ?_
                              refine W.rd (X.assign rfl) rfl rfl rfl ?_
                              refine W.nil ?_
                              exact At.meet (false) ⟨rfl, rfl, rfl, rfl, rfl, rfl, rfl, rfl, rfl, rfl, rfl, trivial⟩ ⟨HS, kf32, by omega, H⟩
                          · rintro x42 w ⟨HS, kf43, hkkf43, H⟩
                            unfold signalmanlaw14_ReorderSorts.j2 at H
                            have HS : Sep.St [reorder_Order.at bt11_0 (t39.2), row 5 1 (.slice (some ⟨lb38, 0, none⟩) (([IntKind.u8.wrap (x30), IntKind.u8.wrap ((x30).fdiv (2 ^ (min ((8 : Int)).toNat IntKind.i64.bits)))] : List Int)).length 2) (([IntKind.u8.wrap (x30), IntKind.u8.wrap ((x30).fdiv (2 ^ (min ((8 : Int)).toNat IntKind.i64.bits)))] : List Int)).length ((([IntKind.u8.wrap (x30), IntKind.u8.wrap ((x30).fdiv (2 ^ (min ((8 : Int)).toNat IntKind.i64.bits)))] : List Int)).map (Value.int .u8)), row 4 1 (.slice ra20 (x22).length rc21) (x22).length ((x22).map Value.bool), R] w0 w := HS
                            refine V.seq ?_
                            refine V.region ?_
                            refine W.rd (X.move rfl) rfl rfl rfl ?_
                            refine W.rd (X.move rfl) rfl rfl rfl ?_
                            obtain ⟨c45, H⟩ := ite_n H
                            obtain ⟨eb46, eo47, hh⟩ := ((rdC.at 2 row_rd HS rfl)).some (by decide) c45.1 c45.2; subst hh
                            refine W.rd (X.indexSl Try.underlying29 inf4 rfl rfl c45.1 c45.2) rfl rfl rfl ?_
                            refine W.ev_none (Y.storeRowF Value.bool (fun _ => rfl) 2 HS rfl inf4 rfl rfl c45.1 c45.2) rfl rfl ?_
                            rintro _ w HS
                            have HS : Sep.St [reorder_Order.at bt11_0 (t39.2), row 5 1 (.slice (some ⟨lb38, 0, none⟩) (([IntKind.u8.wrap (x30), IntKind.u8.wrap ((x30).fdiv (2 ^ (min ((8 : Int)).toNat IntKind.i64.bits)))] : List Int)).length 2) (([IntKind.u8.wrap (x30), IntKind.u8.wrap ((x30).fdiv (2 ^ (min ((8 : Int)).toNat IntKind.i64.bits)))] : List Int)).length ((([IntKind.u8.wrap (x30), IntKind.u8.wrap ((x30).fdiv (2 ^ (min ((8 : Int)).toNat IntKind.i64.bits)))] : List Int)).map (Value.int .u8)), row 4 1 (.slice (some ⟨eb46, eo47, none⟩) (x22.set (x30).toNat (true)).length rc21) (x22.set (x30).toNat (true)).length ((x22.set (x30).toNat (true)).map Value.bool), R] w0 w := HS
                            refine W.again 12 (v := Value.slice (some ⟨eb46, eo47, none⟩) (x22.set (x30).toNat (true)).length rc21) (by rw [List.length_set]; rfl) ?_
                            refine W.again 122 (v := Value.slice (some ⟨eb46, eo47, none⟩) (x22.set (x30).toNat (true)).length rc21) (by rw [List.length_set]; rfl) ?_
                            refine W.nil ?_
                            refine At.next ?_
                            refine V.keep [(0, Value.int .i64 (a0)), (1, Value.int .i64 (a1)), (2, Value.int .i64 (a2)), (3, Value.slice (some ⟨eb28, eo29, none⟩) (a3).length sc3), (10, Value.pointer (some ⟨bt11_0, 0, none⟩)), (11, Value.int .i64 (x18)), (12, Value.slice (some ⟨eb46, eo47, none⟩) (x22.set (x30).toNat (true)).length rc21), (13, Value.int .i64 (x19)), (14, Value.int .i64 (x30)), (15, Value.int .i64 (t39.1)), (16, Value.bool (x42))] ⟨rfl, rfl, rfl, rfl, rfl, rfl, rfl, rfl, rfl, rfl, rfl, trivial⟩ ?_
                            refine V.seq ?_
                            refine V.region ?_
                            refine W.rd (X.assign rfl) rfl rfl rfl ?_
                            refine W.nil ?_
                            refine At.next ?_
                            refine V.keep [(0, Value.int .i64 (a0)), (1, Value.int .i64 (a1)), (2, Value.int .i64 (a2)), (3, Value.slice (some ⟨eb28, eo29, none⟩) (a3).length sc3), (10, Value.pointer (some ⟨bt11_0, 0, none⟩)), (11, Value.int .i64 (x18)), (12, Value.slice (some ⟨eb46, eo47, none⟩) (x22.set (x30).toNat (true)).length rc21), (13, Value.int .i64 (x19)), (14, Value.int .i64 (x30)), (15, Value.int .i64 (t39.1)), (16, Value.bool (x42)), (17, Value.int .i64 (0))] ⟨rfl, rfl, rfl, rfl, rfl, rfl, rfl, rfl, rfl, rfl, rfl, rfl, trivial⟩ ?_
                            refine V.seq ?_
                            refine V.block ?_
                            refine V.loop (σ := Int × Int) (fun kq (st : Int × Int) w => match st with | (x48, x49) => Sep.St [reorder_Order.at bt11_0 (t39.2), row 5 1 (.slice (some ⟨lb38, 0, none⟩) (([IntKind.u8.wrap (x30), IntKind.u8.wrap ((x30).fdiv (2 ^ (min ((8 : Int)).toNat IntKind.i64.bits)))] : List Int)).length 2) (([IntKind.u8.wrap (x30), IntKind.u8.wrap ((x30).fdiv (2 ^ (min ((8 : Int)).toNat IntKind.i64.bits)))] : List Int)).length ((([IntKind.u8.wrap (x30), IntKind.u8.wrap ((x30).fdiv (2 ^ (min ((8 : Int)).toNat IntKind.i64.bits)))] : List Int)).map (Value.int .u8)), row 4 1 (.slice (some ⟨eb46, eo47, none⟩) (x22.set (x30).toNat (true)).length rc21) (x22.set (x30).toNat (true)).length ((x22.set (x30).toNat (true)).map Value.bool), R] w0 w ∧ signalmanlaw14_ReorderSorts.l3 kq a2 x19 x22 x30 t39 (signalmanlaw14_ReorderSorts.l0 kf32 a0 a1 a2 a3) x42 x48 x49 = some r ∧ kq ≤ kf43) (fun st => match st with | (x48, x49) => [(0, Value.int .i64 (a0)), (1, Value.int .i64 (a1)), (2, Value.int .i64 (a2)), (3, Value.slice (some ⟨eb28, eo29, none⟩) (a3).length sc3), (10, Value.pointer (some ⟨bt11_0, 0, none⟩)), (11, Value.int .i64 (x48)), (12, Value.slice (some ⟨eb46, eo47, none⟩) (x22.set (x30).toNat (true)).length rc21), (13, Value.int .i64 (x19)), (14, Value.int .i64 (x30)), (15, Value.int .i64 (t39.1)), (16, Value.bool (x42)), (17, Value.int .i64 (x49))]) kf43 (x18, 0) ⟨rfl, rfl, rfl, rfl, rfl, rfl, rfl, rfl, rfl, rfl, rfl, rfl, trivial⟩ ⟨HS, H, Nat.le_refl _⟩ ?_
                            rintro kq50 ⟨x48, x49⟩ w ⟨HS, H, hk51⟩
                            cases kq50 with
                            | zero => exact absurd H (by simp [signalmanlaw14_ReorderSorts.l3])
                            | succ kq50 =>
                              simp only [signalmanlaw14_ReorderSorts.l3] at H
                              have HS : Sep.St [reorder_Order.at bt11_0 (t39.2), row 5 1 (.slice (some ⟨lb38, 0, none⟩) (([IntKind.u8.wrap (x30), IntKind.u8.wrap ((x30).fdiv (2 ^ (min ((8 : Int)).toNat IntKind.i64.bits)))] : List Int)).length 2) (([IntKind.u8.wrap (x30), IntKind.u8.wrap ((x30).fdiv (2 ^ (min ((8 : Int)).toNat IntKind.i64.bits)))] : List Int)).length ((([IntKind.u8.wrap (x30), IntKind.u8.wrap ((x30).fdiv (2 ^ (min ((8 : Int)).toNat IntKind.i64.bits)))] : List Int)).map (Value.int .u8)), row 4 1 (.slice (some ⟨eb46, eo47, none⟩) (x22.set (x30).toNat (true)).length rc21) (x22.set (x30).toNat (true)).length ((x22.set (x30).toNat (true)).map Value.bool), R] w0 w := HS
                              refine V.seq ?_
                              refine V.meet (σ := Bool) (fun st w => match st with | x52 => Sep.St [reorder_Order.at bt11_0 (t39.2), row 5 1 (.slice (some ⟨lb38, 0, none⟩) (([IntKind.u8.wrap (x30), IntKind.u8.wrap ((x30).fdiv (2 ^ (min ((8 : Int)).toNat IntKind.i64.bits)))] : List Int)).length 2) (([IntKind.u8.wrap (x30), IntKind.u8.wrap ((x30).fdiv (2 ^ (min ((8 : Int)).toNat IntKind.i64.bits)))] : List Int)).length ((([IntKind.u8.wrap (x30), IntKind.u8.wrap ((x30).fdiv (2 ^ (min ((8 : Int)).toNat IntKind.i64.bits)))] : List Int)).map (Value.int .u8)), row 4 1 (.slice (some ⟨eb46, eo47, none⟩) (x22.set (x30).toNat (true)).length rc21) (x22.set (x30).toNat (true)).length ((x22.set (x30).toNat (true)).map Value.bool), R] w0 w ∧ ∃ kf53, kf53 ≤ kq50 ∧ signalmanlaw14_ReorderSorts.j4 x19 x22 x30 t39 x42 x48 x49 (signalmanlaw14_ReorderSorts.l0 kf32 a0 a1 a2 a3) (signalmanlaw14_ReorderSorts.l3 kf53 a2 x19 x22 x30 t39 (signalmanlaw14_ReorderSorts.l0 kf32 a0 a1 a2 a3) x42) x52 = some r) (fun st => match st with | x52 => [(0, Value.int .i64 (a0)), (1, Value.int .i64 (a1)), (2, Value.int .i64 (a2)), (3, Value.slice (some ⟨eb28, eo29, none⟩) (a3).length sc3), (10, Value.pointer (some ⟨bt11_0, 0, none⟩)), (11, Value.int .i64 (x48)), (12, Value.slice (some ⟨eb46, eo47, none⟩) (x22.set (x30).toNat (true)).length rc21), (13, Value.int .i64 (x19)), (14, Value.int .i64 (x30)), (15, Value.int .i64 (t39.1)), (16, Value.bool (x42)), (17, Value.int .i64 (x49)), (133, Value.bool (x52))]) ?_ ?_
                              · refine V.region ?_
                                refine W.rd (X.move rfl) rfl rfl rfl ?_
                                refine W.rd (X.move rfl) rfl rfl rfl ?_
                                refine W.rd (X.cmp (decide (x48 < a2)) rfl rfl rfl rfl) rfl rfl rfl ?_
                                refine W.rd (X.move rfl) rfl rfl rfl ?_
                                by_cases c66 : x48 < a2
                                · replace H := ite_t c66 H
                                  refine W.want 128 rfl (sb (decide_eq_true c66)) ?_
                                  refine W.rd (X.move rfl) rfl rfl rfl ?_
                                  refine W.want 128 rfl (sb (decide_eq_true c66)) ?_
                                  refine W.rd (X.move rfl) rfl rfl rfl ?_
                                  refine W.want 128 rfl (sb (decide_eq_true c66)) ?_
                                  obtain ⟨c67, H⟩ := ite_n H
                                  refine W.rd (X.indexSl Try.underlying29 inf4 rfl rfl c67.1 c67.2) rfl rfl rfl ?_
                                  refine W.want 128 rfl (sb (decide_eq_true c66)) ?_
                                  refine W.rd (X.load Try.underlying4 rfl rfl (((rdC.at 2 row_rd HS rfl)).cellB c67.1 c67.2)) rfl rfl rfl ?_
                                  refine W.rd (X.pickT (sb (decide_eq_true c66)) rfl) rfl rfl rfl ?_
                                  refine W.nil ?_
                                  exact At.meet ((x22.set (x30).toNat (true)).getD (x48).toNat false) ⟨rfl, rfl, rfl, rfl, rfl, rfl, rfl, rfl, rfl, rfl, rfl, rfl, rfl, trivial⟩ ⟨HS, kq50, by omega, H⟩
                                · replace H := ite_f c66 H
                                  refine W.pass 128 rfl (sb (decide_eq_false c66)) rfl rfl ?_
                                  refine W.pass 128 rfl (sb (decide_eq_false c66)) rfl rfl ?_
                                  refine W.pass 128 rfl (sb (decide_eq_false c66)) rfl rfl ?_
                                  refine W.pass 128 rfl (sb (decide_eq_false c66)) rfl rfl ?_
                                  refine W.rd (X.pickF (sb (decide_eq_false c66)) rfl) rfl rfl rfl ?_
                                  refine W.nil ?_
                                  exact At.meet (false) ⟨rfl, rfl, rfl, rfl, rfl, rfl, rfl, rfl, rfl, rfl, rfl, rfl, rfl, trivial⟩ ⟨HS, kq50, by omega, H⟩
                              · rintro x52 w ⟨HS, kf53, hkkf53, H⟩
                                unfold signalmanlaw14_ReorderSorts.j4 at H
                                have HS : Sep.St [reorder_Order.at bt11_0 (t39.2), row 5 1 (.slice (some ⟨lb38, 0, none⟩) (([IntKind.u8.wrap (x30), IntKind.u8.wrap ((x30).fdiv (2 ^ (min ((8 : Int)).toNat IntKind.i64.bits)))] : List Int)).length 2) (([IntKind.u8.wrap (x30), IntKind.u8.wrap ((x30).fdiv (2 ^ (min ((8 : Int)).toNat IntKind.i64.bits)))] : List Int)).length ((([IntKind.u8.wrap (x30), IntKind.u8.wrap ((x30).fdiv (2 ^ (min ((8 : Int)).toNat IntKind.i64.bits)))] : List Int)).map (Value.int .u8)), row 4 1 (.slice (some ⟨eb46, eo47, none⟩) (x22.set (x30).toNat (true)).length rc21) (x22.set (x30).toNat (true)).length ((x22.set (x30).toNat (true)).map Value.bool), R] w0 w := HS
                                by_cases c56 : x52 = true
                                · replace H := ite_t c56 H
                                  refine V.condT (sb c56) ?_
                                  refine V.skip ?_
                                  refine At.next ?_
                                  refine V.keep [(0, Value.int .i64 (a0)), (1, Value.int .i64 (a1)), (2, Value.int .i64 (a2)), (3, Value.slice (some ⟨eb28, eo29, none⟩) (a3).length sc3), (10, Value.pointer (some ⟨bt11_0, 0, none⟩)), (11, Value.int .i64 (x48)), (12, Value.slice (some ⟨eb46, eo47, none⟩) (x22.set (x30).toNat (true)).length rc21), (13, Value.int .i64 (x19)), (14, Value.int .i64 (x30)), (15, Value.int .i64 (t39.1)), (16, Value.bool (x42)), (17, Value.int .i64 (x49))] ⟨rfl, rfl, rfl, rfl, rfl, rfl, rfl, rfl, rfl, rfl, rfl, rfl, trivial⟩ ?_
                                  refine V.block ?_
                                  refine V.seq ?_
                                  refine V.region ?_
                                  refine W.rd (X.move rfl) rfl rfl rfl ?_
                                  refine W.rd (X.add rfl rfl) rfl rfl rfl ?_
                                  refine W.rd (X.assign rfl) rfl rfl rfl ?_
                                  refine W.nil ?_
                                  refine At.next ?_
                                  refine V.keep [(0, Value.int .i64 (a0)), (1, Value.int .i64 (a1)), (2, Value.int .i64 (a2)), (3, Value.slice (some ⟨eb28, eo29, none⟩) (a3).length sc3), (10, Value.pointer (some ⟨bt11_0, 0, none⟩)), (11, Value.int .i64 (w64 (x48 + 1))), (12, Value.slice (some ⟨eb46, eo47, none⟩) (x22.set (x30).toNat (true)).length rc21), (13, Value.int .i64 (x19)), (14, Value.int .i64 (x30)), (15, Value.int .i64 (t39.1)), (16, Value.bool (x42)), (17, Value.int .i64 (x49))] ⟨rfl, rfl, rfl, rfl, rfl, rfl, rfl, rfl, rfl, rfl, rfl, rfl, trivial⟩ ?_
                                  refine V.region ?_
                                  refine W.rd (X.move rfl) rfl rfl rfl ?_
                                  refine W.rd (X.add rfl rfl) rfl rfl rfl ?_
                                  refine W.rd (X.assign rfl) rfl rfl rfl ?_
                                  refine W.nil ?_
                                  refine At.blockEnd ?_
                                  exact At.round kf53 (by omega) (w64 (x48 + 1), w64 (x49 + 1)) ⟨rfl, rfl, rfl, rfl, rfl, rfl, rfl, rfl, rfl, rfl, rfl, rfl, trivial⟩ ⟨HS, H, by omega⟩
                                · replace H := ite_f c56 H
                                  refine V.condF (sb (b_f c56)) ?_
                                  refine V.exit ?_
                                  refine At.thenExit ?_
                                  refine At.thenExit ?_
                                  refine At.blockExit ?_
                                  refine At.next ?_
                                  refine V.keep [(0, Value.int .i64 (a0)), (1, Value.int .i64 (a1)), (2, Value.int .i64 (a2)), (3, Value.slice (some ⟨eb28, eo29, none⟩) (a3).length sc3), (10, Value.pointer (some ⟨bt11_0, 0, none⟩)), (11, Value.int .i64 (x48)), (12, Value.slice (some ⟨eb46, eo47, none⟩) (x22.set (x30).toNat (true)).length rc21), (13, Value.int .i64 (x19)), (14, Value.int .i64 (x30)), (15, Value.int .i64 (t39.1)), (16, Value.bool (x42)), (17, Value.int .i64 (x49))] ⟨rfl, rfl, rfl, rfl, rfl, rfl, rfl, rfl, rfl, rfl, rfl, rfl, trivial⟩ ?_
                                  refine V.seq ?_
                                  refine V.region ?_
                                  refine W.rd (X.move rfl) rfl rfl rfl ?_
                                  refine W.rd (X.assign rfl) rfl rfl rfl ?_
                                  refine W.nil ?_
                                  refine At.next ?_
                                  refine V.keep [(0, Value.int .i64 (a0)), (1, Value.int .i64 (a1)), (2, Value.int .i64 (a2)), (3, Value.slice (some ⟨eb28, eo29, none⟩) (a3).length sc3), (10, Value.pointer (some ⟨bt11_0, 0, none⟩)), (11, Value.int .i64 (x48)), (12, Value.slice (some ⟨eb46, eo47, none⟩) (x22.set (x30).toNat (true)).length rc21), (13, Value.int .i64 (x19)), (14, Value.int .i64 (x30)), (15, Value.int .i64 (t39.1)), (16, Value.bool (x42)), (17, Value.int .i64 (x49)), (18, Value.int .i64 (x49))] ⟨rfl, rfl, rfl, rfl, rfl, rfl, rfl, rfl, rfl, rfl, rfl, rfl, rfl, trivial⟩ ?_
                                  refine V.meet (σ := Int) (fun st w => match st with | x57 => Sep.St [reorder_Order.at bt11_0 (t39.2), row 5 1 (.slice (some ⟨lb38, 0, none⟩) (([IntKind.u8.wrap (x30), IntKind.u8.wrap ((x30).fdiv (2 ^ (min ((8 : Int)).toNat IntKind.i64.bits)))] : List Int)).length 2) (([IntKind.u8.wrap (x30), IntKind.u8.wrap ((x30).fdiv (2 ^ (min ((8 : Int)).toNat IntKind.i64.bits)))] : List Int)).length ((([IntKind.u8.wrap (x30), IntKind.u8.wrap ((x30).fdiv (2 ^ (min ((8 : Int)).toNat IntKind.i64.bits)))] : List Int)).map (Value.int .u8)), row 4 1 (.slice (some ⟨eb46, eo47, none⟩) (x22.set (x30).toNat (true)).length rc21) (x22.set (x30).toNat (true)).length ((x22.set (x30).toNat (true)).map Value.bool), R] w0 w ∧ ∃ kf58, kf58 ≤ kf53 ∧ signalmanlaw14_ReorderSorts.j5 x19 x22 x30 t39 x48 x49 (signalmanlaw14_ReorderSorts.l0 kf32 a0 a1 a2 a3) x57 = some r) (fun st => match st with | x57 => [(0, Value.int .i64 (a0)), (1, Value.int .i64 (a1)), (2, Value.int .i64 (a2)), (3, Value.slice (some ⟨eb28, eo29, none⟩) (a3).length sc3), (10, Value.pointer (some ⟨bt11_0, 0, none⟩)), (11, Value.int .i64 (x48)), (12, Value.slice (some ⟨eb46, eo47, none⟩) (x22.set (x30).toNat (true)).length rc21), (13, Value.int .i64 (x19)), (14, Value.int .i64 (x30)), (15, Value.int .i64 (t39.1)), (17, Value.int .i64 (x49)), (18, Value.int .i64 (x57))]) ?_ ?_
                                  · refine V.seq ?_
                                    refine V.region ?_
                                    refine W.rd (X.move rfl) rfl rfl rfl ?_
                                    refine W.rd (X.not rfl) rfl rfl rfl ?_
                                    refine W.nil ?_
                                    refine At.next ?_
                                    refine V.keep [(0, Value.int .i64 (a0)), (1, Value.int .i64 (a1)), (2, Value.int .i64 (a2)), (3, Value.slice (some ⟨eb28, eo29, none⟩) (a3).length sc3), (10, Value.pointer (some ⟨bt11_0, 0, none⟩)), (11, Value.int .i64 (x48)), (12, Value.slice (some ⟨eb46, eo47, none⟩) (x22.set (x30).toNat (true)).length rc21), (13, Value.int .i64 (x19)), (14, Value.int .i64 (x30)), (15, Value.int .i64 (t39.1)), (17, Value.int .i64 (x49)), (18, Value.int .i64 (x49)), (140, Value.bool (!(x42)))] ⟨rfl, rfl, rfl, rfl, rfl, rfl, rfl, rfl, rfl, rfl, rfl, rfl, rfl, trivial⟩ ?_
                                    by_cases c65 : x42 = true
                                    · replace H := ite_t c65 H
                                      refine V.condF (sb (n_t c65)) ?_
                                      refine V.skip ?_
                                      exact At.meet (x49) ⟨rfl, rfl, rfl, rfl, rfl, rfl, rfl, rfl, rfl, rfl, rfl, rfl, trivial⟩ ⟨HS, kf53, by omega, H⟩
                                    · replace H := ite_f c65 H
                                      refine V.condT (sb (n_f (b_f c65))) ?_
                                      refine V.region ?_
                                      refine W.rd (X.assign rfl) rfl rfl rfl ?_
                                      refine W.nil ?_
                                      exact At.meet (0) ⟨rfl, rfl, rfl, rfl, rfl, rfl, rfl, rfl, rfl, rfl, rfl, rfl, trivial⟩ ⟨HS, kf53, by omega, H⟩
                                  · rintro x57 w ⟨HS, kf58, hkkf58, H⟩
                                    unfold signalmanlaw14_ReorderSorts.j5 at H
                                    have HS : Sep.St [reorder_Order.at bt11_0 (t39.2), row 5 1 (.slice (some ⟨lb38, 0, none⟩) (([IntKind.u8.wrap (x30), IntKind.u8.wrap ((x30).fdiv (2 ^ (min ((8 : Int)).toNat IntKind.i64.bits)))] : List Int)).length 2) (([IntKind.u8.wrap (x30), IntKind.u8.wrap ((x30).fdiv (2 ^ (min ((8 : Int)).toNat IntKind.i64.bits)))] : List Int)).length ((([IntKind.u8.wrap (x30), IntKind.u8.wrap ((x30).fdiv (2 ^ (min ((8 : Int)).toNat IntKind.i64.bits)))] : List Int)).map (Value.int .u8)), row 4 1 (.slice (some ⟨eb46, eo47, none⟩) (x22.set (x30).toNat (true)).length rc21) (x22.set (x30).toNat (true)).length ((x22.set (x30).toNat (true)).map Value.bool), R] w0 w := HS
                                    refine V.meet (σ := Int) (fun st w => match st with | x60 => Sep.St [reorder_Order.at bt11_0 (t39.2), row 5 1 (.slice (some ⟨lb38, 0, none⟩) (([IntKind.u8.wrap (x30), IntKind.u8.wrap ((x30).fdiv (2 ^ (min ((8 : Int)).toNat IntKind.i64.bits)))] : List Int)).length 2) (([IntKind.u8.wrap (x30), IntKind.u8.wrap ((x30).fdiv (2 ^ (min ((8 : Int)).toNat IntKind.i64.bits)))] : List Int)).length ((([IntKind.u8.wrap (x30), IntKind.u8.wrap ((x30).fdiv (2 ^ (min ((8 : Int)).toNat IntKind.i64.bits)))] : List Int)).map (Value.int .u8)), row 4 1 (.slice (some ⟨eb46, eo47, none⟩) (x22.set (x30).toNat (true)).length rc21) (x22.set (x30).toNat (true)).length ((x22.set (x30).toNat (true)).map Value.bool), R] w0 w ∧ ∃ kf61, kf61 ≤ kf58 ∧ signalmanlaw14_ReorderSorts.j6 x19 x22 x30 t39 x48 (signalmanlaw14_ReorderSorts.l0 kf32 a0 a1 a2 a3) x60 = some r) (fun st => match st with | x60 => [(0, Value.int .i64 (a0)), (1, Value.int .i64 (a1)), (2, Value.int .i64 (a2)), (3, Value.slice (some ⟨eb28, eo29, none⟩) (a3).length sc3), (10, Value.pointer (some ⟨bt11_0, 0, none⟩)), (11, Value.int .i64 (x48)), (12, Value.slice (some ⟨eb46, eo47, none⟩) (x22.set (x30).toNat (true)).length rc21), (13, Value.int .i64 (x19)), (15, Value.int .i64 (t39.1)), (18, Value.int .i64 (x60))]) ?_ ?_
                                    · refine V.seq ?_
                                      refine V.region ?_
                                      refine W.rd (X.move rfl) rfl rfl rfl ?_
                                      refine W.rd (X.move rfl) rfl rfl rfl ?_
                                      refine W.rd (X.move rfl) rfl rfl rfl ?_
                                      refine W.rd (X.sub rfl rfl) rfl rfl rfl ?_
                                      refine W.rd (X.cmp (decide (x30 < (w64 (x48 - x49)))) rfl rfl rfl rfl) rfl rfl rfl ?_
                                      refine W.nil ?_
                                      refine At.next ?_
                                      refine V.keep [(0, Value.int .i64 (a0)), (1, Value.int .i64 (a1)), (2, Value.int .i64 (a2)), (3, Value.slice (some ⟨eb28, eo29, none⟩) (a3).length sc3), (10, Value.pointer (some ⟨bt11_0, 0, none⟩)), (11, Value.int .i64 (x48)), (12, Value.slice (some ⟨eb46, eo47, none⟩) (x22.set (x30).toNat (true)).length rc21), (13, Value.int .i64 (x19)), (15, Value.int .i64 (t39.1)), (18, Value.int .i64 (x57)), (145, Value.bool (decide (x30 < (w64 (x48 - x49)))))] ⟨rfl, rfl, rfl, rfl, rfl, rfl, rfl, rfl, rfl, rfl, rfl, trivial⟩ ?_
                                      by_cases c64 : x30 < (w64 (x48 - x49))
                                      · replace H := ite_t c64 H
                                        refine V.condT (sb (decide_eq_true c64)) ?_
                                        refine V.region ?_
                                        refine W.rd (X.assign rfl) rfl rfl rfl ?_
                                        refine W.nil ?_
                                        exact At.meet ((-1)) ⟨rfl, rfl, rfl, rfl, rfl, rfl, rfl, rfl, rfl, rfl, trivial⟩ ⟨HS, kf58, by omega, H⟩
                                      · replace H := ite_f c64 H
                                        refine V.condF (sb (decide_eq_false c64)) ?_
                                        refine V.skip ?_
                                        exact At.meet (x57) ⟨rfl, rfl, rfl, rfl, rfl, rfl, rfl, rfl, rfl, rfl, trivial⟩ ⟨HS, kf58, by omega, H⟩
                                    · rintro x60 w ⟨HS, kf61, hkkf61, H⟩
                                      unfold signalmanlaw14_ReorderSorts.j6 at H
                                      have HS : Sep.St [reorder_Order.at bt11_0 (t39.2), row 5 1 (.slice (some ⟨lb38, 0, none⟩) (([IntKind.u8.wrap (x30), IntKind.u8.wrap ((x30).fdiv (2 ^ (min ((8 : Int)).toNat IntKind.i64.bits)))] : List Int)).length 2) (([IntKind.u8.wrap (x30), IntKind.u8.wrap ((x30).fdiv (2 ^ (min ((8 : Int)).toNat IntKind.i64.bits)))] : List Int)).length ((([IntKind.u8.wrap (x30), IntKind.u8.wrap ((x30).fdiv (2 ^ (min ((8 : Int)).toNat IntKind.i64.bits)))] : List Int)).map (Value.int .u8)), row 4 1 (.slice (some ⟨eb46, eo47, none⟩) (x22.set (x30).toNat (true)).length rc21) (x22.set (x30).toNat (true)).length ((x22.set (x30).toNat (true)).map Value.bool), R] w0 w := HS
                                      refine V.seq ?_
                                      refine V.region ?_
                                      refine W.rd (X.move rfl) rfl rfl rfl ?_
                                      refine W.rd (X.move rfl) rfl rfl rfl ?_
                                      refine W.rd (X.cmp (!(decide (t39.1 = x60))) rfl rfl rfl rfl) rfl rfl rfl ?_
                                      refine W.nil ?_
                                      refine At.next ?_
                                      refine V.keep [(0, Value.int .i64 (a0)), (1, Value.int .i64 (a1)), (2, Value.int .i64 (a2)), (3, Value.slice (some ⟨eb28, eo29, none⟩) (a3).length sc3), (10, Value.pointer (some ⟨bt11_0, 0, none⟩)), (11, Value.int .i64 (x48)), (12, Value.slice (some ⟨eb46, eo47, none⟩) (x22.set (x30).toNat (true)).length rc21), (13, Value.int .i64 (x19)), (148, Value.bool (!(decide (t39.1 = x60))))] ⟨rfl, rfl, rfl, rfl, rfl, rfl, rfl, rfl, rfl, trivial⟩ ?_
                                      by_cases c63 : t39.1 = x60
                                      · replace H := ite_t c63 H
                                        refine V.condF (sb (n_t (decide_eq_true c63))) ?_
                                        refine V.skip ?_
                                        refine At.blockEnd ?_
                                        refine At.next ?_
                                        refine V.keep [(0, Value.int .i64 (a0)), (1, Value.int .i64 (a1)), (2, Value.int .i64 (a2)), (3, Value.slice (some ⟨eb28, eo29, none⟩) (a3).length sc3), (10, Value.pointer (some ⟨bt11_0, 0, none⟩)), (11, Value.int .i64 (x48)), (12, Value.slice (some ⟨eb46, eo47, none⟩) (x22.set (x30).toNat (true)).length rc21), (13, Value.int .i64 (x19))] ⟨rfl, rfl, rfl, rfl, rfl, rfl, rfl, rfl, trivial⟩ ?_
                                        refine V.region ?_
                                        refine W.rd (X.move rfl) rfl rfl rfl ?_
                                        refine W.rd (X.add rfl rfl) rfl rfl rfl ?_
                                        refine W.rd (X.assign rfl) rfl rfl rfl ?_
                                        refine W.nil ?_
                                        replace HS := HS.sel [2, 0, 3] [1] (by kernel_rfl)
                                        exact At.round kf32 (by omega) (x48, w64 (x19 + 1), (some ⟨eb46, eo47, none⟩), rc21, x22.set (x30).toNat (true), t39.2) ⟨rfl, rfl, rfl, rfl, rfl, rfl, rfl, rfl, trivial⟩ ⟨HS, H, by omega⟩
                                      · replace H := ite_f c63 H
                                        refine V.condT (sb (n_f (decide_eq_false c63))) ?_
                                        refine V.seq ?_
                                        refine V.region ?_
                                        refine W.rd (X.assign rfl) rfl rfl rfl ?_
                                        refine W.nil ?_
                                        refine At.next ?_
                                        refine V.keep [(8, Value.bool (false))] ⟨rfl, trivial⟩ ?_
                                        refine V.ret ?_
                                        refine At.blockRet ?_
                                        refine At.thenRet ?_
                                        refine At.thenRet ?_
                                        refine At.blockRet ?_
                                        refine At.thenRet ?_
                                        replace HS := HS.sel [3] [0, 1, 2] (by kernel_rfl)
                                        cases H
                                        exact At.ret1 rfl rfl ⟨_, rfl, rfl, HS⟩
                    · replace H := ite_f c26 H
                      refine V.condF (sb (decide_eq_false c26)) ?_
                      refine V.exit ?_
                      refine At.thenExit ?_
                      refine At.thenExit ?_
                      refine At.blockExit ?_
                      refine At.next ?_
                      refine V.keep [(0, Value.int .i64 (a0)), (10, Value.pointer (some ⟨bt11_0, 0, none⟩)), (11, Value.int .i64 (x18))] ⟨rfl, rfl, rfl, trivial⟩ ?_
                      refine V.seq ?_
                      refine V.seq ?_
                      refine V.region ?_
                      refine W.rd (X.assign rfl) rfl rfl rfl ?_
                      refine W.nil ?_
                      refine At.next ?_
                      refine V.keep [(0, Value.int .i64 (a0)), (10, Value.pointer (some ⟨bt11_0, 0, none⟩)), (11, Value.int .i64 (x18)), (19, Value.int .i64 (0))] ⟨rfl, rfl, rfl, rfl, trivial⟩ ?_
                      refine V.block ?_
                      refine V.loop (σ := Int × reorder_Order) (fun kq (st : Int × reorder_Order) w => match st with | (x75, x76) => Sep.St [row 4 1 (.slice ra20 (x22).length rc21) (x22).length ((x22).map Value.bool), reorder_Order.at bt11_0 (x76), R] w0 w ∧ signalmanlaw14_ReorderSorts.l7 kq a0 x18 x75 x76 = some r ∧ kq ≤ kq24) (fun st => match st with | (x75, x76) => [(0, Value.int .i64 (a0)), (10, Value.pointer (some ⟨bt11_0, 0, none⟩)), (11, Value.int .i64 (x18)), (19, Value.int .i64 (x75))]) kq24 (0, x23) ⟨rfl, rfl, rfl, rfl, trivial⟩ ⟨HS, H, Nat.le_refl _⟩ ?_
                      rintro kq77 ⟨x75, x76⟩ w ⟨HS, H, hk78⟩
                      cases kq77 with
                      | zero => exact absurd H (by simp [signalmanlaw14_ReorderSorts.l7])
                      | succ kq77 =>
                        simp only [signalmanlaw14_ReorderSorts.l7] at H
                        have HS : Sep.St [row 4 1 (.slice ra20 (x22).length rc21) (x22).length ((x22).map Value.bool), reorder_Order.at bt11_0 (x76), R] w0 w := HS
                        refine V.seq ?_
                        refine V.seq ?_
                        refine V.region ?_
                        refine W.rd (X.move rfl) rfl rfl rfl ?_
                        refine W.rd (X.move rfl) rfl rfl rfl ?_
                        refine W.rd (X.cmp (decide (x75 < x18)) rfl rfl rfl rfl) rfl rfl rfl ?_
                        refine W.nil ?_
                        refine At.next ?_
                        refine V.keep [(0, Value.int .i64 (a0)), (10, Value.pointer (some ⟨bt11_0, 0, none⟩)), (11, Value.int .i64 (x18)), (19, Value.int .i64 (x75)), (151, Value.bool (decide (x75 < x18)))] ⟨rfl, rfl, rfl, rfl, rfl, trivial⟩ ?_
                        by_cases c79 : x75 < x18
                        · replace H := ite_t c79 H
                          refine V.condT (sb (decide_eq_true c79)) ?_
                          refine V.skip ?_
                          refine At.next ?_
                          refine V.keep [(0, Value.int .i64 (a0)), (10, Value.pointer (some ⟨bt11_0, 0, none⟩)), (11, Value.int .i64 (x18)), (19, Value.int .i64 (x75))] ⟨rfl, rfl, rfl, rfl, trivial⟩ ?_
                          refine V.seq ?_
                          refine V.block ?_
                          refine V.seq ?_
                          refine V.region ?_
                          refine W.rd (X.move rfl) rfl rfl rfl ?_
                          obtain ⟨t80, A81, H⟩ := bind_s H
                          replace HS := HS.re [1, 0, 2] (by kernel_rfl)
                          have HS : Sep.St [reorder_Order.at bt11_0 (x76), row 4 1 (.slice ra20 (x22).length rc21) (x22).length ((x22).map Value.bool), R] w0 w := HS
                          refine W.ev (Y.call Try.func11 (by kernel_rfl) rfl (vs := [Value.pointer (some ⟨bt11_0, 0, none⟩)]) rfl (reorder_Order_Take.calls x76 _ w0 _ bt11_0 t80  A81 (Sep.St.tailJoin (m := [reorder_Order.at bt11_0 (x76)]) (r := [row 4 1 (.slice ra20 (x22).length rc21) (x22).length ((x22).map Value.bool), R]) HS))) rfl rfl rfl ?_
                          rintro _ w ⟨at80_0, ct80_0, rfl, HS⟩
                          replace HS := Sep.St.tailOpen (m := [fsl 1 (.slice at80_0 (t80.1).length ct80_0) (t80.1).length ((t80.1).map (Value.int .u8)), reorder_Order.at bt11_0 (t80.2.2)]) (r := [row 4 1 (.slice ra20 (x22).length rc21) (x22).length ((x22).map Value.bool), R]) HS
                          have HS : Sep.St [fsl 1 (.slice at80_0 (t80.1).length ct80_0) (t80.1).length ((t80.1).map (Value.int .u8)), reorder_Order.at bt11_0 (t80.2.2), row 4 1 (.slice ra20 (x22).length rc21) (x22).length ((x22).map Value.bool), R] w0 w := HS
                          refine W.rd (X.move rfl) rfl rfl rfl ?_
                          refine W.rd (X.extract rfl rfl) rfl rfl rfl ?_
                          refine W.rd (X.extract rfl rfl) rfl rfl rfl ?_
                          refine W.rd (X.assign rfl) rfl rfl rfl ?_
                          refine W.rd (X.assign rfl) rfl rfl rfl ?_
                          refine W.nil ?_
                          refine At.next ?_
                          refine V.keep [(0, Value.int .i64 (a0)), (10, Value.pointer (some ⟨bt11_0, 0, none⟩)), (11, Value.int .i64 (x18)), (19, Value.int .i64 (x75)), (20, Value.slice at80_0 (t80.1).length ct80_0), (21, Value.bool (t80.2.1))] ⟨rfl, rfl, rfl, rfl, rfl, rfl, trivial⟩ ?_
                          refine V.meet (σ := Bool) (fun st w => match st with | x83 => Sep.St [fsl 1 (.slice at80_0 (t80.1).length ct80_0) (t80.1).length ((t80.1).map (Value.int .u8)), reorder_Order.at bt11_0 (t80.2.2), row 4 1 (.slice ra20 (x22).length rc21) (x22).length ((x22).map Value.bool), R] w0 w ∧ ∃ kf84, kf84 ≤ kq77 ∧ signalmanlaw14_ReorderSorts.j8 x75 t80 (signalmanlaw14_ReorderSorts.l7 kf84 a0 x18) x83 = some r) (fun st => match st with | x83 => [(0, Value.int .i64 (a0)), (10, Value.pointer (some ⟨bt11_0, 0, none⟩)), (11, Value.int .i64 (x18)), (19, Value.int .i64 (x75)), (172, Value.bool (x83))]) ?_ ?_
                          · refine V.region ?_
                            refine W.rd (X.move rfl) rfl rfl rfl ?_
                            refine W.rd (X.not rfl) rfl rfl rfl ?_
                            refine W.rd (X.move rfl) rfl rfl rfl ?_
                            by_cases c87 : t80.2.1 = true
                            · replace H := ite_t c87 H
                              refine W.want 161 rfl (sb (n_t c87)) ?_
                              refine W.rd (X.move rfl) rfl rfl rfl ?_
                              refine W.want 161 rfl (sb (n_t c87)) ?_
                              refine W.rd (X.bytesStr Try.underlying26 Try.underlying5 Try.underlying9 rfl (rdC.at 0 fsl.rd HS rfl)) rfl rfl rfl ?_
                              refine W.want 161 rfl (sb (n_t c87)) ?_
                              refine W.rd (X.move rfl) rfl rfl rfl ?_
                              refine W.want 161 rfl (sb (n_t c87)) ?_
                              refine W.rd (X.conv Try.underlying3 Try.underlying5 rfl) rfl rfl rfl ?_
                              refine W.want 161 rfl (sb (n_t c87)) ?_
                              refine W.rd (X.move rfl) rfl rfl rfl ?_
                              refine W.want 161 rfl (sb (n_t c87)) ?_
                              refine W.rd (X.shr rfl rfl (by decide)) rfl rfl rfl ?_
                              refine W.want 161 rfl (sb (n_t c87)) ?_
                              refine W.rd (X.conv Try.underlying3 Try.underlying5 rfl) rfl rfl rfl ?_
                              refine W.want 161 rfl (sb (n_t c87)) ?_
                              refine W.ev (Y.litB (e := 5) (sz := 1) (vs := #[(0, Value.int .u8 (IntKind.u8.wrap (x75))), (1, Value.int .u8 (IntKind.u8.wrap ((x75).fdiv (2 ^ (min ((8 : Int)).toNat IntKind.i64.bits)))))]) [Value.int .u8 (IntKind.u8.wrap (x75)), Value.int .u8 (IntKind.u8.wrap ((x75).fdiv (2 ^ (min ((8 : Int)).toNat IntKind.i64.bits))))] HS (fun a ha => by simp only [List.map_toArray, List.map_cons, List.map_nil]; rw [ha.ev (x := .tmp 165) (v := Value.int .u8 (IntKind.u8.wrap (x75))) rfl]; rw [ha.ev (x := .tmp 168) (v := Value.int .u8 (IntKind.u8.wrap ((x75).fdiv (2 ^ (min ((8 : Int)).toNat IntKind.i64.bits))))) rfl]; try rfl) rfl (by decide) (fun _ => by kernel_rfl)) rfl rfl rfl ?_
                              rintro _ w ⟨lb90, rfl, HS⟩
                              have HS : Sep.St [row 5 1 (.slice (some ⟨lb90, 0, none⟩) (([IntKind.u8.wrap (x75), IntKind.u8.wrap ((x75).fdiv (2 ^ (min ((8 : Int)).toNat IntKind.i64.bits)))] : List Int)).length 2) (([IntKind.u8.wrap (x75), IntKind.u8.wrap ((x75).fdiv (2 ^ (min ((8 : Int)).toNat IntKind.i64.bits)))] : List Int)).length ((([IntKind.u8.wrap (x75), IntKind.u8.wrap ((x75).fdiv (2 ^ (min ((8 : Int)).toNat IntKind.i64.bits)))] : List Int)).map (Value.int .u8)), fsl 1 (.slice at80_0 (t80.1).length ct80_0) (t80.1).length ((t80.1).map (Value.int .u8)), reorder_Order.at bt11_0 (t80.2.2), row 4 1 (.slice ra20 (x22).length rc21) (x22).length ((x22).map Value.bool), R] w0 w := HS
                              refine W.want 161 rfl (sb (n_t c87)) ?_
                              refine W.rd (X.bytesStr Try.underlying26 Try.underlying5 Try.underlying9 rfl (rdC.at 0 row_rd HS rfl)) rfl rfl rfl ?_
                              refine W.want 161 rfl (sb (n_t c87)) ?_
                              refine W.rd (X.neStr (a := t80.1) (b := ([IntKind.u8.wrap (x75), IntKind.u8.wrap ((x75).fdiv (2 ^ (min ((8 : Int)).toNat IntKind.i64.bits)))] : List Int)) rfl rfl) rfl rfl rfl ?_
                              refine W.rd (X.pickF (sb (n_t c87)) rfl) rfl rfl rfl ?_
                              refine W.nil ?_
                              replace HS := HS.sel [1, 2, 3, 4] [0] (by kernel_rfl)
                              exact At.meet (!(sEq (t80.1) (([IntKind.u8.wrap (x75), IntKind.u8.wrap ((x75).fdiv (2 ^ (min ((8 : Int)).toNat IntKind.i64.bits)))] : List Int)))) ⟨rfl, rfl, rfl, rfl, rfl, trivial⟩ ⟨HS, kq77, by omega, H⟩
                            · replace H := ite_f c87 H
                              refine W.pass 161 rfl (sb (n_f (b_f c87))) rfl rfl ?_
                              refine W.pass 161 rfl (sb (n_f (b_f c87))) rfl rfl ?_
                              refine W.pass 161 rfl (sb (n_f (b_f c87))) rfl rfl ?_
                              refine W.pass 161 rfl (sb (n_f (b_f c87))) rfl rfl ?_
                              refine W.pass 161 rfl (sb (n_f (b_f c87))) rfl rfl ?_
                              refine W.pass 161 rfl (sb (n_f (b_f c87))) rfl rfl ?_
                              refine W.pass 161 rfl (sb (n_f (b_f c87))) rfl rfl ?_
                              refine W.pass 161 rfl (sb (n_f (b_f c87))) rfl rfl ?_
                              refine W.pass 161 rfl (sb (n_f (b_f c87))) rfl rfl ?_
                              refine W.pass 161 rfl (sb (n_f (b_f c87))) rfl rfl ?_
                              refine W.rd (X.pickT (sb (n_f (b_f c87))) rfl) rfl rfl rfl ?_
                              refine W.nil ?_
                              exact At.meet (true) ⟨rfl, rfl, rfl, rfl, rfl, trivial⟩ ⟨HS, kq77, by omega, H⟩
                          · rintro x83 w ⟨HS, kf84, hkkf84, H⟩
                            unfold signalmanlaw14_ReorderSorts.j8 at H
                            have HS : Sep.St [fsl 1 (.slice at80_0 (t80.1).length ct80_0) (t80.1).length ((t80.1).map (Value.int .u8)), reorder_Order.at bt11_0 (t80.2.2), row 4 1 (.slice ra20 (x22).length rc21) (x22).length ((x22).map Value.bool), R] w0 w := HS
                            by_cases c86 : x83 = true
                            · replace H := ite_t c86 H
                              refine V.condT (sb c86) ?_
                              refine V.seq ?_
                              refine V.region ?_
                              refine W.rd (X.assign rfl) rfl rfl rfl ?_
                              refine W.nil ?_
                              refine At.next ?_
                              refine V.keep [(8, Value.bool (false))] ⟨rfl, trivial⟩ ?_
                              refine V.ret ?_
                              refine At.blockRet ?_
                              refine At.thenRet ?_
                              refine At.thenRet ?_
                              refine At.blockRet ?_
                              refine At.thenRet ?_
                              replace HS := HS.sel [3] [0, 1, 2] (by kernel_rfl)
                              cases H
                              exact At.ret1 rfl rfl ⟨_, rfl, rfl, HS⟩
                            · replace H := ite_f c86 H
                              refine V.condF (sb (b_f c86)) ?_
                              refine V.skip ?_
                              refine At.blockEnd ?_
                              refine At.next ?_
                              refine V.keep [(0, Value.int .i64 (a0)), (10, Value.pointer (some ⟨bt11_0, 0, none⟩)), (11, Value.int .i64 (x18)), (19, Value.int .i64 (x75))] ⟨rfl, rfl, rfl, rfl, trivial⟩ ?_
                              refine V.region ?_
                              refine W.rd (X.move rfl) rfl rfl rfl ?_
                              refine W.rd (X.add rfl rfl) rfl rfl rfl ?_
                              refine W.rd (X.assign rfl) rfl rfl rfl ?_
                              refine W.nil ?_
                              replace HS := HS.sel [2, 1, 3] [0] (by kernel_rfl)
                              exact At.round kf84 (by omega) (w64 (x75 + 1), t80.2.2) ⟨rfl, rfl, rfl, rfl, trivial⟩ ⟨HS, H, by omega⟩
                        · replace H := ite_f c79 H
                          refine V.condF (sb (decide_eq_false c79)) ?_
                          refine V.exit ?_
                          refine At.thenExit ?_
                          refine At.thenExit ?_
                          refine At.blockExit ?_
                          refine At.next ?_
                          refine V.keep [(0, Value.int .i64 (a0)), (10, Value.pointer (some ⟨bt11_0, 0, none⟩)), (11, Value.int .i64 (x18))] ⟨rfl, rfl, rfl, trivial⟩ ?_
                          refine V.seq ?_
                          refine V.region ?_
                          refine W.rd (X.move rfl) rfl rfl rfl ?_
                          obtain ⟨t91, A92, H⟩ := bind_s H
                          replace HS := HS.re [1, 0, 2] (by kernel_rfl)
                          have HS : Sep.St [reorder_Order.at bt11_0 (x76), row 4 1 (.slice ra20 (x22).length rc21) (x22).length ((x22).map Value.bool), R] w0 w := HS
                          refine W.ev (Y.call Try.func11 (by kernel_rfl) rfl (vs := [Value.pointer (some ⟨bt11_0, 0, none⟩)]) rfl (reorder_Order_Take.calls x76 _ w0 _ bt11_0 t91  A92 (Sep.St.tailJoin (m := [reorder_Order.at bt11_0 (x76)]) (r := [row 4 1 (.slice ra20 (x22).length rc21) (x22).length ((x22).map Value.bool), R]) HS))) rfl rfl rfl ?_
                          rintro _ w ⟨at91_0, ct91_0, rfl, HS⟩
                          replace HS := Sep.St.tailOpen (m := [fsl 1 (.slice at91_0 (t91.1).length ct91_0) (t91.1).length ((t91.1).map (Value.int .u8)), reorder_Order.at bt11_0 (t91.2.2)]) (r := [row 4 1 (.slice ra20 (x22).length rc21) (x22).length ((x22).map Value.bool), R]) HS
                          have HS : Sep.St [fsl 1 (.slice at91_0 (t91.1).length ct91_0) (t91.1).length ((t91.1).map (Value.int .u8)), reorder_Order.at bt11_0 (t91.2.2), row 4 1 (.slice ra20 (x22).length rc21) (x22).length ((x22).map Value.bool), R] w0 w := HS
                          refine W.rd (X.move rfl) rfl rfl rfl ?_
                          refine W.rd (X.extract rfl rfl) rfl rfl rfl ?_
                          refine W.rd (X.extract rfl rfl) rfl rfl rfl ?_
                          refine W.rd (X.assign rfl) rfl rfl rfl ?_
                          refine W.rd (X.assign rfl) rfl rfl rfl ?_
                          refine W.nil ?_
                          refine At.next ?_
                          refine V.keep [(0, Value.int .i64 (a0)), (10, Value.pointer (some ⟨bt11_0, 0, none⟩)), (11, Value.int .i64 (x18)), (23, Value.bool (t91.2.1))] ⟨rfl, rfl, rfl, rfl, trivial⟩ ?_
                          refine V.seq ?_
                          by_cases c93 : t91.2.1 = true
                          · replace H := ite_t c93 H
                            refine V.draw (es := [4]) (bl := [8, 9, 10]) (f := [(178, Value.bool (t91.2.1)), (179, Value.bool (!(t91.2.1))), (180, Value.bool (!(t91.2.1))), (181, undef), (183, undef), (184, undef), (185, undef)]) (fun w => Sep.St [fsl 1 (.slice at91_0 (t91.1).length ct91_0) (t91.1).length ((t91.1).map (Value.int .u8)), reorder_Order.at bt11_0 (t91.2.2), row 4 1 (.slice ra20 (x22).length rc21) (x22).length ((x22).map Value.bool), R] w0 w) mo HS.drew rfl ?_
                            refine T.drop (es' := []) (bl' := []) [(182, undef), (186, undef), (187, Value.bool (false)), (8, Value.bool (false))] rfl ⟨.inr ⟨by decide, rfl⟩, ⟨.inr ⟨by decide, rfl⟩, ⟨.inr ⟨by decide, rfl⟩, ⟨.inr ⟨by decide, rfl⟩, trivial⟩⟩⟩⟩ ?_
                            refine T.fin [(8, Value.bool (false))] rfl ⟨⟨_, Value.bool (t91.2.1), [(23, Value.bool (t91.2.1))], 178, rfl, rfl, ⟨.inl ⟨rfl, rfl⟩, trivial⟩, .run rfl (fun w HS => X.move rfl), rfl, rfl, rfl⟩, ⟨_, Value.bool (!(t91.2.1)), [(178, Value.bool (t91.2.1))], 179, rfl, rfl, ⟨.inr ⟨rfl, rfl⟩, trivial⟩, .run rfl (fun w HS => X.not rfl), rfl, rfl, rfl⟩, ⟨_, Value.bool (!(t91.2.1)), [(179, Value.bool (!(t91.2.1)))], 180, rfl, rfl, ⟨.inr ⟨rfl, rfl⟩, trivial⟩, .run rfl (fun w HS => X.move rfl), rfl, rfl, rfl⟩, ⟨_, undef, [(180, Value.bool (!(t91.2.1)))], 181, rfl, rfl, ⟨.inr ⟨rfl, rfl⟩, trivial⟩, .pass 2 true false 180 rfl rfl (sb (n_t c93)) rfl rfl, rfl, rfl, rfl⟩, ⟨_, undef, [(180, Value.bool (!(t91.2.1)))], 182, rfl, rfl, ⟨.inr ⟨rfl, rfl⟩, trivial⟩, .pass 2 true false 180 rfl rfl (sb (n_t c93)) rfl rfl, rfl, rfl, rfl⟩, ⟨_, undef, [(180, Value.bool (!(t91.2.1)))], 183, rfl, rfl, ⟨.inr ⟨rfl, rfl⟩, trivial⟩, .pass 2 true false 180 rfl rfl (sb (n_t c93)) rfl rfl, rfl, rfl, rfl⟩, ⟨_, undef, [(180, Value.bool (!(t91.2.1)))], 184, rfl, rfl, ⟨.inr ⟨rfl, rfl⟩, trivial⟩, .pass 2 true false 180 rfl rfl (sb (n_t c93)) rfl rfl, rfl, rfl, rfl⟩, ⟨_, undef, [(180, Value.bool (!(t91.2.1)))], 185, rfl, rfl, ⟨.inr ⟨rfl, rfl⟩, trivial⟩, .pass 2 true false 180 rfl rfl (sb (n_t c93)) rfl rfl, rfl, rfl, rfl⟩, ⟨_, undef, [(180, Value.bool (!(t91.2.1)))], 186, rfl, rfl, ⟨.inr ⟨rfl, rfl⟩, trivial⟩, .pass 2 true false 180 rfl rfl (sb (n_t c93)) rfl rfl, rfl, rfl, rfl⟩, ⟨_, Value.bool (false), [(180, Value.bool (!(t91.2.1))), (186, undef)], 187, rfl, rfl, ⟨.inr ⟨rfl, rfl⟩, ⟨.inr ⟨rfl, rfl⟩, trivial⟩⟩, .run rfl (fun w HS => X.pickF (sb (n_t c93)) rfl), rfl, rfl, rfl⟩, ⟨_, Value.bool (false), [(187, Value.bool (false))], 8, rfl, rfl, ⟨.inr ⟨rfl, rfl⟩, trivial⟩, .run rfl (fun w HS => X.assign rfl), rfl, rfl, rfl⟩, trivial⟩ ⟨.inr ⟨rfl, rfl⟩, trivial⟩ (fun w HS => ?_)
                            have HS : Sep.St [fsl 1 (.slice at91_0 (t91.1).length ct91_0) (t91.1).length ((t91.1).map (Value.int .u8)), reorder_Order.at bt11_0 (t91.2.2), row 4 1 (.slice ra20 (x22).length rc21) (x22).length ((x22).map Value.bool), R] w0 w := HS
                            refine At.next ?_
                            refine V.keep [(8, Value.bool (false))] ⟨rfl, trivial⟩ ?_
                            refine V.ret ?_
                            replace HS := HS.sel [3] [0, 1, 2] (by kernel_rfl)
                            cases H
                            exact At.ret1 rfl rfl ⟨_, rfl, rfl, HS⟩
                          · replace H := ite_f c93 H
                            obtain ⟨c94, H⟩ := ite_n H
                            refine V.draw (es := [4]) (bl := [8, 9, 10]) (f := [(178, Value.bool (t91.2.1)), (179, Value.bool (!(t91.2.1))), (180, Value.bool (!(t91.2.1))), (181, Value.pointer (some ⟨bt11_0, 0, none⟩)), (183, Value.int .i64 (x18)), (184, Value.int .i64 (a0)), (185, Value.int .i64 ((x18).tmod (a0)))]) (fun w => Sep.St [fsl 1 (.slice at91_0 (t91.1).length ct91_0) (t91.1).length ((t91.1).map (Value.int .u8)), reorder_Order.at bt11_0 (t91.2.2), row 4 1 (.slice ra20 (x22).length rc21) (x22).length ((x22).map Value.bool), R] w0 w) mo HS.drew rfl ?_
                            refine T.event _ [(181, Value.pointer (some ⟨bt11_0, 0, none⟩)), (180, Value.bool (!(t91.2.1)))] rfl rfl ⟨⟨_, Value.bool (t91.2.1), [(23, Value.bool (t91.2.1))], 178, rfl, rfl, ⟨.inl ⟨rfl, rfl⟩, trivial⟩, .run rfl (fun w HS => X.move rfl), rfl, rfl, rfl⟩, ⟨_, Value.bool (!(t91.2.1)), [(178, Value.bool (t91.2.1))], 179, rfl, rfl, ⟨.inr ⟨rfl, rfl⟩, trivial⟩, .run rfl (fun w HS => X.not rfl), rfl, rfl, rfl⟩, ⟨_, Value.bool (!(t91.2.1)), [(179, Value.bool (!(t91.2.1)))], 180, rfl, rfl, ⟨.inr ⟨rfl, rfl⟩, trivial⟩, .run rfl (fun w HS => X.move rfl), rfl, rfl, rfl⟩, ⟨_, Value.pointer (some ⟨bt11_0, 0, none⟩), [(10, Value.pointer (some ⟨bt11_0, 0, none⟩)), (180, Value.bool (!(t91.2.1)))], 181, rfl, rfl, ⟨.inl ⟨rfl, rfl⟩, ⟨.inr ⟨rfl, rfl⟩, trivial⟩⟩, .want 2 true 180 rfl rfl (sb (n_f (b_f c93))) (fun w HS => X.move rfl), rfl, rfl, rfl⟩, ⟨_, Value.int .i64 (x18), [(11, Value.int .i64 (x18)), (180, Value.bool (!(t91.2.1)))], 183, rfl, rfl, ⟨.inl ⟨rfl, rfl⟩, ⟨.inr ⟨rfl, rfl⟩, trivial⟩⟩, .want 2 true 180 rfl rfl (sb (n_f (b_f c93))) (fun w HS => X.move rfl), rfl, rfl, rfl⟩, ⟨_, Value.int .i64 (a0), [(0, Value.int .i64 (a0)), (180, Value.bool (!(t91.2.1)))], 184, rfl, rfl, ⟨.inl ⟨rfl, rfl⟩, ⟨.inr ⟨rfl, rfl⟩, trivial⟩⟩, .want 2 true 180 rfl rfl (sb (n_f (b_f c93))) (fun w HS => X.move rfl), rfl, rfl, rfl⟩, ⟨_, Value.int .i64 ((x18).tmod (a0)), [(183, Value.int .i64 (x18)), (184, Value.int .i64 (a0)), (180, Value.bool (!(t91.2.1)))], 185, rfl, rfl, ⟨.inr ⟨rfl, rfl⟩, ⟨.inr ⟨rfl, rfl⟩, ⟨.inr ⟨rfl, rfl⟩, trivial⟩⟩⟩, .want 2 true 180 rfl rfl (sb (n_f (b_f c93))) (fun w HS => X.rem rfl rfl c94), rfl, rfl, rfl⟩, trivial⟩ rfl ⟨.inr ⟨rfl, rfl⟩, ⟨.inr ⟨rfl, rfl⟩, trivial⟩⟩ (Or.inr ⟨2, true, 180, rfl, rfl, (sb (n_f (b_f c93)))⟩) (by intro d hd; cases hd; exact ⟨by decide, rfl, rfl⟩) [] [0, 1, 2, 3] rfl rfl (fun w HS => ?_)
                            have HS : Sep.St [fsl 1 (.slice at91_0 (t91.1).length ct91_0) (t91.1).length ((t91.1).map (Value.int .u8)), reorder_Order.at bt11_0 (t91.2.2), row 4 1 (.slice ra20 (x22).length rc21) (x22).length ((x22).map Value.bool), R] w0 w := HS
                            replace HS := HS.front 1 rfl
                            have HS : Sep.St [reorder_Order.at bt11_0 (t91.2.2), fsl 1 (.slice at91_0 (t91.1).length ct91_0) (t91.1).length ((t91.1).map (Value.int .u8)), row 4 1 (.slice ra20 (x22).length rc21) (x22).length ((x22).map Value.bool), R] w0 w := HS
                            obtain ⟨b3_95, k3_95, a4_95, c4_95, d4_95, hi96, HS⟩ := reorder_Order.open HS
                            have HS : Sep.St [blk bt11_0 (#[Value.int .i64 ((t91.2.2).m), Value.int .i64 ((t91.2.2).window), Value.int .i64 ((t91.2.2).next), Value.map (some b3_95), Value.slice a4_95 ((t91.2.2).ready).length c4_95]) 47, mblk b3_95 k3_95, tieM (El.sl (El.int .u8)) k3_95 ((t91.2.2).kept), row 26 1 (.slice a4_95 ((t91.2.2).ready).length c4_95) ((t91.2.2).ready).length d4_95, tie (El.sl (El.int .u8)) d4_95 ((t91.2.2).ready), fsl 1 (.slice at91_0 (t91.1).length ct91_0) (t91.1).length ((t91.1).map (Value.int .u8)), row 4 1 (.slice ra20 (x22).length rc21) (x22).length ((x22).map Value.bool), R] w0 w := HS
                            obtain ⟨t97, A98, H⟩ := bind_s H
                            refine ⟨_, Y.call Try.func12 (by kernel_rfl) rfl (vs := [Value.pointer (some ⟨bt11_0, 0, none⟩)]) rfl (reorder_Order_Next.calls t91.2.2 _ w0 _ bt11_0 b3_95 k3_95 a4_95 c4_95 d4_95 t97  A98 (Sep.St.tailJoin (m := [blk bt11_0 (#[Value.int .i64 ((t91.2.2).m), Value.int .i64 ((t91.2.2).window), Value.int .i64 ((t91.2.2).next), Value.map (some b3_95), Value.slice a4_95 ((t91.2.2).ready).length c4_95]) 47, mblk b3_95 k3_95, tieM (El.sl (El.int .u8)) k3_95 ((t91.2.2).kept), row 26 1 (.slice a4_95 ((t91.2.2).ready).length c4_95) ((t91.2.2).ready).length d4_95, tie (El.sl (El.int .u8)) d4_95 ((t91.2.2).ready)]) (r := [fsl 1 (.slice at91_0 (t91.1).length ct91_0) (t91.1).length ((t91.1).map (Value.int .u8)), row 4 1 (.slice ra20 (x22).length rc21) (x22).length ((x22).map Value.bool), R]) HS)), ?_⟩
                            rintro _ w ⟨rfl, HS⟩
                            replace HS := Sep.St.tailOpen (m := [blk bt11_0 (#[Value.int .i64 ((t91.2.2).m), Value.int .i64 ((t91.2.2).window), Value.int .i64 ((t91.2.2).next), Value.map (some b3_95), Value.slice a4_95 ((t91.2.2).ready).length c4_95]) 47, mblk b3_95 k3_95, tieM (El.sl (El.int .u8)) k3_95 ((t91.2.2).kept), row 26 1 (.slice a4_95 ((t91.2.2).ready).length c4_95) ((t91.2.2).ready).length d4_95, tie (El.sl (El.int .u8)) d4_95 ((t91.2.2).ready)]) (r := [fsl 1 (.slice at91_0 (t91.1).length ct91_0) (t91.1).length ((t91.1).map (Value.int .u8)), row 4 1 (.slice ra20 (x22).length rc21) (x22).length ((x22).map Value.bool), R]) HS
                            have HS : Sep.St [blk bt11_0 (#[Value.int .i64 ((t91.2.2).m), Value.int .i64 ((t91.2.2).window), Value.int .i64 ((t91.2.2).next), Value.map (some b3_95), Value.slice a4_95 ((t91.2.2).ready).length c4_95]) 47, mblk b3_95 k3_95, tieM (El.sl (El.int .u8)) k3_95 ((t91.2.2).kept), row 26 1 (.slice a4_95 ((t91.2.2).ready).length c4_95) ((t91.2.2).ready).length d4_95, tie (El.sl (El.int .u8)) d4_95 ((t91.2.2).ready), fsl 1 (.slice at91_0 (t91.1).length ct91_0) (t91.1).length ((t91.1).map (Value.int .u8)), row 4 1 (.slice ra20 (x22).length rc21) (x22).length ((x22).map Value.bool), R] w0 w := HS
                            refine ⟨[(182, Value.int .i64 (t97)), (186, Value.bool (decide (t97 = ((x18).tmod (a0))))), (187, Value.bool (decide (t97 = ((x18).tmod (a0))))), (8, Value.bool (decide (t97 = ((x18).tmod (a0)))))], fun w => Sep.St [blk bt11_0 (#[Value.int .i64 ((t91.2.2).m), Value.int .i64 ((t91.2.2).window), Value.int .i64 ((t91.2.2).next), Value.map (some b3_95), Value.slice a4_95 ((t91.2.2).ready).length c4_95]) 47, mblk b3_95 k3_95, tieM (El.sl (El.int .u8)) k3_95 ((t91.2.2).kept), row 26 1 (.slice a4_95 ((t91.2.2).ready).length c4_95) ((t91.2.2).ready).length d4_95, tie (El.sl (El.int .u8)) d4_95 ((t91.2.2).ready), fsl 1 (.slice at91_0 (t91.1).length ct91_0) (t91.1).length ((t91.1).map (Value.int .u8)), row 4 1 (.slice ra20 (x22).length rc21) (x22).length ((x22).map Value.bool), R] w0 w, ⟨.inl ⟨rfl, rfl⟩, ⟨.inr ⟨by decide, rfl⟩, ⟨.inr ⟨by decide, rfl⟩, ⟨.inr ⟨by decide, rfl⟩, trivial⟩⟩⟩⟩, ?_, HS⟩
                            refine T.fin [(8, Value.bool (decide (t97 = ((x18).tmod (a0)))))] rfl ⟨⟨_, Value.int .i64 (x18), [(11, Value.int .i64 (x18)), (180, Value.bool (!(t91.2.1)))], 183, rfl, rfl, ⟨.inl ⟨rfl, rfl⟩, ⟨.inr ⟨rfl, rfl⟩, trivial⟩⟩, .want 2 true 180 rfl rfl (sb (n_f (b_f c93))) (fun w HS => X.move rfl), rfl, rfl, rfl⟩, ⟨_, Value.int .i64 (a0), [(0, Value.int .i64 (a0)), (180, Value.bool (!(t91.2.1)))], 184, rfl, rfl, ⟨.inl ⟨rfl, rfl⟩, ⟨.inr ⟨rfl, rfl⟩, trivial⟩⟩, .want 2 true 180 rfl rfl (sb (n_f (b_f c93))) (fun w HS => X.move rfl), rfl, rfl, rfl⟩, ⟨_, Value.int .i64 ((x18).tmod (a0)), [(183, Value.int .i64 (x18)), (184, Value.int .i64 (a0)), (180, Value.bool (!(t91.2.1)))], 185, rfl, rfl, ⟨.inr ⟨rfl, rfl⟩, ⟨.inr ⟨rfl, rfl⟩, ⟨.inr ⟨rfl, rfl⟩, trivial⟩⟩⟩, .want 2 true 180 rfl rfl (sb (n_f (b_f c93))) (fun w HS => X.rem rfl rfl c94), rfl, rfl, rfl⟩, ⟨_, Value.bool (decide (t97 = ((x18).tmod (a0)))), [(182, Value.int .i64 (t97)), (185, Value.int .i64 ((x18).tmod (a0))), (180, Value.bool (!(t91.2.1)))], 186, rfl, rfl, ⟨.inr ⟨rfl, rfl⟩, ⟨.inr ⟨rfl, rfl⟩, ⟨.inr ⟨rfl, rfl⟩, trivial⟩⟩⟩, .want 2 true 180 rfl rfl (sb (n_f (b_f c93))) (fun w HS => X.cmp (decide (t97 = ((x18).tmod (a0)))) rfl rfl rfl rfl), rfl, rfl, rfl⟩, ⟨_, Value.bool (decide (t97 = ((x18).tmod (a0)))), [(180, Value.bool (!(t91.2.1))), (186, Value.bool (decide (t97 = ((x18).tmod (a0)))))], 187, rfl, rfl, ⟨.inr ⟨rfl, rfl⟩, ⟨.inr ⟨rfl, rfl⟩, trivial⟩⟩, .run rfl (fun w HS => X.pickT (sb (n_f (b_f c93))) rfl), rfl, rfl, rfl⟩, ⟨_, Value.bool (decide (t97 = ((x18).tmod (a0)))), [(187, Value.bool (decide (t97 = ((x18).tmod (a0)))))], 8, rfl, rfl, ⟨.inr ⟨rfl, rfl⟩, trivial⟩, .run rfl (fun w HS => X.assign rfl), rfl, rfl, rfl⟩, trivial⟩ ⟨.inr ⟨rfl, rfl⟩, trivial⟩ (fun w HS => ?_)
                            have HS : Sep.St [blk bt11_0 (#[Value.int .i64 ((t91.2.2).m), Value.int .i64 ((t91.2.2).window), Value.int .i64 ((t91.2.2).next), Value.map (some b3_95), Value.slice a4_95 ((t91.2.2).ready).length c4_95]) 47, mblk b3_95 k3_95, tieM (El.sl (El.int .u8)) k3_95 ((t91.2.2).kept), row 26 1 (.slice a4_95 ((t91.2.2).ready).length c4_95) ((t91.2.2).ready).length d4_95, tie (El.sl (El.int .u8)) d4_95 ((t91.2.2).ready), fsl 1 (.slice at91_0 (t91.1).length ct91_0) (t91.1).length ((t91.1).map (Value.int .u8)), row 4 1 (.slice ra20 (x22).length rc21) (x22).length ((x22).map Value.bool), R] w0 w := HS
                            refine At.next ?_
                            refine V.keep [(8, Value.bool (decide (t97 = ((x18).tmod (a0)))))] ⟨rfl, trivial⟩ ?_
                            refine V.ret ?_
                            replace HS := HS.sel [7] [0, 1, 2, 3, 4, 5, 6] (by kernel_rfl)
                            cases H
                            exact At.ret1 rfl rfl ⟨_, rfl, rfl, HS⟩
  · replace H := ite_f c3 H
    refine W.pass 27 rfl (sb (n_f (b_f c3))) rfl rfl ?_
    refine W.pass 27 rfl (sb (n_f (b_f c3))) rfl rfl ?_
    refine W.rd (X.pickT (sb (n_f (b_f c3))) rfl) rfl rfl rfl ?_
    refine W.rd (X.move rfl) rfl rfl rfl ?_
    refine W.pass 31 rfl rfl rfl rfl ?_
    refine W.pass 31 rfl rfl rfl rfl ?_
    refine W.rd (X.pickT rfl rfl) rfl rfl rfl ?_
    refine W.rd (X.move rfl) rfl rfl rfl ?_
    refine W.pass 35 rfl rfl rfl rfl ?_
    refine W.pass 35 rfl rfl rfl rfl ?_
    refine W.rd (X.pickT rfl rfl) rfl rfl rfl ?_
    refine W.rd (X.move rfl) rfl rfl rfl ?_
    refine W.pass 39 rfl rfl rfl rfl ?_
    refine W.pass 39 rfl rfl rfl rfl ?_
    refine W.pass 39 rfl rfl rfl rfl ?_
    refine W.pass 39 rfl rfl rfl rfl ?_
    refine W.rd (X.pickT rfl rfl) rfl rfl rfl ?_
    refine W.rd (X.move rfl) rfl rfl rfl ?_
    refine W.pass 45 rfl rfl rfl rfl ?_
    refine W.pass 45 rfl rfl rfl rfl ?_
    refine W.rd (X.pickT rfl rfl) rfl rfl rfl ?_
    refine W.rd (X.move rfl) rfl rfl rfl ?_
    refine W.pass 49 rfl rfl rfl rfl ?_
    refine W.pass 49 rfl rfl rfl rfl ?_
    refine W.rd (X.pickT rfl rfl) rfl rfl rfl ?_
    refine W.rd (X.move rfl) rfl rfl rfl ?_
    refine W.pass 53 rfl rfl rfl rfl ?_
    refine W.pass 53 rfl rfl rfl rfl ?_
    refine W.pass 53 rfl rfl rfl rfl ?_
    refine W.rd (X.pickT rfl rfl) rfl rfl rfl ?_
    refine W.nil ?_
    refine At.next ?_
    refine V.keep [(0, Value.int .i64 (a0)), (1, Value.int .i64 (a1)), (2, Value.int .i64 (a2)), (3, Value.slice sa3 (a3).length sc3), (9, Value.bool (t1)), (57, Value.bool (true))] ⟨rfl, rfl, rfl, rfl, rfl, rfl, trivial⟩ ?_
    refine V.condT rfl ?_
    refine V.seq ?_
    refine V.region ?_
    refine W.rd (X.move rfl) rfl rfl rfl ?_
    refine W.rd (X.assign rfl) rfl rfl rfl ?_
    refine W.nil ?_
    refine At.next ?_
    refine V.keep [(8, Value.bool (t1))] ⟨rfl, trivial⟩ ?_
    refine V.ret ?_
    refine At.thenRet ?_
    cases H
    exact At.ret1 rfl rfl ⟨_, rfl, rfl, HS⟩

def signalmanlaw14_ReorderSorts.Pure : Prop := ∀ (a0 : Int) (a1 : Int) (a2 : Int) (a3 : List Int), (Lit.int .i64 a0).wf = true → (Lit.int .i64 a1).wf = true → (Lit.int .i64 a2).wf = true → (∀ z ∈ a3, (Lit.int .i64 z).wf = true) → (a3.length : Int) ≤ 9223372036854775807 → ∃ k, signalmanlaw14_ReorderSorts.f k a0 a1 a2 a3 = some true
end Go.Proofs.Ytcjmffcpldjbpaa

/- ControlLimits: the functions that its law reaches, as plain functions, and that the machine's calls come to what these say. Conditions: those that stand at each. -/
import Derived.Test.YtmodmkbjbndfpaaProg
import Derived.Test.YtmodmkbjbndfpaaOps
set_option linter.unusedVariables false
set_option linter.unusedSimpArgs false
namespace Go.Proofs.Ytmodmkbjbndfpaa
open Go.RowKit Go.Proofs.Ytmodmkbjbndfpaa.Sep Go.Proofs.Ytmodmkbjbndfpaa.Walk
theorem inf5 : (Try.prog.info? 5).map (·.size) = some 1 := by kernel_rfl
theorem inf23 : (Try.prog.info? 23).map (·.size) = some 4 := by kernel_rfl
theorem fo23_0 : fieldOff Try.prog 23 0 = some 0 := by kernel_rfl
theorem fo23_1 : fieldOff Try.prog 23 1 = some 1 := by kernel_rfl
theorem fo23_2 : fieldOff Try.prog 23 2 = some 2 := by kernel_rfl
theorem fo23_3 : fieldOff Try.prog 23 3 = some 3 := by kernel_rfl
theorem ap5 : (Try.prog.info? 5).map (fun i => (i.zero, i.size, i.bytes)) = some (some (.int .u8 0), 1, 1) := by kernel_rfl
theorem mo : Try.prog.follows .mixedOrders = true := by kernel_rfl

/-! ### signalman/control.modulus: function 19 -/
def control_modulus.f (a0 : Int) : Option (Bool) := (if a0 = 128 then some (true) else some (decide (a0 = 32768)))
set_option maxRecDepth 100000 in
set_option maxHeartbeats 4000000 in
theorem control_modulus.calls (a0 : Int) (R : As) (w0 w : World)  (r : Bool)  (H : control_modulus.f a0 = some r) (HS : Sep.St [R] w0 w) : Calls Try.prog 19 #[Value.int .i64 (a0)] w (Ret fun u w => u = Value.bool (r) ∧ Sep.St [R] w0 w) := by
  unfold control_modulus.f at H
  refine calls_enter Try.func19 rfl rfl ?_
  have H : _ = some r := H
  refine V.seq ?_
  refine V.region ?_
  refine W.rd (X.assign rfl) rfl rfl rfl ?_
  refine W.nil ?_
  refine At.next ?_
  refine V.keep [(0, Value.int .i64 (a0))] ⟨rfl, trivial⟩ ?_
  refine V.seq ?_
  refine V.region ?_
  refine W.rd (X.move rfl) rfl rfl rfl ?_
  refine W.rd (X.cmp (decide (a0 = 128)) rfl rfl rfl rfl) rfl rfl rfl ?_
  refine W.rd (X.move rfl) rfl rfl rfl ?_
  by_cases c1 : a0 = 128
  · replace H := ite_t c1 H
    refine W.pass 5 rfl (sb (decide_eq_true c1)) rfl rfl ?_
    refine W.pass 5 rfl (sb (decide_eq_true c1)) rfl rfl ?_
    refine W.rd (X.pickT (sb (decide_eq_true c1)) rfl) rfl rfl rfl ?_
    refine W.rd (X.assign rfl) rfl rfl rfl ?_
    refine W.nil ?_
    refine At.next ?_
    refine V.keep [(2, Value.bool (true))] ⟨rfl, trivial⟩ ?_
    refine V.ret ?_
    cases H
    exact At.ret1 rfl rfl ⟨_, rfl, rfl, HS⟩
  · replace H := ite_f c1 H
    refine W.want 5 rfl (sb (decide_eq_false c1)) ?_
    refine W.rd (X.move rfl) rfl rfl rfl ?_
    refine W.want 5 rfl (sb (decide_eq_false c1)) ?_
    refine W.rd (X.cmp (decide (a0 = 32768)) rfl rfl rfl rfl) rfl rfl rfl ?_
    refine W.rd (X.pickF (sb (decide_eq_false c1)) rfl) rfl rfl rfl ?_
    refine W.rd (X.assign rfl) rfl rfl rfl ?_
    refine W.nil ?_
    refine At.next ?_
    refine V.keep [(2, Value.bool (decide (a0 = 32768)))] ⟨rfl, trivial⟩ ?_
    refine V.ret ?_
    cases H
    exact At.ret1 rfl rfl ⟨_, rfl, rfl, HS⟩

/-! ### signalman/control.of: function 20 -/
def control_of.f (a0 : Int) (a1 : Int) : Option (Bool) := (if a0 ≥ 0 then some (decide (a0 < a1)) else some (false))
set_option maxRecDepth 100000 in
set_option maxHeartbeats 4000000 in
theorem control_of.calls (a0 : Int) (a1 : Int) (R : As) (w0 w : World)  (r : Bool)  (H : control_of.f a0 a1 = some r) (HS : Sep.St [R] w0 w) : Calls Try.prog 20 #[Value.int .i64 (a0), Value.int .i64 (a1)] w (Ret fun u w => u = Value.bool (r) ∧ Sep.St [R] w0 w) := by
  unfold control_of.f at H
  refine calls_enter Try.func20 rfl rfl ?_
  have H : _ = some r := H
  refine V.seq ?_
  refine V.region ?_
  refine W.rd (X.assign rfl) rfl rfl rfl ?_
  refine W.nil ?_
  refine At.next ?_
  refine V.keep [(0, Value.int .i64 (a0)), (1, Value.int .i64 (a1))] ⟨rfl, rfl, trivial⟩ ?_
  refine V.seq ?_
  refine V.region ?_
  refine W.rd (X.move rfl) rfl rfl rfl ?_
  refine W.rd (X.cmp (decide (a0 ≥ 0)) rfl rfl rfl rfl) rfl rfl rfl ?_
  refine W.rd (X.move rfl) rfl rfl rfl ?_
  by_cases c1 : a0 ≥ 0
  · replace H := ite_t c1 H
    refine W.want 7 rfl (sb (decide_eq_true c1)) ?_
    refine W.rd (X.move rfl) rfl rfl rfl ?_
    refine W.want 7 rfl (sb (decide_eq_true c1)) ?_
    refine W.rd (X.move rfl) rfl rfl rfl ?_
    refine W.want 7 rfl (sb (decide_eq_true c1)) ?_
    refine W.rd (X.cmp (decide (a0 < a1)) rfl rfl rfl rfl) rfl rfl rfl ?_
    refine W.rd (X.pickT (sb (decide_eq_true c1)) rfl) rfl rfl rfl ?_
    refine W.rd (X.assign rfl) rfl rfl rfl ?_
    refine W.nil ?_
    refine At.next ?_
    refine V.keep [(4, Value.bool (decide (a0 < a1)))] ⟨rfl, trivial⟩ ?_
    refine V.ret ?_
    cases H
    exact At.ret1 rfl rfl ⟨_, rfl, rfl, HS⟩
  · replace H := ite_f c1 H
    refine W.pass 7 rfl (sb (decide_eq_false c1)) rfl rfl ?_
    refine W.pass 7 rfl (sb (decide_eq_false c1)) rfl rfl ?_
    refine W.pass 7 rfl (sb (decide_eq_false c1)) rfl rfl ?_
    refine W.rd (X.pickF (sb (decide_eq_false c1)) rfl) rfl rfl rfl ?_
    refine W.rd (X.assign rfl) rfl rfl rfl ?_
    refine W.nil ?_
    refine At.next ?_
    refine V.keep [(4, Value.bool (false))] ⟨rfl, trivial⟩ ?_
    refine V.ret ?_
    cases H
    exact At.ret1 rfl rfl ⟨_, rfl, rfl, HS⟩

structure api_Ctl where
  Kind : Int
  Ns : Int
  Nr : Int
  Poll : Bool
deriving DecidableEq, Inhabited

def api_Ctl.at (b : Nat) (x : api_Ctl) : As := fun h => (True) ∧ Sp [blk b (#[Value.int .i64 ((x.Kind)), Value.int .i64 ((x.Ns)), Value.int .i64 ((x.Nr)), Value.bool ((x.Poll))]) 23] h
theorem api_Ctl.open {b : Nat} {x : api_Ctl} {L : List As} {w0 w : World} (hs : Sep.St (api_Ctl.at b x :: L) w0 w) : (True) ∧ Sep.St (blk b (#[Value.int .i64 ((x.Kind)), Value.int .i64 ((x.Ns)), Value.int .i64 ((x.Nr)), Value.bool ((x.Poll))]) 23 :: L) w0 w := by
  have h1 := St.pure.1 (show St ((fun h => (True) ∧ (fun h => Sp [blk b (#[Value.int .i64 ((x.Kind)), Value.int .i64 ((x.Ns)), Value.int .i64 ((x.Nr)), Value.bool ((x.Poll))]) 23] h) h) :: L) w0 w from hs)
  obtain ⟨hi, hs⟩ := h1
  exact ⟨hi, St.open (m := [blk b (#[Value.int .i64 ((x.Kind)), Value.int .i64 ((x.Ns)), Value.int .i64 ((x.Nr)), Value.bool ((x.Poll))]) 23]) hs⟩
theorem api_Ctl.close {b : Nat} (x : api_Ctl)  {L : List As} {w0 w : World} (hi : True) (hs : Sep.St (blk b (#[Value.int .i64 ((x.Kind)), Value.int .i64 ((x.Ns)), Value.int .i64 ((x.Nr)), Value.bool ((x.Poll))]) 23 :: L) w0 w) : Sep.St (api_Ctl.at b x :: L) w0 w := by
  have h2 := St.join (m := [blk b (#[Value.int .i64 ((x.Kind)), Value.int .i64 ((x.Ns)), Value.int .i64 ((x.Nr)), Value.bool ((x.Poll))]) 23]) hs
  exact h2.mono fun h hh => ⟨hi, hh⟩

/-! ### signalman/control.Right: function 11 -/
def control_Right.f (a0 : api_Ctl) (a1 : Int) : Option (Bool) := ((control_modulus.f a1).bind fun t2 => (if t2 = true then (if a0.Kind = 0 then ((control_of.f a0.Ns a1).bind fun t6 => (if t6 = true then ((control_of.f a0.Nr a1).bind fun t9 => some (t9)) else some (false))) else (if a0.Kind = 1 then (if a0.Ns = 0 then ((control_of.f a0.Nr a1).bind fun t13 => some (t13)) else some (false)) else (if a0.Kind = 2 then (if a0.Ns = 0 then ((control_of.f a0.Nr a1).bind fun t17 => some (t17)) else some (false)) else (if a0.Kind ≥ 3 then (if a0.Kind ≤ 7 then (if a0.Ns = 0 then some (decide (a0.Nr = 0)) else some (false)) else some (false)) else some (false))))) else some (false)))
set_option maxRecDepth 100000 in
set_option maxHeartbeats 4000000 in
theorem control_Right.calls (a0 : api_Ctl) (a1 : Int) (R : As) (w0 w : World)  (r : Bool)  (H : control_Right.f a0 a1 = some r) (HS : Sep.St [R] w0 w) : Calls Try.prog 11 #[Value.agg #[Value.int .i64 (a0.Kind), Value.int .i64 (a0.Ns), Value.int .i64 (a0.Nr), Value.bool (a0.Poll)], Value.int .i64 (a1)] w (Ret fun u w => u = Value.bool (r) ∧ Sep.St [R] w0 w) := by
  unfold control_Right.f at H
  refine calls_enter Try.func11 rfl rfl ?_
  have H : _ = some r := H
  refine V.seq ?_
  refine V.region ?_
  refine W.ev (Y.box HS rfl) rfl rfl rfl ?_
  rintro _ w ⟨nb1, rfl, HS⟩
  have HS : Sep.St [blk nb1 (#[Value.int .i64 (a0.Kind), Value.int .i64 (a0.Ns), Value.int .i64 (a0.Nr), Value.bool (a0.Poll)]) 23, R] w0 w := HS
  refine W.rd (X.assign rfl) rfl rfl rfl ?_
  refine W.nil ?_
  refine At.next ?_
  refine V.keep [(1, Value.int .i64 (a1)), (2, Value.pointer (some ⟨nb1, 0, none⟩))] ⟨rfl, rfl, trivial⟩ ?_
  refine V.seq ?_
  refine V.block ?_
  refine V.seq ?_
  refine V.region ?_
  refine W.rd (X.move rfl) rfl rfl rfl ?_
  obtain ⟨t2, A3, H⟩ := bind_s H
  refine W.ev (Y.call Try.func19 (by kernel_rfl) rfl (vs := [Value.int .i64 (a1)]) rfl (control_modulus.calls a1 _ w0 _  t2  A3 (Sep.St.tailJoin (m := []) (r := [blk nb1 (#[Value.int .i64 (a0.Kind), Value.int .i64 (a0.Ns), Value.int .i64 (a0.Nr), Value.bool (a0.Poll)]) 23, R]) HS))) rfl rfl rfl ?_
  rintro _ w ⟨rfl, HS⟩
  replace HS := Sep.St.tailOpen (m := []) (r := [blk nb1 (#[Value.int .i64 (a0.Kind), Value.int .i64 (a0.Ns), Value.int .i64 (a0.Nr), Value.bool (a0.Poll)]) 23, R]) HS
  have HS : Sep.St [blk nb1 (#[Value.int .i64 (a0.Kind), Value.int .i64 (a0.Ns), Value.int .i64 (a0.Nr), Value.bool (a0.Poll)]) 23, R] w0 w := HS
  refine W.rd (X.not rfl) rfl rfl rfl ?_
  refine W.rd (X.assign rfl) rfl rfl rfl ?_
  refine W.nil ?_
  refine At.next ?_
  refine V.keep [(1, Value.int .i64 (a1)), (2, Value.pointer (some ⟨nb1, 0, none⟩)), (5, Value.bool (!(t2)))] ⟨rfl, rfl, rfl, trivial⟩ ?_
  by_cases c4 : t2 = true
  · replace H := ite_t c4 H
    refine V.condF (sb (n_t c4)) ?_
    refine V.seq ?_
    refine V.region ?_
    refine W.rd (X.fieldAddr 0 fo23_0 rfl) rfl rfl rfl ?_
    refine W.rd (X.loadAt 0 HS rfl Try.underlying3 rfl rfl rfl) rfl rfl rfl ?_
    refine W.rd (X.cmp (decide (a0.Kind = 0)) rfl rfl rfl rfl) rfl rfl rfl ?_
    refine W.rd (X.assign rfl) rfl rfl rfl ?_
    refine W.nil ?_
    refine At.next ?_
    refine V.keep [(1, Value.int .i64 (a1)), (2, Value.pointer (some ⟨nb1, 0, none⟩)), (9, Value.bool (decide (a0.Kind = 0)))] ⟨rfl, rfl, rfl, trivial⟩ ?_
    by_cases c5 : a0.Kind = 0
    · replace H := ite_t c5 H
      refine V.condT (sb (decide_eq_true c5)) ?_
      refine V.seq ?_
      refine V.region ?_
      refine W.rd (X.fieldAddr 1 fo23_1 rfl) rfl rfl rfl ?_
      refine W.rd (X.loadAt 0 HS rfl Try.underlying3 rfl rfl rfl) rfl rfl rfl ?_
      refine W.rd (X.move rfl) rfl rfl rfl ?_
      obtain ⟨t6, A7, H⟩ := bind_s H
      refine W.ev (Y.call Try.func20 (by kernel_rfl) rfl (vs := [Value.int .i64 (a0.Ns), Value.int .i64 (a1)]) rfl (control_of.calls a0.Ns a1 _ w0 _  t6  A7 (Sep.St.tailJoin (m := []) (r := [blk nb1 (#[Value.int .i64 (a0.Kind), Value.int .i64 (a0.Ns), Value.int .i64 (a0.Nr), Value.bool (a0.Poll)]) 23, R]) HS))) rfl rfl rfl ?_
      rintro _ w ⟨rfl, HS⟩
      replace HS := Sep.St.tailOpen (m := []) (r := [blk nb1 (#[Value.int .i64 (a0.Kind), Value.int .i64 (a0.Ns), Value.int .i64 (a0.Nr), Value.bool (a0.Poll)]) 23, R]) HS
      have HS : Sep.St [blk nb1 (#[Value.int .i64 (a0.Kind), Value.int .i64 (a0.Ns), Value.int .i64 (a0.Nr), Value.bool (a0.Poll)]) 23, R] w0 w := HS
      refine W.rd (X.move rfl) rfl rfl rfl ?_
      by_cases c8 : t6 = true
      · replace H := ite_t c8 H
        refine W.want 17 rfl (sb c8) ?_
        refine W.rd (X.fieldAddr 2 fo23_2 rfl) rfl rfl rfl ?_
        refine W.want 17 rfl (sb c8) ?_
        refine W.rd (X.loadAt 0 HS rfl Try.underlying3 rfl rfl rfl) rfl rfl rfl ?_
        refine W.want 17 rfl (sb c8) ?_
        refine W.rd (X.move rfl) rfl rfl rfl ?_
        refine W.want 17 rfl (sb c8) ?_
        obtain ⟨t9, A10, H⟩ := bind_s H
        refine W.ev (Y.call Try.func20 (by kernel_rfl) rfl (vs := [Value.int .i64 (a0.Nr), Value.int .i64 (a1)]) rfl (control_of.calls a0.Nr a1 _ w0 _  t9  A10 (Sep.St.tailJoin (m := []) (r := [blk nb1 (#[Value.int .i64 (a0.Kind), Value.int .i64 (a0.Ns), Value.int .i64 (a0.Nr), Value.bool (a0.Poll)]) 23, R]) HS))) rfl rfl rfl ?_
        rintro _ w ⟨rfl, HS⟩
        replace HS := Sep.St.tailOpen (m := []) (r := [blk nb1 (#[Value.int .i64 (a0.Kind), Value.int .i64 (a0.Ns), Value.int .i64 (a0.Nr), Value.bool (a0.Poll)]) 23, R]) HS
        have HS : Sep.St [blk nb1 (#[Value.int .i64 (a0.Kind), Value.int .i64 (a0.Ns), Value.int .i64 (a0.Nr), Value.bool (a0.Poll)]) 23, R] w0 w := HS
        refine W.rd (X.pickT (sb c8) rfl) rfl rfl rfl ?_
        refine W.rd (X.assign rfl) rfl rfl rfl ?_
        refine W.nil ?_
        refine At.next ?_
        refine V.keep [(4, Value.bool (t9))] ⟨rfl, trivial⟩ ?_
        refine V.ret ?_
        refine At.blockRet ?_
        refine At.thenRet ?_
        replace HS := HS.sel [1] [0] rfl
        cases H
        exact At.ret1 rfl rfl ⟨_, rfl, rfl, HS⟩
      · replace H := ite_f c8 H
        refine W.pass 17 rfl (sb (b_f c8)) rfl rfl ?_
        refine W.pass 17 rfl (sb (b_f c8)) rfl rfl ?_
        refine W.pass 17 rfl (sb (b_f c8)) rfl rfl ?_
        refine W.pass 17 rfl (sb (b_f c8)) rfl rfl ?_
        refine W.rd (X.pickF (sb (b_f c8)) rfl) rfl rfl rfl ?_
        refine W.rd (X.assign rfl) rfl rfl rfl ?_
        refine W.nil ?_
        refine At.next ?_
        refine V.keep [(4, Value.bool (false))] ⟨rfl, trivial⟩ ?_
        refine V.ret ?_
        refine At.blockRet ?_
        refine At.thenRet ?_
        replace HS := HS.sel [1] [0] rfl
        cases H
        exact At.ret1 rfl rfl ⟨_, rfl, rfl, HS⟩
    · replace H := ite_f c5 H
      refine V.condF (sb (decide_eq_false c5)) ?_
      refine V.seq ?_
      refine V.region ?_
      refine W.rd (X.fieldAddr 0 fo23_0 rfl) rfl rfl rfl ?_
      refine W.rd (X.loadAt 0 HS rfl Try.underlying3 rfl rfl rfl) rfl rfl rfl ?_
      refine W.rd (X.cmp (decide (a0.Kind = 1)) rfl rfl rfl rfl) rfl rfl rfl ?_
      refine W.rd (X.move rfl) rfl rfl rfl ?_
      by_cases c11 : a0.Kind = 1
      · replace H := ite_t c11 H
        refine W.pass 27 rfl (sb (decide_eq_true c11)) rfl rfl ?_
        refine W.pass 27 rfl (sb (decide_eq_true c11)) rfl rfl ?_
        refine W.pass 27 rfl (sb (decide_eq_true c11)) rfl rfl ?_
        refine W.rd (X.pickT (sb (decide_eq_true c11)) rfl) rfl rfl rfl ?_
        refine W.rd (X.assign rfl) rfl rfl rfl ?_
        refine W.nil ?_
        refine At.next ?_
        refine V.keep [(1, Value.int .i64 (a1)), (2, Value.pointer (some ⟨nb1, 0, none⟩)), (23, Value.bool (true))] ⟨rfl, rfl, rfl, trivial⟩ ?_
        refine V.condT rfl ?_
        refine V.seq ?_
        refine V.region ?_
        refine W.rd (X.fieldAddr 1 fo23_1 rfl) rfl rfl rfl ?_
        refine W.rd (X.loadAt 0 HS rfl Try.underlying3 rfl rfl rfl) rfl rfl rfl ?_
        refine W.rd (X.cmp (decide (a0.Ns = 0)) rfl rfl rfl rfl) rfl rfl rfl ?_
        refine W.rd (X.move rfl) rfl rfl rfl ?_
        by_cases c12 : a0.Ns = 0
        · replace H := ite_t c12 H
          refine W.want 35 rfl (sb (decide_eq_true c12)) ?_
          refine W.rd (X.fieldAddr 2 fo23_2 rfl) rfl rfl rfl ?_
          refine W.want 35 rfl (sb (decide_eq_true c12)) ?_
          refine W.rd (X.loadAt 0 HS rfl Try.underlying3 rfl rfl rfl) rfl rfl rfl ?_
          refine W.want 35 rfl (sb (decide_eq_true c12)) ?_
          refine W.rd (X.move rfl) rfl rfl rfl ?_
          refine W.want 35 rfl (sb (decide_eq_true c12)) ?_
          obtain ⟨t13, A14, H⟩ := bind_s H
          refine W.ev (Y.call Try.func20 (by kernel_rfl) rfl (vs := [Value.int .i64 (a0.Nr), Value.int .i64 (a1)]) rfl (control_of.calls a0.Nr a1 _ w0 _  t13  A14 (Sep.St.tailJoin (m := []) (r := [blk nb1 (#[Value.int .i64 (a0.Kind), Value.int .i64 (a0.Ns), Value.int .i64 (a0.Nr), Value.bool (a0.Poll)]) 23, R]) HS))) rfl rfl rfl ?_
          rintro _ w ⟨rfl, HS⟩
          replace HS := Sep.St.tailOpen (m := []) (r := [blk nb1 (#[Value.int .i64 (a0.Kind), Value.int .i64 (a0.Ns), Value.int .i64 (a0.Nr), Value.bool (a0.Poll)]) 23, R]) HS
          have HS : Sep.St [blk nb1 (#[Value.int .i64 (a0.Kind), Value.int .i64 (a0.Ns), Value.int .i64 (a0.Nr), Value.bool (a0.Poll)]) 23, R] w0 w := HS
          refine W.rd (X.pickT (sb (decide_eq_true c12)) rfl) rfl rfl rfl ?_
          refine W.rd (X.assign rfl) rfl rfl rfl ?_
          refine W.nil ?_
          refine At.next ?_
          refine V.keep [(4, Value.bool (t13))] ⟨rfl, trivial⟩ ?_
          refine V.ret ?_
          refine At.blockRet ?_
          refine At.thenRet ?_
          replace HS := HS.sel [1] [0] rfl
          cases H
          exact At.ret1 rfl rfl ⟨_, rfl, rfl, HS⟩
        · replace H := ite_f c12 H
          refine W.pass 35 rfl (sb (decide_eq_false c12)) rfl rfl ?_
          refine W.pass 35 rfl (sb (decide_eq_false c12)) rfl rfl ?_
          refine W.pass 35 rfl (sb (decide_eq_false c12)) rfl rfl ?_
          refine W.pass 35 rfl (sb (decide_eq_false c12)) rfl rfl ?_
          refine W.rd (X.pickF (sb (decide_eq_false c12)) rfl) rfl rfl rfl ?_
          refine W.rd (X.assign rfl) rfl rfl rfl ?_
          refine W.nil ?_
          refine At.next ?_
          refine V.keep [(4, Value.bool (false))] ⟨rfl, trivial⟩ ?_
          refine V.ret ?_
          refine At.blockRet ?_
          refine At.thenRet ?_
          replace HS := HS.sel [1] [0] rfl
          cases H
          exact At.ret1 rfl rfl ⟨_, rfl, rfl, HS⟩
      · replace H := ite_f c11 H
        refine W.want 27 rfl (sb (decide_eq_false c11)) ?_
        refine W.rd (X.fieldAddr 0 fo23_0 rfl) rfl rfl rfl ?_
        refine W.want 27 rfl (sb (decide_eq_false c11)) ?_
        refine W.rd (X.loadAt 0 HS rfl Try.underlying3 rfl rfl rfl) rfl rfl rfl ?_
        refine W.want 27 rfl (sb (decide_eq_false c11)) ?_
        refine W.rd (X.cmp (decide (a0.Kind = 2)) rfl rfl rfl rfl) rfl rfl rfl ?_
        refine W.rd (X.pickF (sb (decide_eq_false c11)) rfl) rfl rfl rfl ?_
        refine W.rd (X.assign rfl) rfl rfl rfl ?_
        refine W.nil ?_
        refine At.next ?_
        refine V.keep [(1, Value.int .i64 (a1)), (2, Value.pointer (some ⟨nb1, 0, none⟩)), (23, Value.bool (decide (a0.Kind = 2)))] ⟨rfl, rfl, rfl, trivial⟩ ?_
        by_cases c15 : a0.Kind = 2
        · replace H := ite_t c15 H
          refine V.condT (sb (decide_eq_true c15)) ?_
          refine V.seq ?_
          refine V.region ?_
          refine W.rd (X.fieldAddr 1 fo23_1 rfl) rfl rfl rfl ?_
          refine W.rd (X.loadAt 0 HS rfl Try.underlying3 rfl rfl rfl) rfl rfl rfl ?_
          refine W.rd (X.cmp (decide (a0.Ns = 0)) rfl rfl rfl rfl) rfl rfl rfl ?_
          refine W.rd (X.move rfl) rfl rfl rfl ?_
          by_cases c16 : a0.Ns = 0
          · replace H := ite_t c16 H
            refine W.want 35 rfl (sb (decide_eq_true c16)) ?_
            refine W.rd (X.fieldAddr 2 fo23_2 rfl) rfl rfl rfl ?_
            refine W.want 35 rfl (sb (decide_eq_true c16)) ?_
            refine W.rd (X.loadAt 0 HS rfl Try.underlying3 rfl rfl rfl) rfl rfl rfl ?_
            refine W.want 35 rfl (sb (decide_eq_true c16)) ?_
            refine W.rd (X.move rfl) rfl rfl rfl ?_
            refine W.want 35 rfl (sb (decide_eq_true c16)) ?_
            obtain ⟨t17, A18, H⟩ := bind_s H
            refine W.ev (Y.call Try.func20 (by kernel_rfl) rfl (vs := [Value.int .i64 (a0.Nr), Value.int .i64 (a1)]) rfl (control_of.calls a0.Nr a1 _ w0 _  t17  A18 (Sep.St.tailJoin (m := []) (r := [blk nb1 (#[Value.int .i64 (a0.Kind), Value.int .i64 (a0.Ns), Value.int .i64 (a0.Nr), Value.bool (a0.Poll)]) 23, R]) HS))) rfl rfl rfl ?_
            rintro _ w ⟨rfl, HS⟩
            replace HS := Sep.St.tailOpen (m := []) (r := [blk nb1 (#[Value.int .i64 (a0.Kind), Value.int .i64 (a0.Ns), Value.int .i64 (a0.Nr), Value.bool (a0.Poll)]) 23, R]) HS
            have HS : Sep.St [blk nb1 (#[Value.int .i64 (a0.Kind), Value.int .i64 (a0.Ns), Value.int .i64 (a0.Nr), Value.bool (a0.Poll)]) 23, R] w0 w := HS
            refine W.rd (X.pickT (sb (decide_eq_true c16)) rfl) rfl rfl rfl ?_
            refine W.rd (X.assign rfl) rfl rfl rfl ?_
            refine W.nil ?_
            refine At.next ?_
            refine V.keep [(4, Value.bool (t17))] ⟨rfl, trivial⟩ ?_
            refine V.ret ?_
            refine At.blockRet ?_
            refine At.thenRet ?_
            replace HS := HS.sel [1] [0] rfl
            cases H
            exact At.ret1 rfl rfl ⟨_, rfl, rfl, HS⟩
          · replace H := ite_f c16 H
            refine W.pass 35 rfl (sb (decide_eq_false c16)) rfl rfl ?_
            refine W.pass 35 rfl (sb (decide_eq_false c16)) rfl rfl ?_
            refine W.pass 35 rfl (sb (decide_eq_false c16)) rfl rfl ?_
            refine W.pass 35 rfl (sb (decide_eq_false c16)) rfl rfl ?_
            refine W.rd (X.pickF (sb (decide_eq_false c16)) rfl) rfl rfl rfl ?_
            refine W.rd (X.assign rfl) rfl rfl rfl ?_
            refine W.nil ?_
            refine At.next ?_
            refine V.keep [(4, Value.bool (false))] ⟨rfl, trivial⟩ ?_
            refine V.ret ?_
            refine At.blockRet ?_
            refine At.thenRet ?_
            replace HS := HS.sel [1] [0] rfl
            cases H
            exact At.ret1 rfl rfl ⟨_, rfl, rfl, HS⟩
        · replace H := ite_f c15 H
          refine V.condF (sb (decide_eq_false c15)) ?_
          refine V.skip ?_
          refine At.blockEnd ?_
          refine At.next ?_
          refine V.keep [(2, Value.pointer (some ⟨nb1, 0, none⟩))] ⟨rfl, trivial⟩ ?_
          refine V.seq ?_
          refine V.region ?_
          refine W.rd (X.fieldAddr 0 fo23_0 rfl) rfl rfl rfl ?_
          refine W.rd (X.loadAt 0 HS rfl Try.underlying3 rfl rfl rfl) rfl rfl rfl ?_
          refine W.rd (X.cmp (decide (a0.Kind ≥ 3)) rfl rfl rfl rfl) rfl rfl rfl ?_
          refine W.rd (X.move rfl) rfl rfl rfl ?_
          by_cases c19 : a0.Kind ≥ 3
          · replace H := ite_t c19 H
            refine W.want 44 rfl (sb (decide_eq_true c19)) ?_
            refine W.rd (X.fieldAddr 0 fo23_0 rfl) rfl rfl rfl ?_
            refine W.want 44 rfl (sb (decide_eq_true c19)) ?_
            refine W.rd (X.loadAt 0 HS rfl Try.underlying3 rfl rfl rfl) rfl rfl rfl ?_
            refine W.want 44 rfl (sb (decide_eq_true c19)) ?_
            refine W.rd (X.cmp (decide (a0.Kind ≤ 7)) rfl rfl rfl rfl) rfl rfl rfl ?_
            refine W.rd (X.pickT (sb (decide_eq_true c19)) rfl) rfl rfl rfl ?_
            refine W.rd (X.move rfl) rfl rfl rfl ?_
            by_cases c20 : a0.Kind ≤ 7
            · replace H := ite_t c20 H
              refine W.want 49 rfl (sb (decide_eq_true c20)) ?_
              refine W.rd (X.fieldAddr 1 fo23_1 rfl) rfl rfl rfl ?_
              refine W.want 49 rfl (sb (decide_eq_true c20)) ?_
              refine W.rd (X.loadAt 0 HS rfl Try.underlying3 rfl rfl rfl) rfl rfl rfl ?_
              refine W.want 49 rfl (sb (decide_eq_true c20)) ?_
              refine W.rd (X.cmp (decide (a0.Ns = 0)) rfl rfl rfl rfl) rfl rfl rfl ?_
              refine W.rd (X.pickT (sb (decide_eq_true c20)) rfl) rfl rfl rfl ?_
              refine W.rd (X.move rfl) rfl rfl rfl ?_
              by_cases c21 : a0.Ns = 0
              · replace H := ite_t c21 H
                refine W.want 54 rfl (sb (decide_eq_true c21)) ?_
                refine W.rd (X.fieldAddr 2 fo23_2 rfl) rfl rfl rfl ?_
                refine W.want 54 rfl (sb (decide_eq_true c21)) ?_
                refine W.rd (X.loadAt 0 HS rfl Try.underlying3 rfl rfl rfl) rfl rfl rfl ?_
                refine W.want 54 rfl (sb (decide_eq_true c21)) ?_
                refine W.rd (X.cmp (decide (a0.Nr = 0)) rfl rfl rfl rfl) rfl rfl rfl ?_
                refine W.rd (X.pickT (sb (decide_eq_true c21)) rfl) rfl rfl rfl ?_
                refine W.rd (X.assign rfl) rfl rfl rfl ?_
                refine W.nil ?_
                refine At.next ?_
                refine V.keep [(4, Value.bool (decide (a0.Nr = 0)))] ⟨rfl, trivial⟩ ?_
                refine V.ret ?_
                replace HS := HS.sel [1] [0] rfl
                cases H
                exact At.ret1 rfl rfl ⟨_, rfl, rfl, HS⟩
              · replace H := ite_f c21 H
                refine W.pass 54 rfl (sb (decide_eq_false c21)) rfl rfl ?_
                refine W.pass 54 rfl (sb (decide_eq_false c21)) rfl rfl ?_
                refine W.pass 54 rfl (sb (decide_eq_false c21)) rfl rfl ?_
                refine W.rd (X.pickF (sb (decide_eq_false c21)) rfl) rfl rfl rfl ?_
                refine W.rd (X.assign rfl) rfl rfl rfl ?_
                refine W.nil ?_
                refine At.next ?_
                refine V.keep [(4, Value.bool (false))] ⟨rfl, trivial⟩ ?_
                refine V.ret ?_
                replace HS := HS.sel [1] [0] rfl
                cases H
                exact At.ret1 rfl rfl ⟨_, rfl, rfl, HS⟩
            · replace H := ite_f c20 H
              refine W.pass 49 rfl (sb (decide_eq_false c20)) rfl rfl ?_
              refine W.pass 49 rfl (sb (decide_eq_false c20)) rfl rfl ?_
              refine W.pass 49 rfl (sb (decide_eq_false c20)) rfl rfl ?_
              refine W.rd (X.pickF (sb (decide_eq_false c20)) rfl) rfl rfl rfl ?_
              refine W.rd (X.move rfl) rfl rfl rfl ?_
              refine W.pass 54 rfl rfl rfl rfl ?_
              refine W.pass 54 rfl rfl rfl rfl ?_
              refine W.pass 54 rfl rfl rfl rfl ?_
              refine W.rd (X.pickF rfl rfl) rfl rfl rfl ?_
              refine W.rd (X.assign rfl) rfl rfl rfl ?_
              refine W.nil ?_
              refine At.next ?_
              refine V.keep [(4, Value.bool (false))] ⟨rfl, trivial⟩ ?_
              refine V.ret ?_
              replace HS := HS.sel [1] [0] rfl
              cases H
              exact At.ret1 rfl rfl ⟨_, rfl, rfl, HS⟩
          · replace H := ite_f c19 H
            refine W.pass 44 rfl (sb (decide_eq_false c19)) rfl rfl ?_
            refine W.pass 44 rfl (sb (decide_eq_false c19)) rfl rfl ?_
            refine W.pass 44 rfl (sb (decide_eq_false c19)) rfl rfl ?_
            refine W.rd (X.pickF (sb (decide_eq_false c19)) rfl) rfl rfl rfl ?_
            refine W.rd (X.move rfl) rfl rfl rfl ?_
            refine W.pass 49 rfl rfl rfl rfl ?_
            refine W.pass 49 rfl rfl rfl rfl ?_
            refine W.pass 49 rfl rfl rfl rfl ?_
            refine W.rd (X.pickF rfl rfl) rfl rfl rfl ?_
            refine W.rd (X.move rfl) rfl rfl rfl ?_
            refine W.pass 54 rfl rfl rfl rfl ?_
            refine W.pass 54 rfl rfl rfl rfl ?_
            refine W.pass 54 rfl rfl rfl rfl ?_
            refine W.rd (X.pickF rfl rfl) rfl rfl rfl ?_
            refine W.rd (X.assign rfl) rfl rfl rfl ?_
            refine W.nil ?_
            refine At.next ?_
            refine V.keep [(4, Value.bool (false))] ⟨rfl, trivial⟩ ?_
            refine V.ret ?_
            replace HS := HS.sel [1] [0] rfl
            cases H
            exact At.ret1 rfl rfl ⟨_, rfl, rfl, HS⟩
  · replace H := ite_f c4 H
    refine V.condT (sb (n_f (b_f c4))) ?_
    refine V.seq ?_
    refine V.region ?_
    refine W.rd (X.assign rfl) rfl rfl rfl ?_
    refine W.nil ?_
    refine At.next ?_
    refine V.keep [(4, Value.bool (false))] ⟨rfl, trivial⟩ ?_
    refine V.ret ?_
    refine At.blockRet ?_
    refine At.thenRet ?_
    replace HS := HS.sel [1] [0] rfl
    cases H
    exact At.ret1 rfl rfl ⟨_, rfl, rfl, HS⟩

/-! ### signalman/control.bit: function 16 -/
def control_bit.f (a0 : Bool) : Option (Int) := (if a0 = true then some (1) else some (0))
set_option maxRecDepth 100000 in
set_option maxHeartbeats 4000000 in
theorem control_bit.calls (a0 : Bool) (R : As) (w0 w : World)  (r : Int)  (H : control_bit.f a0 = some r) (HS : Sep.St [R] w0 w) : Calls Try.prog 16 #[Value.bool (a0)] w (Ret fun u w => u = Value.int .i64 (r) ∧ Sep.St [R] w0 w) := by
  unfold control_bit.f at H
  refine calls_enter Try.func16 rfl rfl ?_
  have H : _ = some r := H
  refine V.seq ?_
  refine V.region ?_
  refine W.rd (X.assign rfl) rfl rfl rfl ?_
  refine W.nil ?_
  refine At.next ?_
  refine V.keep [(0, Value.bool (a0))] ⟨rfl, trivial⟩ ?_
  refine V.seq ?_
  refine V.seq ?_
  refine V.region ?_
  refine W.rd (X.move rfl) rfl rfl rfl ?_
  refine W.nil ?_
  refine At.next ?_
  refine V.keep [(3, Value.bool (a0))] ⟨rfl, trivial⟩ ?_
  by_cases c1 : a0 = true
  · replace H := ite_t c1 H
    refine V.condT (sb c1) ?_
    refine V.seq ?_
    refine V.region ?_
    refine W.rd (X.assign rfl) rfl rfl rfl ?_
    refine W.nil ?_
    refine At.next ?_
    refine V.keep [(2, Value.int .i64 (1))] ⟨rfl, trivial⟩ ?_
    refine V.ret ?_
    refine At.thenRet ?_
    cases H
    exact At.ret1 rfl rfl ⟨_, rfl, rfl, HS⟩
  · replace H := ite_f c1 H
    refine V.condF (sb (b_f c1)) ?_
    refine V.skip ?_
    refine At.next ?_
    refine V.keep [] trivial ?_
    refine V.seq ?_
    refine V.region ?_
    refine W.rd (X.assign rfl) rfl rfl rfl ?_
    refine W.nil ?_
    refine At.next ?_
    refine V.keep [(2, Value.int .i64 (0))] ⟨rfl, trivial⟩ ?_
    refine V.ret ?_
    cases H
    exact At.ret1 rfl rfl ⟨_, rfl, rfl, HS⟩

/-! ### signalman/control.put: function 17 -/
def control_put.f (a0 : List Int) (a1 : Int) (a2 : Int) : Option (List Int) := (if ((a0).length : Int) + (([IntKind.u8.wrap (a1)] : List Int)).length ≤ 1099511627776 then (if a2 = 32768 then (if ((a0 ++ ([IntKind.u8.wrap (a1)] : List Int)).length : Int) + (([IntKind.u8.wrap ((a1).fdiv (2 ^ (min ((8 : Int)).toNat IntKind.i64.bits)))] : List Int)).length ≤ 1099511627776 then some ((a0 ++ ([IntKind.u8.wrap (a1)] : List Int)) ++ ([IntKind.u8.wrap ((a1).fdiv (2 ^ (min ((8 : Int)).toNat IntKind.i64.bits)))] : List Int)) else none) else some (a0 ++ ([IntKind.u8.wrap (a1)] : List Int))) else none)
set_option maxRecDepth 100000 in
set_option maxHeartbeats 4000000 in
theorem control_put.calls (a0 : List Int) (a1 : Int) (a2 : Int) (R : As) (w0 w : World) (sa0 : Option Addr) (sc0 : Nat) (r : List Int)  (H : control_put.f a0 a1 a2 = some r) (HS : Sep.St [row 5 1 (.slice sa0 (a0).length sc0) (a0).length ((a0).map (Value.int .u8)), R] w0 w) : Calls Try.prog 17 #[Value.slice sa0 (a0).length sc0, Value.int .i64 (a1), Value.int .i64 (a2)] w (Ret fun u w => ∃ (aq0 : Option Addr) (cq0 : Nat), u = Value.slice aq0 (r).length cq0 ∧ Sep.St [row 5 1 (.slice aq0 (r).length cq0) (r).length ((r).map (Value.int .u8)), R] w0 w) := by
  unfold control_put.f at H
  refine calls_enter Try.func17 rfl rfl ?_
  have H : _ = some r := H
  refine V.seq ?_
  refine V.region ?_
  refine W.rd (X.assign rfl) rfl rfl rfl ?_
  refine W.nil ?_
  refine At.next ?_
  refine V.keep [(0, Value.slice sa0 (a0).length sc0), (1, Value.int .i64 (a1)), (2, Value.int .i64 (a2))] ⟨rfl, rfl, rfl, trivial⟩ ?_
  refine V.seq ?_
  refine V.region ?_
  refine W.rd (X.move rfl) rfl rfl rfl ?_
  refine W.rd (X.move rfl) rfl rfl rfl ?_
  refine W.rd (X.conv Try.underlying3 Try.underlying5 rfl) rfl rfl rfl ?_
  refine W.ev (Y.litB (e := 5) (sz := 1) (vs := #[(0, Value.int .u8 (IntKind.u8.wrap (a1)))]) [Value.int .u8 (IntKind.u8.wrap (a1))] HS (fun a ha => by simp only [List.map_toArray, List.map_cons, List.map_nil]; rw [ha.ev (x := .tmp 9) (v := Value.int .u8 (IntKind.u8.wrap (a1))) rfl]; try rfl) rfl (by decide) (fun _ => by kernel_rfl)) rfl rfl rfl ?_
  rintro _ w ⟨lb3, rfl, HS⟩
  have HS : Sep.St [row 5 1 (.slice (some ⟨lb3, 0, none⟩) (([IntKind.u8.wrap (a1)] : List Int)).length 1) (([IntKind.u8.wrap (a1)] : List Int)).length ((([IntKind.u8.wrap (a1)] : List Int)).map (Value.int .u8)), row 5 1 (.slice sa0 (a0).length sc0) (a0).length ((a0).map (Value.int .u8)), R] w0 w := HS
  obtain ⟨c4, H⟩ := ite_n H
  refine W.ev (Y.appF (Value.int .u8) (fun _ => rfl) 1 Try.underlying26 ap5 rfl HS rfl rfl rfl (rdC.at 0 row_rd HS rfl) (by omega) (by omega)) rfl rfl rfl ?_
  rintro _ w ⟨ra5, rc6, rfl, HS⟩
  have HS : Sep.St [row 5 1 (.slice (some ⟨lb3, 0, none⟩) (([IntKind.u8.wrap (a1)] : List Int)).length 1) (([IntKind.u8.wrap (a1)] : List Int)).length ((([IntKind.u8.wrap (a1)] : List Int)).map (Value.int .u8)), row 5 1 (.slice ra5 (a0 ++ ([IntKind.u8.wrap (a1)] : List Int)).length rc6) (a0 ++ ([IntKind.u8.wrap (a1)] : List Int)).length ((a0 ++ ([IntKind.u8.wrap (a1)] : List Int)).map (Value.int .u8)), R] w0 w := HS
  refine W.rd (X.assign rfl) rfl rfl rfl ?_
  refine W.nil ?_
  refine At.next ?_
  refine V.keep [(0, Value.slice ra5 (a0 ++ ([IntKind.u8.wrap (a1)] : List Int)).length rc6), (1, Value.int .i64 (a1)), (2, Value.int .i64 (a2))] ⟨rfl, rfl, rfl, trivial⟩ ?_
  refine V.seq ?_
  refine V.seq ?_
  refine V.region ?_
  refine W.rd (X.move rfl) rfl rfl rfl ?_
  refine W.rd (X.cmp (decide (a2 = 32768)) rfl rfl rfl rfl) rfl rfl rfl ?_
  refine W.nil ?_
  refine At.next ?_
  refine V.keep [(0, Value.slice ra5 (a0 ++ ([IntKind.u8.wrap (a1)] : List Int)).length rc6), (1, Value.int .i64 (a1)), (13, Value.bool (decide (a2 = 32768)))] ⟨rfl, rfl, rfl, trivial⟩ ?_
  by_cases c7 : a2 = 32768
  · replace H := ite_t c7 H
    refine V.condT (sb (decide_eq_true c7)) ?_
    refine V.region ?_
    refine W.rd (X.move rfl) rfl rfl rfl ?_
    refine W.rd (X.move rfl) rfl rfl rfl ?_
    refine W.rd (X.shr rfl rfl (by decide)) rfl rfl rfl ?_
    refine W.rd (X.conv Try.underlying3 Try.underlying5 rfl) rfl rfl rfl ?_
    refine W.ev (Y.litB (e := 5) (sz := 1) (vs := #[(0, Value.int .u8 (IntKind.u8.wrap ((a1).fdiv (2 ^ (min ((8 : Int)).toNat IntKind.i64.bits)))))]) [Value.int .u8 (IntKind.u8.wrap ((a1).fdiv (2 ^ (min ((8 : Int)).toNat IntKind.i64.bits))))] HS (fun a ha => by simp only [List.map_toArray, List.map_cons, List.map_nil]; rw [ha.ev (x := .tmp 17) (v := Value.int .u8 (IntKind.u8.wrap ((a1).fdiv (2 ^ (min ((8 : Int)).toNat IntKind.i64.bits))))) rfl]; try rfl) rfl (by decide) (fun _ => by kernel_rfl)) rfl rfl rfl ?_
    rintro _ w ⟨lb10, rfl, HS⟩
    have HS : Sep.St [row 5 1 (.slice (some ⟨lb10, 0, none⟩) (([IntKind.u8.wrap ((a1).fdiv (2 ^ (min ((8 : Int)).toNat IntKind.i64.bits)))] : List Int)).length 1) (([IntKind.u8.wrap ((a1).fdiv (2 ^ (min ((8 : Int)).toNat IntKind.i64.bits)))] : List Int)).length ((([IntKind.u8.wrap ((a1).fdiv (2 ^ (min ((8 : Int)).toNat IntKind.i64.bits)))] : List Int)).map (Value.int .u8)), row 5 1 (.slice (some ⟨lb3, 0, none⟩) (([IntKind.u8.wrap (a1)] : List Int)).length 1) (([IntKind.u8.wrap (a1)] : List Int)).length ((([IntKind.u8.wrap (a1)] : List Int)).map (Value.int .u8)), row 5 1 (.slice ra5 (a0 ++ ([IntKind.u8.wrap (a1)] : List Int)).length rc6) (a0 ++ ([IntKind.u8.wrap (a1)] : List Int)).length ((a0 ++ ([IntKind.u8.wrap (a1)] : List Int)).map (Value.int .u8)), R] w0 w := HS
    obtain ⟨c11, H⟩ := ite_n H
    refine W.ev (Y.appF (Value.int .u8) (fun _ => rfl) 2 Try.underlying26 ap5 rfl HS rfl rfl rfl (rdC.at 0 row_rd HS rfl) (by omega) (by omega)) rfl rfl rfl ?_
    rintro _ w ⟨ra12, rc13, rfl, HS⟩
    have HS : Sep.St [row 5 1 (.slice (some ⟨lb10, 0, none⟩) (([IntKind.u8.wrap ((a1).fdiv (2 ^ (min ((8 : Int)).toNat IntKind.i64.bits)))] : List Int)).length 1) (([IntKind.u8.wrap ((a1).fdiv (2 ^ (min ((8 : Int)).toNat IntKind.i64.bits)))] : List Int)).length ((([IntKind.u8.wrap ((a1).fdiv (2 ^ (min ((8 : Int)).toNat IntKind.i64.bits)))] : List Int)).map (Value.int .u8)), row 5 1 (.slice (some ⟨lb3, 0, none⟩) (([IntKind.u8.wrap (a1)] : List Int)).length 1) (([IntKind.u8.wrap (a1)] : List Int)).length ((([IntKind.u8.wrap (a1)] : List Int)).map (Value.int .u8)), row 5 1 (.slice ra12 ((a0 ++ ([IntKind.u8.wrap (a1)] : List Int)) ++ ([IntKind.u8.wrap ((a1).fdiv (2 ^ (min ((8 : Int)).toNat IntKind.i64.bits)))] : List Int)).length rc13) ((a0 ++ ([IntKind.u8.wrap (a1)] : List Int)) ++ ([IntKind.u8.wrap ((a1).fdiv (2 ^ (min ((8 : Int)).toNat IntKind.i64.bits)))] : List Int)).length (((a0 ++ ([IntKind.u8.wrap (a1)] : List Int)) ++ ([IntKind.u8.wrap ((a1).fdiv (2 ^ (min ((8 : Int)).toNat IntKind.i64.bits)))] : List Int)).map (Value.int .u8)), R] w0 w := HS
    refine W.rd (X.assign rfl) rfl rfl rfl ?_
    refine W.nil ?_
    refine At.next ?_
    refine V.keep [(0, Value.slice ra12 ((a0 ++ ([IntKind.u8.wrap (a1)] : List Int)) ++ ([IntKind.u8.wrap ((a1).fdiv (2 ^ (min ((8 : Int)).toNat IntKind.i64.bits)))] : List Int)).length rc13)] ⟨rfl, trivial⟩ ?_
    refine V.seq ?_
    refine V.region ?_
    refine W.rd (X.move rfl) rfl rfl rfl ?_
    refine W.rd (X.assign rfl) rfl rfl rfl ?_
    refine W.nil ?_
    refine At.next ?_
    refine V.keep [(6, Value.slice ra12 ((a0 ++ ([IntKind.u8.wrap (a1)] : List Int)) ++ ([IntKind.u8.wrap ((a1).fdiv (2 ^ (min ((8 : Int)).toNat IntKind.i64.bits)))] : List Int)).length rc13)] ⟨rfl, trivial⟩ ?_
    refine V.ret ?_
    replace HS := HS.sel [2, 3] [0, 1] rfl
    cases H
    exact At.ret1 rfl rfl ⟨_, rfl, ra12, rc13, rfl, HS⟩
  · replace H := ite_f c7 H
    refine V.condF (sb (decide_eq_false c7)) ?_
    refine V.skip ?_
    refine At.next ?_
    refine V.keep [(0, Value.slice ra5 (a0 ++ ([IntKind.u8.wrap (a1)] : List Int)).length rc6)] ⟨rfl, trivial⟩ ?_
    refine V.seq ?_
    refine V.region ?_
    refine W.rd (X.move rfl) rfl rfl rfl ?_
    refine W.rd (X.assign rfl) rfl rfl rfl ?_
    refine W.nil ?_
    refine At.next ?_
    refine V.keep [(6, Value.slice ra5 (a0 ++ ([IntKind.u8.wrap (a1)] : List Int)).length rc6)] ⟨rfl, trivial⟩ ?_
    refine V.ret ?_
    replace HS := HS.sel [1, 2] [0] rfl
    cases H
    exact At.ret1 rfl rfl ⟨_, rfl, ra5, rc6, rfl, HS⟩

/-! ### signalman/control.plain: function 18 -/
def control_plain.f  : Option (List Int) := some (([111, 99, 67, 15, 135] : List Int))
set_option maxRecDepth 100000 in
set_option maxHeartbeats 4000000 in
theorem control_plain.calls  (R : As) (w0 w : World)  (r : List Int)  (H : control_plain.f  = some r) (HS : Sep.St [R] w0 w) : Calls Try.prog 18 #[] w (Ret fun u w => ∃ (aq0 : Option Addr) (cq0 : Nat), u = Value.slice aq0 (r).length cq0 ∧ Sep.St [row 5 1 (.slice aq0 (r).length cq0) (r).length ((r).map (Value.int .u8)), R] w0 w) := by
  unfold control_plain.f at H
  refine calls_enter Try.func18 rfl rfl ?_
  have H : _ = some r := H
  refine V.seq ?_
  refine V.region ?_
  refine W.rd (X.assign rfl) rfl rfl rfl ?_
  refine W.nil ?_
  refine At.next ?_
  refine V.keep [] trivial ?_
  refine V.seq ?_
  refine V.region ?_
  refine W.ev (Y.litB (e := 5) (sz := 1) (vs := #[(0, Value.int .u8 (111)), (1, Value.int .u8 (99)), (2, Value.int .u8 (67)), (3, Value.int .u8 (15)), (4, Value.int .u8 (135))]) [Value.int .u8 (111), Value.int .u8 (99), Value.int .u8 (67), Value.int .u8 (15), Value.int .u8 (135)] HS (fun a ha => by simp only [List.map_toArray, List.map_cons, List.map_nil]; rw [ha.ev (x := .const (Value.int .u8 (111))) (v := Value.int .u8 (111)) rfl]; rw [ha.ev (x := .const (Value.int .u8 (99))) (v := Value.int .u8 (99)) rfl]; rw [ha.ev (x := .const (Value.int .u8 (67))) (v := Value.int .u8 (67)) rfl]; rw [ha.ev (x := .const (Value.int .u8 (15))) (v := Value.int .u8 (15)) rfl]; rw [ha.ev (x := .const (Value.int .u8 (135))) (v := Value.int .u8 (135)) rfl]; try rfl) rfl (by decide) (fun _ => by kernel_rfl)) rfl rfl rfl ?_
  rintro _ w ⟨lb3, rfl, HS⟩
  have HS : Sep.St [row 5 1 (.slice (some ⟨lb3, 0, none⟩) (([111, 99, 67, 15, 135] : List Int)).length 5) (([111, 99, 67, 15, 135] : List Int)).length ((([111, 99, 67, 15, 135] : List Int)).map (Value.int .u8)), R] w0 w := HS
  refine W.rd (X.assign rfl) rfl rfl rfl ?_
  refine W.nil ?_
  refine At.next ?_
  refine V.keep [(0, Value.slice (some ⟨lb3, 0, none⟩) (([111, 99, 67, 15, 135] : List Int)).length 5)] ⟨rfl, trivial⟩ ?_
  refine V.ret ?_
  cases H
  exact At.ret1 rfl rfl ⟨_, rfl, (some ⟨lb3, 0, none⟩), 5, rfl, HS⟩

/-! ### signalman/control.Bytes: function 10 -/
def control_Bytes.f (a0 : api_Ctl) (a1 : Int) : Option (List Int) := ((control_Right.f a0 a1).bind fun t2 => (if t2 = true then ((control_bit.f a0.Poll).bind fun t5 => (if a0.Kind = 0 then ((control_put.f ([] : List Int) (w64 (2 * a0.Ns)) a1).bind fun t8 => ((control_put.f t8 (w64 ((w64 (2 * a0.Nr)) + t5)) a1).bind fun t10 => some (t10))) else (if a0.Kind = 1 then ((control_put.f ([] : List Int) 1 a1).bind fun t13 => ((control_put.f t13 (w64 ((w64 (2 * a0.Nr)) + t5)) a1).bind fun t15 => some (t15))) else (if a0.Kind = 2 then ((control_put.f ([] : List Int) 9 a1).bind fun t18 => ((control_put.f t18 (w64 ((w64 (2 * a0.Nr)) + t5)) a1).bind fun t20 => some (t20))) else ((control_plain.f ).bind fun t22 => (if 0 ≤ w64 (a0.Kind - 3) ∧ w64 (a0.Kind - 3) < ((t22).length : Int) then some (([ior .u8 ((t22).getD (w64 (a0.Kind - 3)).toNat 0) (IntKind.u8.wrap (w64 (t5 * 16)))] : List Int)) else none)))))) else some (([] : List Int))))
set_option maxRecDepth 100000 in
set_option maxHeartbeats 4000000 in
theorem control_Bytes.calls (a0 : api_Ctl) (a1 : Int) (R : As) (w0 w : World)  (r : List Int)  (H : control_Bytes.f a0 a1 = some r) (HS : Sep.St [R] w0 w) : Calls Try.prog 10 #[Value.agg #[Value.int .i64 (a0.Kind), Value.int .i64 (a0.Ns), Value.int .i64 (a0.Nr), Value.bool (a0.Poll)], Value.int .i64 (a1)] w (Ret fun u w => ∃ (aq0 : Option Addr) (cq0 : Nat), u = Value.slice aq0 (r).length cq0 ∧ Sep.St [row 5 1 (.slice aq0 (r).length cq0) (r).length ((r).map (Value.int .u8)), R] w0 w) := by
  unfold control_Bytes.f at H
  refine calls_enter Try.func10 rfl rfl ?_
  have H : _ = some r := H
  refine V.seq ?_
  refine V.region ?_
  refine W.ev (Y.box HS rfl) rfl rfl rfl ?_
  rintro _ w ⟨nb1, rfl, HS⟩
  have HS : Sep.St [blk nb1 (#[Value.int .i64 (a0.Kind), Value.int .i64 (a0.Ns), Value.int .i64 (a0.Nr), Value.bool (a0.Poll)]) 23, R] w0 w := HS
  refine W.rd (X.assign rfl) rfl rfl rfl ?_
  refine W.nil ?_
  refine At.next ?_
  refine V.keep [(1, Value.int .i64 (a1)), (2, Value.pointer (some ⟨nb1, 0, none⟩))] ⟨rfl, rfl, trivial⟩ ?_
  refine V.seq ?_
  refine V.seq ?_
  refine V.region ?_
  refine W.rd (X.loadSt 0 [Value.int .i64 (a0.Kind), Value.int .i64 (a0.Ns), Value.int .i64 (a0.Nr), Value.bool (a0.Poll)] HS rfl Try.underlying23 rfl inf23 rfl rfl) rfl rfl rfl ?_
  refine W.rd (X.move rfl) rfl rfl rfl ?_
  obtain ⟨t2, A3, H⟩ := bind_s H
  refine W.ev (Y.call Try.func11 (by kernel_rfl) rfl (vs := [Value.agg #[Value.int .i64 (a0.Kind), Value.int .i64 (a0.Ns), Value.int .i64 (a0.Nr), Value.bool (a0.Poll)], Value.int .i64 (a1)]) rfl (control_Right.calls a0 a1 _ w0 _  t2  A3 (Sep.St.tailJoin (m := []) (r := [blk nb1 (#[Value.int .i64 (a0.Kind), Value.int .i64 (a0.Ns), Value.int .i64 (a0.Nr), Value.bool (a0.Poll)]) 23, R]) HS))) rfl rfl rfl ?_
  rintro _ w ⟨rfl, HS⟩
  replace HS := Sep.St.tailOpen (m := []) (r := [blk nb1 (#[Value.int .i64 (a0.Kind), Value.int .i64 (a0.Ns), Value.int .i64 (a0.Nr), Value.bool (a0.Poll)]) 23, R]) HS
  have HS : Sep.St [blk nb1 (#[Value.int .i64 (a0.Kind), Value.int .i64 (a0.Ns), Value.int .i64 (a0.Nr), Value.bool (a0.Poll)]) 23, R] w0 w := HS
  refine W.rd (X.not rfl) rfl rfl rfl ?_
  refine W.nil ?_
  refine At.next ?_
  refine V.keep [(1, Value.int .i64 (a1)), (2, Value.pointer (some ⟨nb1, 0, none⟩)), (9, Value.bool (!(t2)))] ⟨rfl, rfl, rfl, trivial⟩ ?_
  by_cases c4 : t2 = true
  · replace H := ite_t c4 H
    refine V.condF (sb (n_t c4)) ?_
    refine V.skip ?_
    refine At.next ?_
    refine V.keep [(1, Value.int .i64 (a1)), (2, Value.pointer (some ⟨nb1, 0, none⟩))] ⟨rfl, rfl, trivial⟩ ?_
    refine V.seq ?_
    refine V.region ?_
    refine W.rd (X.fieldAddr 3 fo23_3 rfl) rfl rfl rfl ?_
    refine W.rd (X.loadAt 0 HS rfl Try.underlying4 rfl rfl rfl) rfl rfl rfl ?_
    obtain ⟨t5, A6, H⟩ := bind_s H
    refine W.ev (Y.call Try.func16 (by kernel_rfl) rfl (vs := [Value.bool (a0.Poll)]) rfl (control_bit.calls a0.Poll _ w0 _  t5  A6 (Sep.St.tailJoin (m := []) (r := [blk nb1 (#[Value.int .i64 (a0.Kind), Value.int .i64 (a0.Ns), Value.int .i64 (a0.Nr), Value.bool (a0.Poll)]) 23, R]) HS))) rfl rfl rfl ?_
    rintro _ w ⟨rfl, HS⟩
    replace HS := Sep.St.tailOpen (m := []) (r := [blk nb1 (#[Value.int .i64 (a0.Kind), Value.int .i64 (a0.Ns), Value.int .i64 (a0.Nr), Value.bool (a0.Poll)]) 23, R]) HS
    have HS : Sep.St [blk nb1 (#[Value.int .i64 (a0.Kind), Value.int .i64 (a0.Ns), Value.int .i64 (a0.Nr), Value.bool (a0.Poll)]) 23, R] w0 w := HS
    refine W.rd (X.assign rfl) rfl rfl rfl ?_
    refine W.nil ?_
    refine At.next ?_
    refine V.keep [(1, Value.int .i64 (a1)), (2, Value.pointer (some ⟨nb1, 0, none⟩)), (5, Value.int .i64 (t5))] ⟨rfl, rfl, rfl, trivial⟩ ?_
    refine V.seq ?_
    refine V.seq ?_
    refine V.region ?_
    refine W.rd (X.fieldAddr 0 fo23_0 rfl) rfl rfl rfl ?_
    refine W.rd (X.loadAt 0 HS rfl Try.underlying3 rfl rfl rfl) rfl rfl rfl ?_
    refine W.nil ?_
    refine At.next ?_
    refine V.keep [(1, Value.int .i64 (a1)), (2, Value.pointer (some ⟨nb1, 0, none⟩)), (5, Value.int .i64 (t5)), (14, Value.int .i64 (a0.Kind))] ⟨rfl, rfl, rfl, rfl, trivial⟩ ?_
    refine V.block ?_
    refine V.seq ?_
    refine V.region ?_
    refine W.rd (X.cmp (decide (a0.Kind = 0)) rfl rfl rfl rfl) rfl rfl rfl ?_
    refine W.rd (X.assign rfl) rfl rfl rfl ?_
    refine W.nil ?_
    refine At.next ?_
    refine V.keep [(1, Value.int .i64 (a1)), (2, Value.pointer (some ⟨nb1, 0, none⟩)), (5, Value.int .i64 (t5)), (14, Value.int .i64 (a0.Kind)), (15, Value.bool (decide (a0.Kind = 0)))] ⟨rfl, rfl, rfl, rfl, rfl, trivial⟩ ?_
    by_cases c7 : a0.Kind = 0
    · replace H := ite_t c7 H
      refine V.condT (sb (decide_eq_true c7)) ?_
      refine V.seq ?_
      refine V.draw (es := [4, 11]) (bl := [12]) (f := [(17, Value.pointer (some ⟨nb1, 0 + 1, none⟩)), (18, Value.int .i64 (a0.Ns)), (19, Value.int .i64 (w64 (2 * a0.Ns))), (20, Value.int .i64 (a1)), (22, Value.pointer (some ⟨nb1, 0 + 2, none⟩)), (23, Value.int .i64 (a0.Nr)), (24, Value.int .i64 (w64 (2 * a0.Nr))), (25, Value.int .i64 (t5)), (26, Value.int .i64 (w64 ((w64 (2 * a0.Nr)) + t5))), (27, Value.int .i64 (a1))]) (fun w => Sep.St [blk nb1 (#[Value.int .i64 (a0.Kind), Value.int .i64 (a0.Ns), Value.int .i64 (a0.Nr), Value.bool (a0.Poll)]) 23, R] w0 w) mo HS.drew rfl ?_
      refine T.event _ [(19, Value.int .i64 (w64 (2 * a0.Ns))), (20, Value.int .i64 (a1))] rfl rfl ⟨⟨_, Value.pointer (some ⟨nb1, 0 + 1, none⟩), [(2, Value.pointer (some ⟨nb1, 0, none⟩))], 17, rfl, rfl, ⟨.inl ⟨rfl, rfl⟩, trivial⟩, .run rfl (fun w HS => X.fieldAddr 1 fo23_1 rfl), rfl, rfl, rfl⟩, ⟨_, Value.int .i64 (a0.Ns), [(17, Value.pointer (some ⟨nb1, 0 + 1, none⟩))], 18, rfl, rfl, ⟨.inr ⟨rfl, rfl⟩, trivial⟩, .run rfl (fun w HS => X.loadAt 0 HS rfl Try.underlying3 rfl rfl rfl), rfl, rfl, rfl⟩, ⟨_, Value.int .i64 (w64 (2 * a0.Ns)), [(18, Value.int .i64 (a0.Ns))], 19, rfl, rfl, ⟨.inr ⟨rfl, rfl⟩, trivial⟩, .run rfl (fun w HS => X.mul rfl rfl), rfl, rfl, rfl⟩, ⟨_, Value.int .i64 (a1), [(1, Value.int .i64 (a1))], 20, rfl, rfl, ⟨.inl ⟨rfl, rfl⟩, trivial⟩, .run rfl (fun w HS => X.move rfl), rfl, rfl, rfl⟩, ⟨_, Value.pointer (some ⟨nb1, 0 + 2, none⟩), [(2, Value.pointer (some ⟨nb1, 0, none⟩))], 22, rfl, rfl, ⟨.inl ⟨rfl, rfl⟩, trivial⟩, .run rfl (fun w HS => X.fieldAddr 2 fo23_2 rfl), rfl, rfl, rfl⟩, ⟨_, Value.int .i64 (a0.Nr), [(22, Value.pointer (some ⟨nb1, 0 + 2, none⟩))], 23, rfl, rfl, ⟨.inr ⟨rfl, rfl⟩, trivial⟩, .run rfl (fun w HS => X.loadAt 0 HS rfl Try.underlying3 rfl rfl rfl), rfl, rfl, rfl⟩, ⟨_, Value.int .i64 (w64 (2 * a0.Nr)), [(23, Value.int .i64 (a0.Nr))], 24, rfl, rfl, ⟨.inr ⟨rfl, rfl⟩, trivial⟩, .run rfl (fun w HS => X.mul rfl rfl), rfl, rfl, rfl⟩, ⟨_, Value.int .i64 (t5), [(5, Value.int .i64 (t5))], 25, rfl, rfl, ⟨.inl ⟨rfl, rfl⟩, trivial⟩, .run rfl (fun w HS => X.move rfl), rfl, rfl, rfl⟩, ⟨_, Value.int .i64 (w64 ((w64 (2 * a0.Nr)) + t5)), [(24, Value.int .i64 (w64 (2 * a0.Nr))), (25, Value.int .i64 (t5))], 26, rfl, rfl, ⟨.inr ⟨rfl, rfl⟩, ⟨.inr ⟨rfl, rfl⟩, trivial⟩⟩, .run rfl (fun w HS => X.add rfl rfl), rfl, rfl, rfl⟩, ⟨_, Value.int .i64 (a1), [(1, Value.int .i64 (a1))], 27, rfl, rfl, ⟨.inl ⟨rfl, rfl⟩, trivial⟩, .run rfl (fun w HS => X.move rfl), rfl, rfl, rfl⟩, trivial⟩ rfl ⟨.inr ⟨rfl, rfl⟩, ⟨.inr ⟨rfl, rfl⟩, trivial⟩⟩ (Or.inl rfl) (by intro d hd; cases hd; exact ⟨by decide, rfl, rfl⟩) [12] [0, 1, 2, 3] rfl rfl (fun w HS => ?_)
      have HS : Sep.St [blk nb1 (#[Value.int .i64 (a0.Kind), Value.int .i64 (a0.Ns), Value.int .i64 (a0.Nr), Value.bool (a0.Poll)]) 23, R] w0 w := HS
      replace HS := row_nil' (e := 5) 1 none HS
      have HS : Sep.St [row 5 1 (.slice none (([] : List Int)).length 0) (([] : List Int)).length ((([] : List Int)).map (Value.int .u8)), blk nb1 (#[Value.int .i64 (a0.Kind), Value.int .i64 (a0.Ns), Value.int .i64 (a0.Nr), Value.bool (a0.Poll)]) 23, R] w0 w := HS
      obtain ⟨t8, A9, H⟩ := bind_s H
      refine ⟨_, Y.call Try.func17 (by kernel_rfl) rfl (vs := [Value.slice none (([] : List Int)).length 0, Value.int .i64 (w64 (2 * a0.Ns)), Value.int .i64 (a1)]) rfl (control_put.calls ([] : List Int) (w64 (2 * a0.Ns)) a1 _ w0 _ none 0 t8  A9 (Sep.St.tailJoin (m := [row 5 1 (.slice none (([] : List Int)).length 0) (([] : List Int)).length ((([] : List Int)).map (Value.int .u8))]) (r := [blk nb1 (#[Value.int .i64 (a0.Kind), Value.int .i64 (a0.Ns), Value.int .i64 (a0.Nr), Value.bool (a0.Poll)]) 23, R]) HS)), ?_⟩
      rintro _ w ⟨at8_0, ct8_0, rfl, HS⟩
      replace HS := Sep.St.tailOpen (m := [row 5 1 (.slice at8_0 (t8).length ct8_0) (t8).length ((t8).map (Value.int .u8))]) (r := [blk nb1 (#[Value.int .i64 (a0.Kind), Value.int .i64 (a0.Ns), Value.int .i64 (a0.Nr), Value.bool (a0.Poll)]) 23, R]) HS
      have HS : Sep.St [row 5 1 (.slice at8_0 (t8).length ct8_0) (t8).length ((t8).map (Value.int .u8)), blk nb1 (#[Value.int .i64 (a0.Kind), Value.int .i64 (a0.Ns), Value.int .i64 (a0.Nr), Value.bool (a0.Poll)]) 23, R] w0 w := HS
      refine ⟨[(21, Value.slice at8_0 (t8).length ct8_0)], fun w => Sep.St [row 5 1 (.slice at8_0 (t8).length ct8_0) (t8).length ((t8).map (Value.int .u8)), blk nb1 (#[Value.int .i64 (a0.Kind), Value.int .i64 (a0.Ns), Value.int .i64 (a0.Nr), Value.bool (a0.Poll)]) 23, R] w0 w, ⟨.inl ⟨rfl, rfl⟩, trivial⟩, ?_, HS⟩
      refine T.event _ [(21, Value.slice at8_0 (t8).length ct8_0), (26, Value.int .i64 (w64 ((w64 (2 * a0.Nr)) + t5))), (27, Value.int .i64 (a1))] rfl rfl ⟨⟨_, Value.pointer (some ⟨nb1, 0 + 2, none⟩), [(2, Value.pointer (some ⟨nb1, 0, none⟩))], 22, rfl, rfl, ⟨.inl ⟨rfl, rfl⟩, trivial⟩, .run rfl (fun w HS => X.fieldAddr 2 fo23_2 rfl), rfl, rfl, rfl⟩, ⟨_, Value.int .i64 (a0.Nr), [(22, Value.pointer (some ⟨nb1, 0 + 2, none⟩))], 23, rfl, rfl, ⟨.inr ⟨rfl, rfl⟩, trivial⟩, .run rfl (fun w HS => X.loadAt 1 HS rfl Try.underlying3 rfl rfl rfl), rfl, rfl, rfl⟩, ⟨_, Value.int .i64 (w64 (2 * a0.Nr)), [(23, Value.int .i64 (a0.Nr))], 24, rfl, rfl, ⟨.inr ⟨rfl, rfl⟩, trivial⟩, .run rfl (fun w HS => X.mul rfl rfl), rfl, rfl, rfl⟩, ⟨_, Value.int .i64 (t5), [(5, Value.int .i64 (t5))], 25, rfl, rfl, ⟨.inl ⟨rfl, rfl⟩, trivial⟩, .run rfl (fun w HS => X.move rfl), rfl, rfl, rfl⟩, ⟨_, Value.int .i64 (w64 ((w64 (2 * a0.Nr)) + t5)), [(24, Value.int .i64 (w64 (2 * a0.Nr))), (25, Value.int .i64 (t5))], 26, rfl, rfl, ⟨.inr ⟨rfl, rfl⟩, ⟨.inr ⟨rfl, rfl⟩, trivial⟩⟩, .run rfl (fun w HS => X.add rfl rfl), rfl, rfl, rfl⟩, ⟨_, Value.int .i64 (a1), [(1, Value.int .i64 (a1))], 27, rfl, rfl, ⟨.inl ⟨rfl, rfl⟩, trivial⟩, .run rfl (fun w HS => X.move rfl), rfl, rfl, rfl⟩, trivial⟩ rfl ⟨.inr ⟨rfl, rfl⟩, ⟨.inr ⟨rfl, rfl⟩, ⟨.inr ⟨rfl, rfl⟩, trivial⟩⟩⟩ (Or.inl rfl) (by intro d hd; cases hd; exact ⟨by decide, rfl, rfl⟩) [] [5, 6, 7, 8, 9, 10] rfl rfl (fun w HS => ?_)
      have HS : Sep.St [row 5 1 (.slice at8_0 (t8).length ct8_0) (t8).length ((t8).map (Value.int .u8)), blk nb1 (#[Value.int .i64 (a0.Kind), Value.int .i64 (a0.Ns), Value.int .i64 (a0.Nr), Value.bool (a0.Poll)]) 23, R] w0 w := HS
      obtain ⟨t10, A11, H⟩ := bind_s H
      refine ⟨_, Y.call Try.func17 (by kernel_rfl) rfl (vs := [Value.slice at8_0 (t8).length ct8_0, Value.int .i64 (w64 ((w64 (2 * a0.Nr)) + t5)), Value.int .i64 (a1)]) rfl (control_put.calls t8 (w64 ((w64 (2 * a0.Nr)) + t5)) a1 _ w0 _ at8_0 ct8_0 t10  A11 (Sep.St.tailJoin (m := [row 5 1 (.slice at8_0 (t8).length ct8_0) (t8).length ((t8).map (Value.int .u8))]) (r := [blk nb1 (#[Value.int .i64 (a0.Kind), Value.int .i64 (a0.Ns), Value.int .i64 (a0.Nr), Value.bool (a0.Poll)]) 23, R]) HS)), ?_⟩
      rintro _ w ⟨at10_0, ct10_0, rfl, HS⟩
      replace HS := Sep.St.tailOpen (m := [row 5 1 (.slice at10_0 (t10).length ct10_0) (t10).length ((t10).map (Value.int .u8))]) (r := [blk nb1 (#[Value.int .i64 (a0.Kind), Value.int .i64 (a0.Ns), Value.int .i64 (a0.Nr), Value.bool (a0.Poll)]) 23, R]) HS
      have HS : Sep.St [row 5 1 (.slice at10_0 (t10).length ct10_0) (t10).length ((t10).map (Value.int .u8)), blk nb1 (#[Value.int .i64 (a0.Kind), Value.int .i64 (a0.Ns), Value.int .i64 (a0.Nr), Value.bool (a0.Poll)]) 23, R] w0 w := HS
      refine ⟨[(28, Value.slice at10_0 (t10).length ct10_0), (4, Value.slice at10_0 (t10).length ct10_0)], fun w => Sep.St [row 5 1 (.slice at10_0 (t10).length ct10_0) (t10).length ((t10).map (Value.int .u8)), blk nb1 (#[Value.int .i64 (a0.Kind), Value.int .i64 (a0.Ns), Value.int .i64 (a0.Nr), Value.bool (a0.Poll)]) 23, R] w0 w, ⟨.inl ⟨rfl, rfl⟩, ⟨.inr ⟨by decide, rfl⟩, trivial⟩⟩, ?_, HS⟩
      refine T.fin [(4, Value.slice at10_0 (t10).length ct10_0)] rfl ⟨⟨_, Value.slice at10_0 (t10).length ct10_0, [(28, Value.slice at10_0 (t10).length ct10_0)], 4, rfl, rfl, ⟨.inr ⟨rfl, rfl⟩, trivial⟩, .run rfl (fun w HS => X.assign rfl), rfl, rfl, rfl⟩, trivial⟩ ⟨.inr ⟨rfl, rfl⟩, trivial⟩ (fun w HS => ?_)
      have HS : Sep.St [row 5 1 (.slice at10_0 (t10).length ct10_0) (t10).length ((t10).map (Value.int .u8)), blk nb1 (#[Value.int .i64 (a0.Kind), Value.int .i64 (a0.Ns), Value.int .i64 (a0.Nr), Value.bool (a0.Poll)]) 23, R] w0 w := HS
      refine At.next ?_
      refine V.keep [(4, Value.slice at10_0 (t10).length ct10_0)] ⟨rfl, trivial⟩ ?_
      refine V.ret ?_
      refine At.blockRet ?_
      refine At.thenRet ?_
      replace HS := HS.sel [0, 2] [1] rfl
      cases H
      exact At.ret1 rfl rfl ⟨_, rfl, at10_0, ct10_0, rfl, HS⟩
    · replace H := ite_f c7 H
      refine V.condF (sb (decide_eq_false c7)) ?_
      refine V.seq ?_
      refine V.region ?_
      refine W.rd (X.cmp (decide (a0.Kind = 1)) rfl rfl rfl rfl) rfl rfl rfl ?_
      refine W.rd (X.assign rfl) rfl rfl rfl ?_
      refine W.nil ?_
      refine At.next ?_
      refine V.keep [(1, Value.int .i64 (a1)), (2, Value.pointer (some ⟨nb1, 0, none⟩)), (5, Value.int .i64 (t5)), (14, Value.int .i64 (a0.Kind)), (29, Value.bool (decide (a0.Kind = 1)))] ⟨rfl, rfl, rfl, rfl, rfl, trivial⟩ ?_
      by_cases c12 : a0.Kind = 1
      · replace H := ite_t c12 H
        refine V.condT (sb (decide_eq_true c12)) ?_
        refine V.seq ?_
        refine V.draw (es := [1, 8]) (bl := [9]) (f := [(31, Value.int .i64 (a1)), (33, Value.pointer (some ⟨nb1, 0 + 2, none⟩)), (34, Value.int .i64 (a0.Nr)), (35, Value.int .i64 (w64 (2 * a0.Nr))), (36, Value.int .i64 (t5)), (37, Value.int .i64 (w64 ((w64 (2 * a0.Nr)) + t5))), (38, Value.int .i64 (a1))]) (fun w => Sep.St [blk nb1 (#[Value.int .i64 (a0.Kind), Value.int .i64 (a0.Ns), Value.int .i64 (a0.Nr), Value.bool (a0.Poll)]) 23, R] w0 w) mo HS.drew rfl ?_
        refine T.event _ [(31, Value.int .i64 (a1))] rfl rfl ⟨⟨_, Value.int .i64 (a1), [(1, Value.int .i64 (a1))], 31, rfl, rfl, ⟨.inl ⟨rfl, rfl⟩, trivial⟩, .run rfl (fun w HS => X.move rfl), rfl, rfl, rfl⟩, ⟨_, Value.pointer (some ⟨nb1, 0 + 2, none⟩), [(2, Value.pointer (some ⟨nb1, 0, none⟩))], 33, rfl, rfl, ⟨.inl ⟨rfl, rfl⟩, trivial⟩, .run rfl (fun w HS => X.fieldAddr 2 fo23_2 rfl), rfl, rfl, rfl⟩, ⟨_, Value.int .i64 (a0.Nr), [(33, Value.pointer (some ⟨nb1, 0 + 2, none⟩))], 34, rfl, rfl, ⟨.inr ⟨rfl, rfl⟩, trivial⟩, .run rfl (fun w HS => X.loadAt 0 HS rfl Try.underlying3 rfl rfl rfl), rfl, rfl, rfl⟩, ⟨_, Value.int .i64 (w64 (2 * a0.Nr)), [(34, Value.int .i64 (a0.Nr))], 35, rfl, rfl, ⟨.inr ⟨rfl, rfl⟩, trivial⟩, .run rfl (fun w HS => X.mul rfl rfl), rfl, rfl, rfl⟩, ⟨_, Value.int .i64 (t5), [(5, Value.int .i64 (t5))], 36, rfl, rfl, ⟨.inl ⟨rfl, rfl⟩, trivial⟩, .run rfl (fun w HS => X.move rfl), rfl, rfl, rfl⟩, ⟨_, Value.int .i64 (w64 ((w64 (2 * a0.Nr)) + t5)), [(35, Value.int .i64 (w64 (2 * a0.Nr))), (36, Value.int .i64 (t5))], 37, rfl, rfl, ⟨.inr ⟨rfl, rfl⟩, ⟨.inr ⟨rfl, rfl⟩, trivial⟩⟩, .run rfl (fun w HS => X.add rfl rfl), rfl, rfl, rfl⟩, ⟨_, Value.int .i64 (a1), [(1, Value.int .i64 (a1))], 38, rfl, rfl, ⟨.inl ⟨rfl, rfl⟩, trivial⟩, .run rfl (fun w HS => X.move rfl), rfl, rfl, rfl⟩, trivial⟩ rfl ⟨.inr ⟨rfl, rfl⟩, trivial⟩ (Or.inl rfl) (by intro d hd; cases hd; exact ⟨by decide, rfl, rfl⟩) [9] [0] rfl rfl (fun w HS => ?_)
        have HS : Sep.St [blk nb1 (#[Value.int .i64 (a0.Kind), Value.int .i64 (a0.Ns), Value.int .i64 (a0.Nr), Value.bool (a0.Poll)]) 23, R] w0 w := HS
        replace HS := row_nil' (e := 5) 1 none HS
        have HS : Sep.St [row 5 1 (.slice none (([] : List Int)).length 0) (([] : List Int)).length ((([] : List Int)).map (Value.int .u8)), blk nb1 (#[Value.int .i64 (a0.Kind), Value.int .i64 (a0.Ns), Value.int .i64 (a0.Nr), Value.bool (a0.Poll)]) 23, R] w0 w := HS
        obtain ⟨t13, A14, H⟩ := bind_s H
        refine ⟨_, Y.call Try.func17 (by kernel_rfl) rfl (vs := [Value.slice none (([] : List Int)).length 0, Value.int .i64 (1), Value.int .i64 (a1)]) rfl (control_put.calls ([] : List Int) 1 a1 _ w0 _ none 0 t13  A14 (Sep.St.tailJoin (m := [row 5 1 (.slice none (([] : List Int)).length 0) (([] : List Int)).length ((([] : List Int)).map (Value.int .u8))]) (r := [blk nb1 (#[Value.int .i64 (a0.Kind), Value.int .i64 (a0.Ns), Value.int .i64 (a0.Nr), Value.bool (a0.Poll)]) 23, R]) HS)), ?_⟩
        rintro _ w ⟨at13_0, ct13_0, rfl, HS⟩
        replace HS := Sep.St.tailOpen (m := [row 5 1 (.slice at13_0 (t13).length ct13_0) (t13).length ((t13).map (Value.int .u8))]) (r := [blk nb1 (#[Value.int .i64 (a0.Kind), Value.int .i64 (a0.Ns), Value.int .i64 (a0.Nr), Value.bool (a0.Poll)]) 23, R]) HS
        have HS : Sep.St [row 5 1 (.slice at13_0 (t13).length ct13_0) (t13).length ((t13).map (Value.int .u8)), blk nb1 (#[Value.int .i64 (a0.Kind), Value.int .i64 (a0.Ns), Value.int .i64 (a0.Nr), Value.bool (a0.Poll)]) 23, R] w0 w := HS
        refine ⟨[(32, Value.slice at13_0 (t13).length ct13_0)], fun w => Sep.St [row 5 1 (.slice at13_0 (t13).length ct13_0) (t13).length ((t13).map (Value.int .u8)), blk nb1 (#[Value.int .i64 (a0.Kind), Value.int .i64 (a0.Ns), Value.int .i64 (a0.Nr), Value.bool (a0.Poll)]) 23, R] w0 w, ⟨.inl ⟨rfl, rfl⟩, trivial⟩, ?_, HS⟩
        refine T.event _ [(32, Value.slice at13_0 (t13).length ct13_0), (37, Value.int .i64 (w64 ((w64 (2 * a0.Nr)) + t5))), (38, Value.int .i64 (a1))] rfl rfl ⟨⟨_, Value.pointer (some ⟨nb1, 0 + 2, none⟩), [(2, Value.pointer (some ⟨nb1, 0, none⟩))], 33, rfl, rfl, ⟨.inl ⟨rfl, rfl⟩, trivial⟩, .run rfl (fun w HS => X.fieldAddr 2 fo23_2 rfl), rfl, rfl, rfl⟩, ⟨_, Value.int .i64 (a0.Nr), [(33, Value.pointer (some ⟨nb1, 0 + 2, none⟩))], 34, rfl, rfl, ⟨.inr ⟨rfl, rfl⟩, trivial⟩, .run rfl (fun w HS => X.loadAt 1 HS rfl Try.underlying3 rfl rfl rfl), rfl, rfl, rfl⟩, ⟨_, Value.int .i64 (w64 (2 * a0.Nr)), [(34, Value.int .i64 (a0.Nr))], 35, rfl, rfl, ⟨.inr ⟨rfl, rfl⟩, trivial⟩, .run rfl (fun w HS => X.mul rfl rfl), rfl, rfl, rfl⟩, ⟨_, Value.int .i64 (t5), [(5, Value.int .i64 (t5))], 36, rfl, rfl, ⟨.inl ⟨rfl, rfl⟩, trivial⟩, .run rfl (fun w HS => X.move rfl), rfl, rfl, rfl⟩, ⟨_, Value.int .i64 (w64 ((w64 (2 * a0.Nr)) + t5)), [(35, Value.int .i64 (w64 (2 * a0.Nr))), (36, Value.int .i64 (t5))], 37, rfl, rfl, ⟨.inr ⟨rfl, rfl⟩, ⟨.inr ⟨rfl, rfl⟩, trivial⟩⟩, .run rfl (fun w HS => X.add rfl rfl), rfl, rfl, rfl⟩, ⟨_, Value.int .i64 (a1), [(1, Value.int .i64 (a1))], 38, rfl, rfl, ⟨.inl ⟨rfl, rfl⟩, trivial⟩, .run rfl (fun w HS => X.move rfl), rfl, rfl, rfl⟩, trivial⟩ rfl ⟨.inr ⟨rfl, rfl⟩, ⟨.inr ⟨rfl, rfl⟩, ⟨.inr ⟨rfl, rfl⟩, trivial⟩⟩⟩ (Or.inl rfl) (by intro d hd; cases hd; exact ⟨by decide, rfl, rfl⟩) [] [2, 3, 4, 5, 6, 7] rfl rfl (fun w HS => ?_)
        have HS : Sep.St [row 5 1 (.slice at13_0 (t13).length ct13_0) (t13).length ((t13).map (Value.int .u8)), blk nb1 (#[Value.int .i64 (a0.Kind), Value.int .i64 (a0.Ns), Value.int .i64 (a0.Nr), Value.bool (a0.Poll)]) 23, R] w0 w := HS
        obtain ⟨t15, A16, H⟩ := bind_s H
        refine ⟨_, Y.call Try.func17 (by kernel_rfl) rfl (vs := [Value.slice at13_0 (t13).length ct13_0, Value.int .i64 (w64 ((w64 (2 * a0.Nr)) + t5)), Value.int .i64 (a1)]) rfl (control_put.calls t13 (w64 ((w64 (2 * a0.Nr)) + t5)) a1 _ w0 _ at13_0 ct13_0 t15  A16 (Sep.St.tailJoin (m := [row 5 1 (.slice at13_0 (t13).length ct13_0) (t13).length ((t13).map (Value.int .u8))]) (r := [blk nb1 (#[Value.int .i64 (a0.Kind), Value.int .i64 (a0.Ns), Value.int .i64 (a0.Nr), Value.bool (a0.Poll)]) 23, R]) HS)), ?_⟩
        rintro _ w ⟨at15_0, ct15_0, rfl, HS⟩
        replace HS := Sep.St.tailOpen (m := [row 5 1 (.slice at15_0 (t15).length ct15_0) (t15).length ((t15).map (Value.int .u8))]) (r := [blk nb1 (#[Value.int .i64 (a0.Kind), Value.int .i64 (a0.Ns), Value.int .i64 (a0.Nr), Value.bool (a0.Poll)]) 23, R]) HS
        have HS : Sep.St [row 5 1 (.slice at15_0 (t15).length ct15_0) (t15).length ((t15).map (Value.int .u8)), blk nb1 (#[Value.int .i64 (a0.Kind), Value.int .i64 (a0.Ns), Value.int .i64 (a0.Nr), Value.bool (a0.Poll)]) 23, R] w0 w := HS
        refine ⟨[(39, Value.slice at15_0 (t15).length ct15_0), (4, Value.slice at15_0 (t15).length ct15_0)], fun w => Sep.St [row 5 1 (.slice at15_0 (t15).length ct15_0) (t15).length ((t15).map (Value.int .u8)), blk nb1 (#[Value.int .i64 (a0.Kind), Value.int .i64 (a0.Ns), Value.int .i64 (a0.Nr), Value.bool (a0.Poll)]) 23, R] w0 w, ⟨.inl ⟨rfl, rfl⟩, ⟨.inr ⟨by decide, rfl⟩, trivial⟩⟩, ?_, HS⟩
        refine T.fin [(4, Value.slice at15_0 (t15).length ct15_0)] rfl ⟨⟨_, Value.slice at15_0 (t15).length ct15_0, [(39, Value.slice at15_0 (t15).length ct15_0)], 4, rfl, rfl, ⟨.inr ⟨rfl, rfl⟩, trivial⟩, .run rfl (fun w HS => X.assign rfl), rfl, rfl, rfl⟩, trivial⟩ ⟨.inr ⟨rfl, rfl⟩, trivial⟩ (fun w HS => ?_)
        have HS : Sep.St [row 5 1 (.slice at15_0 (t15).length ct15_0) (t15).length ((t15).map (Value.int .u8)), blk nb1 (#[Value.int .i64 (a0.Kind), Value.int .i64 (a0.Ns), Value.int .i64 (a0.Nr), Value.bool (a0.Poll)]) 23, R] w0 w := HS
        refine At.next ?_
        refine V.keep [(4, Value.slice at15_0 (t15).length ct15_0)] ⟨rfl, trivial⟩ ?_
        refine V.ret ?_
        refine At.blockRet ?_
        refine At.thenRet ?_
        replace HS := HS.sel [0, 2] [1] rfl
        cases H
        exact At.ret1 rfl rfl ⟨_, rfl, at15_0, ct15_0, rfl, HS⟩
      · replace H := ite_f c12 H
        refine V.condF (sb (decide_eq_false c12)) ?_
        refine V.seq ?_
        refine V.region ?_
        refine W.rd (X.cmp (decide (a0.Kind = 2)) rfl rfl rfl rfl) rfl rfl rfl ?_
        refine W.rd (X.assign rfl) rfl rfl rfl ?_
        refine W.nil ?_
        refine At.next ?_
        refine V.keep [(1, Value.int .i64 (a1)), (2, Value.pointer (some ⟨nb1, 0, none⟩)), (5, Value.int .i64 (t5)), (40, Value.bool (decide (a0.Kind = 2)))] ⟨rfl, rfl, rfl, rfl, trivial⟩ ?_
        by_cases c17 : a0.Kind = 2
        · replace H := ite_t c17 H
          refine V.condT (sb (decide_eq_true c17)) ?_
          refine V.seq ?_
          refine V.draw (es := [1, 8]) (bl := [9]) (f := [(42, Value.int .i64 (a1)), (44, Value.pointer (some ⟨nb1, 0 + 2, none⟩)), (45, Value.int .i64 (a0.Nr)), (46, Value.int .i64 (w64 (2 * a0.Nr))), (47, Value.int .i64 (t5)), (48, Value.int .i64 (w64 ((w64 (2 * a0.Nr)) + t5))), (49, Value.int .i64 (a1))]) (fun w => Sep.St [blk nb1 (#[Value.int .i64 (a0.Kind), Value.int .i64 (a0.Ns), Value.int .i64 (a0.Nr), Value.bool (a0.Poll)]) 23, R] w0 w) mo HS.drew rfl ?_
          refine T.event _ [(42, Value.int .i64 (a1))] rfl rfl ⟨⟨_, Value.int .i64 (a1), [(1, Value.int .i64 (a1))], 42, rfl, rfl, ⟨.inl ⟨rfl, rfl⟩, trivial⟩, .run rfl (fun w HS => X.move rfl), rfl, rfl, rfl⟩, ⟨_, Value.pointer (some ⟨nb1, 0 + 2, none⟩), [(2, Value.pointer (some ⟨nb1, 0, none⟩))], 44, rfl, rfl, ⟨.inl ⟨rfl, rfl⟩, trivial⟩, .run rfl (fun w HS => X.fieldAddr 2 fo23_2 rfl), rfl, rfl, rfl⟩, ⟨_, Value.int .i64 (a0.Nr), [(44, Value.pointer (some ⟨nb1, 0 + 2, none⟩))], 45, rfl, rfl, ⟨.inr ⟨rfl, rfl⟩, trivial⟩, .run rfl (fun w HS => X.loadAt 0 HS rfl Try.underlying3 rfl rfl rfl), rfl, rfl, rfl⟩, ⟨_, Value.int .i64 (w64 (2 * a0.Nr)), [(45, Value.int .i64 (a0.Nr))], 46, rfl, rfl, ⟨.inr ⟨rfl, rfl⟩, trivial⟩, .run rfl (fun w HS => X.mul rfl rfl), rfl, rfl, rfl⟩, ⟨_, Value.int .i64 (t5), [(5, Value.int .i64 (t5))], 47, rfl, rfl, ⟨.inl ⟨rfl, rfl⟩, trivial⟩, .run rfl (fun w HS => X.move rfl), rfl, rfl, rfl⟩, ⟨_, Value.int .i64 (w64 ((w64 (2 * a0.Nr)) + t5)), [(46, Value.int .i64 (w64 (2 * a0.Nr))), (47, Value.int .i64 (t5))], 48, rfl, rfl, ⟨.inr ⟨rfl, rfl⟩, ⟨.inr ⟨rfl, rfl⟩, trivial⟩⟩, .run rfl (fun w HS => X.add rfl rfl), rfl, rfl, rfl⟩, ⟨_, Value.int .i64 (a1), [(1, Value.int .i64 (a1))], 49, rfl, rfl, ⟨.inl ⟨rfl, rfl⟩, trivial⟩, .run rfl (fun w HS => X.move rfl), rfl, rfl, rfl⟩, trivial⟩ rfl ⟨.inr ⟨rfl, rfl⟩, trivial⟩ (Or.inl rfl) (by intro d hd; cases hd; exact ⟨by decide, rfl, rfl⟩) [9] [0] rfl rfl (fun w HS => ?_)
          have HS : Sep.St [blk nb1 (#[Value.int .i64 (a0.Kind), Value.int .i64 (a0.Ns), Value.int .i64 (a0.Nr), Value.bool (a0.Poll)]) 23, R] w0 w := HS
          replace HS := row_nil' (e := 5) 1 none HS
          have HS : Sep.St [row 5 1 (.slice none (([] : List Int)).length 0) (([] : List Int)).length ((([] : List Int)).map (Value.int .u8)), blk nb1 (#[Value.int .i64 (a0.Kind), Value.int .i64 (a0.Ns), Value.int .i64 (a0.Nr), Value.bool (a0.Poll)]) 23, R] w0 w := HS
          obtain ⟨t18, A19, H⟩ := bind_s H
          refine ⟨_, Y.call Try.func17 (by kernel_rfl) rfl (vs := [Value.slice none (([] : List Int)).length 0, Value.int .i64 (9), Value.int .i64 (a1)]) rfl (control_put.calls ([] : List Int) 9 a1 _ w0 _ none 0 t18  A19 (Sep.St.tailJoin (m := [row 5 1 (.slice none (([] : List Int)).length 0) (([] : List Int)).length ((([] : List Int)).map (Value.int .u8))]) (r := [blk nb1 (#[Value.int .i64 (a0.Kind), Value.int .i64 (a0.Ns), Value.int .i64 (a0.Nr), Value.bool (a0.Poll)]) 23, R]) HS)), ?_⟩
          rintro _ w ⟨at18_0, ct18_0, rfl, HS⟩
          replace HS := Sep.St.tailOpen (m := [row 5 1 (.slice at18_0 (t18).length ct18_0) (t18).length ((t18).map (Value.int .u8))]) (r := [blk nb1 (#[Value.int .i64 (a0.Kind), Value.int .i64 (a0.Ns), Value.int .i64 (a0.Nr), Value.bool (a0.Poll)]) 23, R]) HS
          have HS : Sep.St [row 5 1 (.slice at18_0 (t18).length ct18_0) (t18).length ((t18).map (Value.int .u8)), blk nb1 (#[Value.int .i64 (a0.Kind), Value.int .i64 (a0.Ns), Value.int .i64 (a0.Nr), Value.bool (a0.Poll)]) 23, R] w0 w := HS
          refine ⟨[(43, Value.slice at18_0 (t18).length ct18_0)], fun w => Sep.St [row 5 1 (.slice at18_0 (t18).length ct18_0) (t18).length ((t18).map (Value.int .u8)), blk nb1 (#[Value.int .i64 (a0.Kind), Value.int .i64 (a0.Ns), Value.int .i64 (a0.Nr), Value.bool (a0.Poll)]) 23, R] w0 w, ⟨.inl ⟨rfl, rfl⟩, trivial⟩, ?_, HS⟩
          refine T.event _ [(43, Value.slice at18_0 (t18).length ct18_0), (48, Value.int .i64 (w64 ((w64 (2 * a0.Nr)) + t5))), (49, Value.int .i64 (a1))] rfl rfl ⟨⟨_, Value.pointer (some ⟨nb1, 0 + 2, none⟩), [(2, Value.pointer (some ⟨nb1, 0, none⟩))], 44, rfl, rfl, ⟨.inl ⟨rfl, rfl⟩, trivial⟩, .run rfl (fun w HS => X.fieldAddr 2 fo23_2 rfl), rfl, rfl, rfl⟩, ⟨_, Value.int .i64 (a0.Nr), [(44, Value.pointer (some ⟨nb1, 0 + 2, none⟩))], 45, rfl, rfl, ⟨.inr ⟨rfl, rfl⟩, trivial⟩, .run rfl (fun w HS => X.loadAt 1 HS rfl Try.underlying3 rfl rfl rfl), rfl, rfl, rfl⟩, ⟨_, Value.int .i64 (w64 (2 * a0.Nr)), [(45, Value.int .i64 (a0.Nr))], 46, rfl, rfl, ⟨.inr ⟨rfl, rfl⟩, trivial⟩, .run rfl (fun w HS => X.mul rfl rfl), rfl, rfl, rfl⟩, ⟨_, Value.int .i64 (t5), [(5, Value.int .i64 (t5))], 47, rfl, rfl, ⟨.inl ⟨rfl, rfl⟩, trivial⟩, .run rfl (fun w HS => X.move rfl), rfl, rfl, rfl⟩, ⟨_, Value.int .i64 (w64 ((w64 (2 * a0.Nr)) + t5)), [(46, Value.int .i64 (w64 (2 * a0.Nr))), (47, Value.int .i64 (t5))], 48, rfl, rfl, ⟨.inr ⟨rfl, rfl⟩, ⟨.inr ⟨rfl, rfl⟩, trivial⟩⟩, .run rfl (fun w HS => X.add rfl rfl), rfl, rfl, rfl⟩, ⟨_, Value.int .i64 (a1), [(1, Value.int .i64 (a1))], 49, rfl, rfl, ⟨.inl ⟨rfl, rfl⟩, trivial⟩, .run rfl (fun w HS => X.move rfl), rfl, rfl, rfl⟩, trivial⟩ rfl ⟨.inr ⟨rfl, rfl⟩, ⟨.inr ⟨rfl, rfl⟩, ⟨.inr ⟨rfl, rfl⟩, trivial⟩⟩⟩ (Or.inl rfl) (by intro d hd; cases hd; exact ⟨by decide, rfl, rfl⟩) [] [2, 3, 4, 5, 6, 7] rfl rfl (fun w HS => ?_)
          have HS : Sep.St [row 5 1 (.slice at18_0 (t18).length ct18_0) (t18).length ((t18).map (Value.int .u8)), blk nb1 (#[Value.int .i64 (a0.Kind), Value.int .i64 (a0.Ns), Value.int .i64 (a0.Nr), Value.bool (a0.Poll)]) 23, R] w0 w := HS
          obtain ⟨t20, A21, H⟩ := bind_s H
          refine ⟨_, Y.call Try.func17 (by kernel_rfl) rfl (vs := [Value.slice at18_0 (t18).length ct18_0, Value.int .i64 (w64 ((w64 (2 * a0.Nr)) + t5)), Value.int .i64 (a1)]) rfl (control_put.calls t18 (w64 ((w64 (2 * a0.Nr)) + t5)) a1 _ w0 _ at18_0 ct18_0 t20  A21 (Sep.St.tailJoin (m := [row 5 1 (.slice at18_0 (t18).length ct18_0) (t18).length ((t18).map (Value.int .u8))]) (r := [blk nb1 (#[Value.int .i64 (a0.Kind), Value.int .i64 (a0.Ns), Value.int .i64 (a0.Nr), Value.bool (a0.Poll)]) 23, R]) HS)), ?_⟩
          rintro _ w ⟨at20_0, ct20_0, rfl, HS⟩
          replace HS := Sep.St.tailOpen (m := [row 5 1 (.slice at20_0 (t20).length ct20_0) (t20).length ((t20).map (Value.int .u8))]) (r := [blk nb1 (#[Value.int .i64 (a0.Kind), Value.int .i64 (a0.Ns), Value.int .i64 (a0.Nr), Value.bool (a0.Poll)]) 23, R]) HS
          have HS : Sep.St [row 5 1 (.slice at20_0 (t20).length ct20_0) (t20).length ((t20).map (Value.int .u8)), blk nb1 (#[Value.int .i64 (a0.Kind), Value.int .i64 (a0.Ns), Value.int .i64 (a0.Nr), Value.bool (a0.Poll)]) 23, R] w0 w := HS
          refine ⟨[(50, Value.slice at20_0 (t20).length ct20_0), (4, Value.slice at20_0 (t20).length ct20_0)], fun w => Sep.St [row 5 1 (.slice at20_0 (t20).length ct20_0) (t20).length ((t20).map (Value.int .u8)), blk nb1 (#[Value.int .i64 (a0.Kind), Value.int .i64 (a0.Ns), Value.int .i64 (a0.Nr), Value.bool (a0.Poll)]) 23, R] w0 w, ⟨.inl ⟨rfl, rfl⟩, ⟨.inr ⟨by decide, rfl⟩, trivial⟩⟩, ?_, HS⟩
          refine T.fin [(4, Value.slice at20_0 (t20).length ct20_0)] rfl ⟨⟨_, Value.slice at20_0 (t20).length ct20_0, [(50, Value.slice at20_0 (t20).length ct20_0)], 4, rfl, rfl, ⟨.inr ⟨rfl, rfl⟩, trivial⟩, .run rfl (fun w HS => X.assign rfl), rfl, rfl, rfl⟩, trivial⟩ ⟨.inr ⟨rfl, rfl⟩, trivial⟩ (fun w HS => ?_)
          have HS : Sep.St [row 5 1 (.slice at20_0 (t20).length ct20_0) (t20).length ((t20).map (Value.int .u8)), blk nb1 (#[Value.int .i64 (a0.Kind), Value.int .i64 (a0.Ns), Value.int .i64 (a0.Nr), Value.bool (a0.Poll)]) 23, R] w0 w := HS
          refine At.next ?_
          refine V.keep [(4, Value.slice at20_0 (t20).length ct20_0)] ⟨rfl, trivial⟩ ?_
          refine V.ret ?_
          refine At.blockRet ?_
          refine At.thenRet ?_
          replace HS := HS.sel [0, 2] [1] rfl
          cases H
          exact At.ret1 rfl rfl ⟨_, rfl, at20_0, ct20_0, rfl, HS⟩
        · replace H := ite_f c17 H
          refine V.condF (sb (decide_eq_false c17)) ?_
          refine V.skip ?_
          refine At.blockEnd ?_
          refine At.next ?_
          refine V.keep [(2, Value.pointer (some ⟨nb1, 0, none⟩)), (5, Value.int .i64 (t5))] ⟨rfl, rfl, trivial⟩ ?_
          refine V.seq ?_
          refine V.draw (es := [0, 10]) (bl := [4, 5, 9, 11]) (f := [(52, Value.pointer (some ⟨nb1, 0 + 0, none⟩)), (53, Value.int .i64 (a0.Kind)), (54, Value.int .i64 (w64 (a0.Kind - 3))), (57, Value.int .i64 (t5)), (58, Value.int .i64 (w64 (t5 * 16))), (59, Value.int .u8 (IntKind.u8.wrap (w64 (t5 * 16))))]) (fun w => Sep.St [blk nb1 (#[Value.int .i64 (a0.Kind), Value.int .i64 (a0.Ns), Value.int .i64 (a0.Nr), Value.bool (a0.Poll)]) 23, R] w0 w) mo HS.drew rfl ?_
          refine T.event _ [] rfl rfl ⟨⟨_, Value.pointer (some ⟨nb1, 0 + 0, none⟩), [(2, Value.pointer (some ⟨nb1, 0, none⟩))], 52, rfl, rfl, ⟨.inl ⟨rfl, rfl⟩, trivial⟩, .run rfl (fun w HS => X.fieldAddr 0 fo23_0 rfl), rfl, rfl, rfl⟩, ⟨_, Value.int .i64 (a0.Kind), [(52, Value.pointer (some ⟨nb1, 0 + 0, none⟩))], 53, rfl, rfl, ⟨.inr ⟨rfl, rfl⟩, trivial⟩, .run rfl (fun w HS => X.loadAt 0 HS rfl Try.underlying3 rfl rfl rfl), rfl, rfl, rfl⟩, ⟨_, Value.int .i64 (w64 (a0.Kind - 3)), [(53, Value.int .i64 (a0.Kind))], 54, rfl, rfl, ⟨.inr ⟨rfl, rfl⟩, trivial⟩, .run rfl (fun w HS => X.sub rfl rfl), rfl, rfl, rfl⟩, ⟨_, Value.int .i64 (t5), [(5, Value.int .i64 (t5))], 57, rfl, rfl, ⟨.inl ⟨rfl, rfl⟩, trivial⟩, .run rfl (fun w HS => X.move rfl), rfl, rfl, rfl⟩, ⟨_, Value.int .i64 (w64 (t5 * 16)), [(57, Value.int .i64 (t5))], 58, rfl, rfl, ⟨.inr ⟨rfl, rfl⟩, trivial⟩, .run rfl (fun w HS => X.mul rfl rfl), rfl, rfl, rfl⟩, ⟨_, Value.int .u8 (IntKind.u8.wrap (w64 (t5 * 16))), [(58, Value.int .i64 (w64 (t5 * 16)))], 59, rfl, rfl, ⟨.inr ⟨rfl, rfl⟩, trivial⟩, .run rfl (fun w HS => X.conv Try.underlying3 Try.underlying5 rfl), rfl, rfl, rfl⟩, trivial⟩ rfl trivial (Or.inl rfl) (by intro d hd; cases hd; exact ⟨by decide, rfl, rfl⟩) [11] [] rfl rfl (fun w HS => ?_)
          have HS : Sep.St [blk nb1 (#[Value.int .i64 (a0.Kind), Value.int .i64 (a0.Ns), Value.int .i64 (a0.Nr), Value.bool (a0.Poll)]) 23, R] w0 w := HS
          obtain ⟨t22, A23, H⟩ := bind_s H
          refine ⟨_, Y.call Try.func18 (by kernel_rfl) rfl (vs := []) rfl (control_plain.calls  _ w0 _  t22  A23 (Sep.St.tailJoin (m := []) (r := [blk nb1 (#[Value.int .i64 (a0.Kind), Value.int .i64 (a0.Ns), Value.int .i64 (a0.Nr), Value.bool (a0.Poll)]) 23, R]) HS)), ?_⟩
          rintro _ w ⟨at22_0, ct22_0, rfl, HS⟩
          replace HS := Sep.St.tailOpen (m := [row 5 1 (.slice at22_0 (t22).length ct22_0) (t22).length ((t22).map (Value.int .u8))]) (r := [blk nb1 (#[Value.int .i64 (a0.Kind), Value.int .i64 (a0.Ns), Value.int .i64 (a0.Nr), Value.bool (a0.Poll)]) 23, R]) HS
          have HS : Sep.St [row 5 1 (.slice at22_0 (t22).length ct22_0) (t22).length ((t22).map (Value.int .u8)), blk nb1 (#[Value.int .i64 (a0.Kind), Value.int .i64 (a0.Ns), Value.int .i64 (a0.Nr), Value.bool (a0.Poll)]) 23, R] w0 w := HS
          obtain ⟨c24, H⟩ := ite_n H
          obtain ⟨eb25, eo26, hh⟩ := ((rdC.at 0 row_rd HS rfl)).some (by decide) c24.1 c24.2; subst hh
          refine ⟨[(51, Value.slice (some ⟨eb25, eo26, none⟩) (t22).length ct22_0), (55, Value.pointer (some ⟨eb25, eo26 + (w64 (a0.Kind - 3)).toNat * 1, none⟩)), (56, Value.int .u8 ((t22).getD (w64 (a0.Kind - 3)).toNat 0)), (60, Value.int .u8 (ior .u8 ((t22).getD (w64 (a0.Kind - 3)).toNat 0) (IntKind.u8.wrap (w64 (t5 * 16)))))], fun w => Sep.St [row 5 1 (.slice (some ⟨eb25, eo26, none⟩) (t22).length ct22_0) (t22).length ((t22).map (Value.int .u8)), blk nb1 (#[Value.int .i64 (a0.Kind), Value.int .i64 (a0.Ns), Value.int .i64 (a0.Nr), Value.bool (a0.Poll)]) 23, R] w0 w, ⟨.inl ⟨rfl, rfl⟩, ⟨.inr ⟨by decide, rfl⟩, ⟨.inr ⟨by decide, rfl⟩, ⟨.inr ⟨by decide, rfl⟩, trivial⟩⟩⟩⟩, ?_, HS⟩
          refine T.event _ [(60, Value.int .u8 (ior .u8 ((t22).getD (w64 (a0.Kind - 3)).toNat 0) (IntKind.u8.wrap (w64 (t5 * 16)))))] rfl rfl ⟨⟨_, Value.pointer (some ⟨nb1, 0 + 0, none⟩), [(2, Value.pointer (some ⟨nb1, 0, none⟩))], 52, rfl, rfl, ⟨.inl ⟨rfl, rfl⟩, trivial⟩, .run rfl (fun w HS => X.fieldAddr 0 fo23_0 rfl), rfl, rfl, rfl⟩, ⟨_, Value.int .i64 (a0.Kind), [(52, Value.pointer (some ⟨nb1, 0 + 0, none⟩))], 53, rfl, rfl, ⟨.inr ⟨rfl, rfl⟩, trivial⟩, .run rfl (fun w HS => X.loadAt 1 HS rfl Try.underlying3 rfl rfl rfl), rfl, rfl, rfl⟩, ⟨_, Value.int .i64 (w64 (a0.Kind - 3)), [(53, Value.int .i64 (a0.Kind))], 54, rfl, rfl, ⟨.inr ⟨rfl, rfl⟩, trivial⟩, .run rfl (fun w HS => X.sub rfl rfl), rfl, rfl, rfl⟩, ⟨_, Value.pointer (some ⟨eb25, eo26 + (w64 (a0.Kind - 3)).toNat * 1, none⟩), [(51, Value.slice (some ⟨eb25, eo26, none⟩) (t22).length ct22_0), (54, Value.int .i64 (w64 (a0.Kind - 3)))], 55, rfl, rfl, ⟨.inr ⟨rfl, rfl⟩, ⟨.inr ⟨rfl, rfl⟩, trivial⟩⟩, .run rfl (fun w HS => X.indexSl Try.underlying26 inf5 rfl rfl c24.1 c24.2), rfl, rfl, rfl⟩, ⟨_, Value.int .u8 ((t22).getD (w64 (a0.Kind - 3)).toNat 0), [(55, Value.pointer (some ⟨eb25, eo26 + (w64 (a0.Kind - 3)).toNat * 1, none⟩))], 56, rfl, rfl, ⟨.inr ⟨rfl, rfl⟩, trivial⟩, .run rfl (fun w HS => X.load Try.underlying5 rfl rfl (((rdC.at 0 row_rd HS rfl)).cellI c24.1 c24.2)), rfl, rfl, rfl⟩, ⟨_, Value.int .i64 (t5), [(5, Value.int .i64 (t5))], 57, rfl, rfl, ⟨.inl ⟨rfl, rfl⟩, trivial⟩, .run rfl (fun w HS => X.move rfl), rfl, rfl, rfl⟩, ⟨_, Value.int .i64 (w64 (t5 * 16)), [(57, Value.int .i64 (t5))], 58, rfl, rfl, ⟨.inr ⟨rfl, rfl⟩, trivial⟩, .run rfl (fun w HS => X.mul rfl rfl), rfl, rfl, rfl⟩, ⟨_, Value.int .u8 (IntKind.u8.wrap (w64 (t5 * 16))), [(58, Value.int .i64 (w64 (t5 * 16)))], 59, rfl, rfl, ⟨.inr ⟨rfl, rfl⟩, trivial⟩, .run rfl (fun w HS => X.conv Try.underlying3 Try.underlying5 rfl), rfl, rfl, rfl⟩, ⟨_, Value.int .u8 (ior .u8 ((t22).getD (w64 (a0.Kind - 3)).toNat 0) (IntKind.u8.wrap (w64 (t5 * 16)))), [(56, Value.int .u8 ((t22).getD (w64 (a0.Kind - 3)).toNat 0)), (59, Value.int .u8 (IntKind.u8.wrap (w64 (t5 * 16))))], 60, rfl, rfl, ⟨.inr ⟨rfl, rfl⟩, ⟨.inr ⟨rfl, rfl⟩, trivial⟩⟩, .run rfl (fun w HS => X.or rfl rfl), rfl, rfl, rfl⟩, trivial⟩ rfl ⟨.inr ⟨rfl, rfl⟩, trivial⟩ (Or.inl rfl) (by intro d hd; cases hd; exact ⟨by decide, rfl, rfl⟩) [] [1, 2, 3, 4, 5, 6, 7, 8, 9] rfl rfl (fun w HS => ?_)
          have HS : Sep.St [row 5 1 (.slice (some ⟨eb25, eo26, none⟩) (t22).length ct22_0) (t22).length ((t22).map (Value.int .u8)), blk nb1 (#[Value.int .i64 (a0.Kind), Value.int .i64 (a0.Ns), Value.int .i64 (a0.Nr), Value.bool (a0.Poll)]) 23, R] w0 w := HS
          refine ⟨_, Y.litB (e := 5) (sz := 1) (vs := #[(0, Value.int .u8 (ior .u8 ((t22).getD (w64 (a0.Kind - 3)).toNat 0) (IntKind.u8.wrap (w64 (t5 * 16)))))]) [Value.int .u8 (ior .u8 ((t22).getD (w64 (a0.Kind - 3)).toNat 0) (IntKind.u8.wrap (w64 (t5 * 16))))] HS (fun a ha => by simp only [List.map_toArray, List.map_cons, List.map_nil]; rw [ha.ev (x := .tmp 60) (v := Value.int .u8 (ior .u8 ((t22).getD (w64 (a0.Kind - 3)).toNat 0) (IntKind.u8.wrap (w64 (t5 * 16))))) rfl]; try rfl) rfl (by decide) (fun _ => by kernel_rfl), ?_⟩
          rintro _ w ⟨lb29, rfl, HS⟩
          have HS : Sep.St [row 5 1 (.slice (some ⟨lb29, 0, none⟩) (([ior .u8 ((t22).getD (w64 (a0.Kind - 3)).toNat 0) (IntKind.u8.wrap (w64 (t5 * 16)))] : List Int)).length 1) (([ior .u8 ((t22).getD (w64 (a0.Kind - 3)).toNat 0) (IntKind.u8.wrap (w64 (t5 * 16)))] : List Int)).length ((([ior .u8 ((t22).getD (w64 (a0.Kind - 3)).toNat 0) (IntKind.u8.wrap (w64 (t5 * 16)))] : List Int)).map (Value.int .u8)), row 5 1 (.slice (some ⟨eb25, eo26, none⟩) (t22).length ct22_0) (t22).length ((t22).map (Value.int .u8)), blk nb1 (#[Value.int .i64 (a0.Kind), Value.int .i64 (a0.Ns), Value.int .i64 (a0.Nr), Value.bool (a0.Poll)]) 23, R] w0 w := HS
          refine ⟨[(61, Value.slice (some ⟨lb29, 0, none⟩) (([ior .u8 ((t22).getD (w64 (a0.Kind - 3)).toNat 0) (IntKind.u8.wrap (w64 (t5 * 16)))] : List Int)).length 1), (4, Value.slice (some ⟨lb29, 0, none⟩) (([ior .u8 ((t22).getD (w64 (a0.Kind - 3)).toNat 0) (IntKind.u8.wrap (w64 (t5 * 16)))] : List Int)).length 1)], fun w => Sep.St [row 5 1 (.slice (some ⟨lb29, 0, none⟩) (([ior .u8 ((t22).getD (w64 (a0.Kind - 3)).toNat 0) (IntKind.u8.wrap (w64 (t5 * 16)))] : List Int)).length 1) (([ior .u8 ((t22).getD (w64 (a0.Kind - 3)).toNat 0) (IntKind.u8.wrap (w64 (t5 * 16)))] : List Int)).length ((([ior .u8 ((t22).getD (w64 (a0.Kind - 3)).toNat 0) (IntKind.u8.wrap (w64 (t5 * 16)))] : List Int)).map (Value.int .u8)), row 5 1 (.slice (some ⟨eb25, eo26, none⟩) (t22).length ct22_0) (t22).length ((t22).map (Value.int .u8)), blk nb1 (#[Value.int .i64 (a0.Kind), Value.int .i64 (a0.Ns), Value.int .i64 (a0.Nr), Value.bool (a0.Poll)]) 23, R] w0 w, ⟨.inl ⟨rfl, rfl⟩, ⟨.inr ⟨by decide, rfl⟩, trivial⟩⟩, ?_, HS⟩
          refine T.fin [(4, Value.slice (some ⟨lb29, 0, none⟩) (([ior .u8 ((t22).getD (w64 (a0.Kind - 3)).toNat 0) (IntKind.u8.wrap (w64 (t5 * 16)))] : List Int)).length 1)] rfl ⟨⟨_, Value.slice (some ⟨lb29, 0, none⟩) (([ior .u8 ((t22).getD (w64 (a0.Kind - 3)).toNat 0) (IntKind.u8.wrap (w64 (t5 * 16)))] : List Int)).length 1, [(61, Value.slice (some ⟨lb29, 0, none⟩) (([ior .u8 ((t22).getD (w64 (a0.Kind - 3)).toNat 0) (IntKind.u8.wrap (w64 (t5 * 16)))] : List Int)).length 1)], 4, rfl, rfl, ⟨.inr ⟨rfl, rfl⟩, trivial⟩, .run rfl (fun w HS => X.assign rfl), rfl, rfl, rfl⟩, trivial⟩ ⟨.inr ⟨rfl, rfl⟩, trivial⟩ (fun w HS => ?_)
          have HS : Sep.St [row 5 1 (.slice (some ⟨lb29, 0, none⟩) (([ior .u8 ((t22).getD (w64 (a0.Kind - 3)).toNat 0) (IntKind.u8.wrap (w64 (t5 * 16)))] : List Int)).length 1) (([ior .u8 ((t22).getD (w64 (a0.Kind - 3)).toNat 0) (IntKind.u8.wrap (w64 (t5 * 16)))] : List Int)).length ((([ior .u8 ((t22).getD (w64 (a0.Kind - 3)).toNat 0) (IntKind.u8.wrap (w64 (t5 * 16)))] : List Int)).map (Value.int .u8)), row 5 1 (.slice (some ⟨eb25, eo26, none⟩) (t22).length ct22_0) (t22).length ((t22).map (Value.int .u8)), blk nb1 (#[Value.int .i64 (a0.Kind), Value.int .i64 (a0.Ns), Value.int .i64 (a0.Nr), Value.bool (a0.Poll)]) 23, R] w0 w := HS
          refine At.next ?_
          refine V.keep [(4, Value.slice (some ⟨lb29, 0, none⟩) (([ior .u8 ((t22).getD (w64 (a0.Kind - 3)).toNat 0) (IntKind.u8.wrap (w64 (t5 * 16)))] : List Int)).length 1)] ⟨rfl, trivial⟩ ?_
          refine V.ret ?_
          replace HS := HS.sel [0, 3] [1, 2] rfl
          cases H
          exact At.ret1 rfl rfl ⟨_, rfl, (some ⟨lb29, 0, none⟩), 1, rfl, HS⟩
  · replace H := ite_f c4 H
    refine V.condT (sb (n_f (b_f c4))) ?_
    refine V.seq ?_
    refine V.region ?_
    refine W.rd (X.assign rfl) rfl rfl rfl ?_
    refine W.nil ?_
    refine At.next ?_
    refine V.keep [(4, Value.slice none 0 0)] ⟨rfl, trivial⟩ ?_
    refine V.ret ?_
    refine At.thenRet ?_
    replace HS := row_nil' (e := 5) 1 none HS
    have HS : Sep.St [row 5 1 (.slice none (([] : List Int)).length 0) (([] : List Int)).length ((([] : List Int)).map (Value.int .u8)), blk nb1 (#[Value.int .i64 (a0.Kind), Value.int .i64 (a0.Ns), Value.int .i64 (a0.Nr), Value.bool (a0.Poll)]) 23, R] w0 w := HS
    replace HS := HS.sel [0, 2] [1] rfl
    cases H
    exact At.ret1 rfl rfl ⟨_, rfl, none, 0, rfl, HS⟩

/-! ### signalman/signalmanlaw12.alive: function 8 -/
def signalmanlaw12_alive.f  : Option (Bool) := ((control_Bytes.f ({ Kind := 0, Ns := 0, Nr := 0, Poll := false } : api_Ctl) 128).bind fun t1 => (if ((t1).length : Int) = 2 then (if 0 ≤ (0 : Int) ∧ (0 : Int) < ((t1).length : Int) then (if ((t1).getD ((0 : Int)).toNat 0) = 0 then (if 0 ≤ (1 : Int) ∧ (1 : Int) < ((t1).length : Int) then (if ((t1).getD ((1 : Int)).toNat 0) = 0 then ((control_Right.f ({ Kind := 4, Ns := 0, Nr := 0, Poll := false } : api_Ctl) 128).bind fun t10 => (if t10 = true then ((control_Right.f ({ Kind := 0, Ns := 0, Nr := 0, Poll := false } : api_Ctl) 8).bind fun t13 => some (!(t13))) else some (false))) else some (false)) else none) else some (false)) else none) else some (false)))
set_option maxRecDepth 100000 in
set_option maxHeartbeats 4000000 in
theorem signalmanlaw12_alive.calls  (R : As) (w0 w : World)  (r : Bool)  (H : signalmanlaw12_alive.f  = some r) (HS : Sep.St [R] w0 w) : Calls Try.prog 8 #[] w (Ret fun u w => u = Value.bool (r) ∧ Sep.St [R] w0 w) := by
  unfold signalmanlaw12_alive.f at H
  refine calls_enter Try.func8 rfl rfl ?_
  have H : _ = some r := H
  refine V.seq ?_
  refine V.region ?_
  refine W.rd (X.assign rfl) rfl rfl rfl ?_
  refine W.nil ?_
  refine At.next ?_
  refine V.keep [] trivial ?_
  refine V.seq ?_
  refine V.region ?_
  refine W.rd (X.build (vs := #[]) (v := Value.agg #[Value.int .i64 (0), Value.int .i64 (0), Value.int .i64 (0), Value.bool (false)]) (fun a ha => by simp only [List.map_toArray, List.map_cons, List.map_nil]; try rfl) (fun _ => by kernel_rfl)) rfl rfl rfl ?_
  obtain ⟨t1, A2, H⟩ := bind_s H
  refine W.ev (Y.call Try.func10 (by kernel_rfl) rfl (vs := [Value.agg #[Value.int .i64 (0), Value.int .i64 (0), Value.int .i64 (0), Value.bool (false)], Value.int .i64 (128)]) rfl (control_Bytes.calls ({ Kind := 0, Ns := 0, Nr := 0, Poll := false } : api_Ctl) 128 _ w0 _  t1  A2 (Sep.St.tailJoin (m := []) (r := [R]) HS))) rfl rfl rfl ?_
  rintro _ w ⟨at1_0, ct1_0, rfl, HS⟩
  replace HS := Sep.St.tailOpen (m := [row 5 1 (.slice at1_0 (t1).length ct1_0) (t1).length ((t1).map (Value.int .u8))]) (r := [R]) HS
  have HS : Sep.St [row 5 1 (.slice at1_0 (t1).length ct1_0) (t1).length ((t1).map (Value.int .u8)), R] w0 w := HS
  refine W.rd (X.assign rfl) rfl rfl rfl ?_
  refine W.nil ?_
  refine At.next ?_
  refine V.keep [(1, Value.slice at1_0 (t1).length ct1_0)] ⟨rfl, trivial⟩ ?_
  refine V.seq ?_
  refine V.region ?_
  refine W.rd (X.move rfl) rfl rfl rfl ?_
  refine W.rd (X.lenSl Try.underlying26 rfl) rfl rfl rfl ?_
  refine W.rd (X.cmp (decide (((t1).length : Int) = 2)) rfl rfl rfl rfl) rfl rfl rfl ?_
  refine W.rd (X.move rfl) rfl rfl rfl ?_
  by_cases c3 : ((t1).length : Int) = 2
  · replace H := ite_t c3 H
    refine W.want 7 rfl (sb (decide_eq_true c3)) ?_
    refine W.rd (X.move rfl) rfl rfl rfl ?_
    refine W.want 7 rfl (sb (decide_eq_true c3)) ?_
    obtain ⟨c4, H⟩ := ite_n H
    obtain ⟨eb5, eo6, hh⟩ := ((rdC.at 0 row_rd HS rfl)).some (by decide) c4.1 c4.2; subst hh
    refine W.rd (X.indexSl Try.underlying26 inf5 rfl rfl c4.1 c4.2) rfl rfl rfl ?_
    refine W.want 7 rfl (sb (decide_eq_true c3)) ?_
    refine W.rd (X.load Try.underlying5 rfl rfl (((rdC.at 0 row_rd HS rfl)).cellI c4.1 c4.2)) rfl rfl rfl ?_
    refine W.want 7 rfl (sb (decide_eq_true c3)) ?_
    refine W.rd (X.cmp (decide (((t1).getD ((0 : Int)).toNat 0) = 0)) rfl rfl rfl rfl) rfl rfl rfl ?_
    refine W.rd (X.pickT (sb (decide_eq_true c3)) rfl) rfl rfl rfl ?_
    refine W.rd (X.move rfl) rfl rfl rfl ?_
    by_cases c7 : ((t1).getD ((0 : Int)).toNat 0) = 0
    · replace H := ite_t c7 H
      refine W.want 13 rfl (sb (decide_eq_true c7)) ?_
      refine W.rd (X.move rfl) rfl rfl rfl ?_
      refine W.want 13 rfl (sb (decide_eq_true c7)) ?_
      obtain ⟨c8, H⟩ := ite_n H
      refine W.rd (X.indexSl Try.underlying26 inf5 rfl rfl c8.1 c8.2) rfl rfl rfl ?_
      refine W.want 13 rfl (sb (decide_eq_true c7)) ?_
      refine W.rd (X.load Try.underlying5 rfl rfl (((rdC.at 0 row_rd HS rfl)).cellI c8.1 c8.2)) rfl rfl rfl ?_
      refine W.want 13 rfl (sb (decide_eq_true c7)) ?_
      refine W.rd (X.cmp (decide (((t1).getD ((1 : Int)).toNat 0) = 0)) rfl rfl rfl rfl) rfl rfl rfl ?_
      refine W.rd (X.pickT (sb (decide_eq_true c7)) rfl) rfl rfl rfl ?_
      refine W.rd (X.move rfl) rfl rfl rfl ?_
      by_cases c9 : ((t1).getD ((1 : Int)).toNat 0) = 0
      · replace H := ite_t c9 H
        refine W.want 19 rfl (sb (decide_eq_true c9)) ?_
        refine W.rd (X.build (vs := #[(0, Value.int .i64 (4))]) (v := Value.agg #[Value.int .i64 (4), Value.int .i64 (0), Value.int .i64 (0), Value.bool (false)]) (fun a ha => by simp only [List.map_toArray, List.map_cons, List.map_nil]; rw [ha.ev (x := .const (Value.int .i64 (4))) (v := Value.int .i64 (4)) rfl]; try rfl) (fun _ => by kernel_rfl)) rfl rfl rfl ?_
        refine W.want 19 rfl (sb (decide_eq_true c9)) ?_
        obtain ⟨t10, A11, H⟩ := bind_s H
        refine W.ev (Y.call Try.func11 (by kernel_rfl) rfl (vs := [Value.agg #[Value.int .i64 (4), Value.int .i64 (0), Value.int .i64 (0), Value.bool (false)], Value.int .i64 (128)]) rfl (control_Right.calls ({ Kind := 4, Ns := 0, Nr := 0, Poll := false } : api_Ctl) 128 _ w0 _  t10  A11 (Sep.St.tailJoin (m := []) (r := [row 5 1 (.slice (some ⟨eb5, eo6, none⟩) (t1).length ct1_0) (t1).length ((t1).map (Value.int .u8)), R]) HS))) rfl rfl rfl ?_
        rintro _ w ⟨rfl, HS⟩
        replace HS := Sep.St.tailOpen (m := []) (r := [row 5 1 (.slice (some ⟨eb5, eo6, none⟩) (t1).length ct1_0) (t1).length ((t1).map (Value.int .u8)), R]) HS
        have HS : Sep.St [row 5 1 (.slice (some ⟨eb5, eo6, none⟩) (t1).length ct1_0) (t1).length ((t1).map (Value.int .u8)), R] w0 w := HS
        refine W.rd (X.pickT (sb (decide_eq_true c9)) rfl) rfl rfl rfl ?_
        refine W.rd (X.move rfl) rfl rfl rfl ?_
        by_cases c12 : t10 = true
        · replace H := ite_t c12 H
          refine W.want 23 rfl (sb c12) ?_
          refine W.rd (X.build (vs := #[]) (v := Value.agg #[Value.int .i64 (0), Value.int .i64 (0), Value.int .i64 (0), Value.bool (false)]) (fun a ha => by simp only [List.map_toArray, List.map_cons, List.map_nil]; try rfl) (fun _ => by kernel_rfl)) rfl rfl rfl ?_
          refine W.want 23 rfl (sb c12) ?_
          obtain ⟨t13, A14, H⟩ := bind_s H
          refine W.ev (Y.call Try.func11 (by kernel_rfl) rfl (vs := [Value.agg #[Value.int .i64 (0), Value.int .i64 (0), Value.int .i64 (0), Value.bool (false)], Value.int .i64 (8)]) rfl (control_Right.calls ({ Kind := 0, Ns := 0, Nr := 0, Poll := false } : api_Ctl) 8 _ w0 _  t13  A14 (Sep.St.tailJoin (m := []) (r := [row 5 1 (.slice (some ⟨eb5, eo6, none⟩) (t1).length ct1_0) (t1).length ((t1).map (Value.int .u8)), R]) HS))) rfl rfl rfl ?_
          rintro _ w ⟨rfl, HS⟩
          replace HS := Sep.St.tailOpen (m := []) (r := [row 5 1 (.slice (some ⟨eb5, eo6, none⟩) (t1).length ct1_0) (t1).length ((t1).map (Value.int .u8)), R]) HS
          have HS : Sep.St [row 5 1 (.slice (some ⟨eb5, eo6, none⟩) (t1).length ct1_0) (t1).length ((t1).map (Value.int .u8)), R] w0 w := HS
          refine W.want 23 rfl (sb c12) ?_
          refine W.rd (X.not rfl) rfl rfl rfl ?_
          refine W.rd (X.pickT (sb c12) rfl) rfl rfl rfl ?_
          refine W.rd (X.assign rfl) rfl rfl rfl ?_
          refine W.nil ?_
          refine At.next ?_
          refine V.keep [(0, Value.bool (!(t13)))] ⟨rfl, trivial⟩ ?_
          refine V.ret ?_
          replace HS := HS.sel [1] [0] rfl
          cases H
          exact At.ret1 rfl rfl ⟨_, rfl, rfl, HS⟩
        · replace H := ite_f c12 H
          refine W.pass 23 rfl (sb (b_f c12)) rfl rfl ?_
          refine W.pass 23 rfl (sb (b_f c12)) rfl rfl ?_
          refine W.pass 23 rfl (sb (b_f c12)) rfl rfl ?_
          refine W.rd (X.pickF (sb (b_f c12)) rfl) rfl rfl rfl ?_
          refine W.rd (X.assign rfl) rfl rfl rfl ?_
          refine W.nil ?_
          refine At.next ?_
          refine V.keep [(0, Value.bool (false))] ⟨rfl, trivial⟩ ?_
          refine V.ret ?_
          replace HS := HS.sel [1] [0] rfl
          cases H
          exact At.ret1 rfl rfl ⟨_, rfl, rfl, HS⟩
      · replace H := ite_f c9 H
        refine W.pass 19 rfl (sb (decide_eq_false c9)) rfl rfl ?_
        refine W.pass 19 rfl (sb (decide_eq_false c9)) rfl rfl ?_
        refine W.rd (X.pickF (sb (decide_eq_false c9)) rfl) rfl rfl rfl ?_
        refine W.rd (X.move rfl) rfl rfl rfl ?_
        refine W.pass 23 rfl rfl rfl rfl ?_
        refine W.pass 23 rfl rfl rfl rfl ?_
        refine W.pass 23 rfl rfl rfl rfl ?_
        refine W.rd (X.pickF rfl rfl) rfl rfl rfl ?_
        refine W.rd (X.assign rfl) rfl rfl rfl ?_
        refine W.nil ?_
        refine At.next ?_
        refine V.keep [(0, Value.bool (false))] ⟨rfl, trivial⟩ ?_
        refine V.ret ?_
        replace HS := HS.sel [1] [0] rfl
        cases H
        exact At.ret1 rfl rfl ⟨_, rfl, rfl, HS⟩
    · replace H := ite_f c7 H
      refine W.pass 13 rfl (sb (decide_eq_false c7)) rfl rfl ?_
      refine W.pass 13 rfl (sb (decide_eq_false c7)) rfl rfl ?_
      refine W.pass 13 rfl (sb (decide_eq_false c7)) rfl rfl ?_
      refine W.pass 13 rfl (sb (decide_eq_false c7)) rfl rfl ?_
      refine W.rd (X.pickF (sb (decide_eq_false c7)) rfl) rfl rfl rfl ?_
      refine W.rd (X.move rfl) rfl rfl rfl ?_
      refine W.pass 19 rfl rfl rfl rfl ?_
      refine W.pass 19 rfl rfl rfl rfl ?_
      refine W.rd (X.pickF rfl rfl) rfl rfl rfl ?_
      refine W.rd (X.move rfl) rfl rfl rfl ?_
      refine W.pass 23 rfl rfl rfl rfl ?_
      refine W.pass 23 rfl rfl rfl rfl ?_
      refine W.pass 23 rfl rfl rfl rfl ?_
      refine W.rd (X.pickF rfl rfl) rfl rfl rfl ?_
      refine W.rd (X.assign rfl) rfl rfl rfl ?_
      refine W.nil ?_
      refine At.next ?_
      refine V.keep [(0, Value.bool (false))] ⟨rfl, trivial⟩ ?_
      refine V.ret ?_
      replace HS := HS.sel [1] [0] rfl
      cases H
      exact At.ret1 rfl rfl ⟨_, rfl, rfl, HS⟩
  · replace H := ite_f c3 H
    refine W.pass 7 rfl (sb (decide_eq_false c3)) rfl rfl ?_
    refine W.pass 7 rfl (sb (decide_eq_false c3)) rfl rfl ?_
    refine W.pass 7 rfl (sb (decide_eq_false c3)) rfl rfl ?_
    refine W.pass 7 rfl (sb (decide_eq_false c3)) rfl rfl ?_
    refine W.rd (X.pickF (sb (decide_eq_false c3)) rfl) rfl rfl rfl ?_
    refine W.rd (X.move rfl) rfl rfl rfl ?_
    refine W.pass 13 rfl rfl rfl rfl ?_
    refine W.pass 13 rfl rfl rfl rfl ?_
    refine W.pass 13 rfl rfl rfl rfl ?_
    refine W.pass 13 rfl rfl rfl rfl ?_
    refine W.rd (X.pickF rfl rfl) rfl rfl rfl ?_
    refine W.rd (X.move rfl) rfl rfl rfl ?_
    refine W.pass 19 rfl rfl rfl rfl ?_
    refine W.pass 19 rfl rfl rfl rfl ?_
    refine W.rd (X.pickF rfl rfl) rfl rfl rfl ?_
    refine W.rd (X.move rfl) rfl rfl rfl ?_
    refine W.pass 23 rfl rfl rfl rfl ?_
    refine W.pass 23 rfl rfl rfl rfl ?_
    refine W.pass 23 rfl rfl rfl rfl ?_
    refine W.rd (X.pickF rfl rfl) rfl rfl rfl ?_
    refine W.rd (X.assign rfl) rfl rfl rfl ?_
    refine W.nil ?_
    refine At.next ?_
    refine V.keep [(0, Value.bool (false))] ⟨rfl, trivial⟩ ?_
    refine V.ret ?_
    replace HS := HS.sel [1] [0] rfl
    cases H
    exact At.ret1 rfl rfl ⟨_, rfl, rfl, HS⟩

/-! ### signalman/signalmanlaw12.ControlLimits: function 5 -/
def signalmanlaw12_ControlLimits.f (a0 : Int) (a1 : Int) (a2 : Bool) : Option (Bool) := ((signalmanlaw12_alive.f ).bind fun t1 => (if a2 = true then (if t1 = true then (if a0 < 0 then some (t1) else (if a0 > 7 then some (t1) else (if a1 ≥ 0 then ((control_Right.f ({ Kind := a0, Ns := a1, Nr := 0, Poll := false } : api_Ctl) 32768).bind fun t8 => ((control_Right.f ({ Kind := a0, Ns := 0, Nr := a1, Poll := false } : api_Ctl) 32768).bind fun t10 => (if a0 = 0 then (if ((t8) == (decide (a1 < 32768))) = true then some (((t10) == (decide (a1 < 32768)))) else some (false)) else (if a0 ≤ 2 then (if ((t8) == (decide (a1 = 0))) = true then some (((t10) == (decide (a1 < 32768)))) else some (false)) else (if ((t8) == (decide (a1 = 0))) = true then some (((t10) == (decide (a1 = 0)))) else some (false)))))) else ((control_Right.f ({ Kind := a0, Ns := a1, Nr := 0, Poll := false } : api_Ctl) 32768).bind fun t17 => ((control_Right.f ({ Kind := a0, Ns := 0, Nr := a1, Poll := false } : api_Ctl) 32768).bind fun t19 => (if a0 = 0 then (if ((t17) == (false)) = true then some (((t19) == (false))) else some (false)) else (if a0 ≤ 2 then (if ((t17) == (decide (a1 = 0))) = true then some (((t19) == (false))) else some (false)) else (if ((t17) == (decide (a1 = 0))) = true then some (((t19) == (decide (a1 = 0)))) else some (false))))))))) else some (t1)) else (if t1 = true then (if a0 < 0 then some (t1) else (if a0 > 7 then some (t1) else (if a1 ≥ 0 then ((control_Right.f ({ Kind := a0, Ns := a1, Nr := 0, Poll := false } : api_Ctl) 128).bind fun t30 => ((control_Right.f ({ Kind := a0, Ns := 0, Nr := a1, Poll := false } : api_Ctl) 128).bind fun t32 => (if a0 = 0 then (if ((t30) == (decide (a1 < 128))) = true then some (((t32) == (decide (a1 < 128)))) else some (false)) else (if a0 ≤ 2 then (if ((t30) == (decide (a1 = 0))) = true then some (((t32) == (decide (a1 < 128)))) else some (false)) else (if ((t30) == (decide (a1 = 0))) = true then some (((t32) == (decide (a1 = 0)))) else some (false)))))) else ((control_Right.f ({ Kind := a0, Ns := a1, Nr := 0, Poll := false } : api_Ctl) 128).bind fun t39 => ((control_Right.f ({ Kind := a0, Ns := 0, Nr := a1, Poll := false } : api_Ctl) 128).bind fun t41 => (if a0 = 0 then (if ((t39) == (false)) = true then some (((t41) == (false))) else some (false)) else (if a0 ≤ 2 then (if ((t39) == (decide (a1 = 0))) = true then some (((t41) == (false))) else some (false)) else (if ((t39) == (decide (a1 = 0))) = true then some (((t41) == (decide (a1 = 0)))) else some (false))))))))) else some (t1))))
set_option maxRecDepth 100000 in
set_option maxHeartbeats 4000000 in
theorem signalmanlaw12_ControlLimits.calls (a0 : Int) (a1 : Int) (a2 : Bool) (R : As) (w0 w : World)  (r : Bool)  (H : signalmanlaw12_ControlLimits.f a0 a1 a2 = some r) (HS : Sep.St [R] w0 w) : Calls Try.prog 5 #[Value.int .i64 (a0), Value.int .i64 (a1), Value.bool (a2)] w (Ret fun u w => u = Value.bool (r) ∧ Sep.St [R] w0 w) := by
  unfold signalmanlaw12_ControlLimits.f at H
  refine calls_enter Try.func5 rfl rfl ?_
  have H : _ = some r := H
  refine V.seq ?_
  refine V.region ?_
  refine W.rd (X.assign rfl) rfl rfl rfl ?_
  refine W.nil ?_
  refine At.next ?_
  refine V.keep [(0, Value.int .i64 (a0)), (1, Value.int .i64 (a1)), (2, Value.bool (a2))] ⟨rfl, rfl, rfl, trivial⟩ ?_
  refine V.seq ?_
  refine V.region ?_
  obtain ⟨t1, A2, H⟩ := bind_s H
  refine W.ev (Y.call Try.func8 (by kernel_rfl) rfl (vs := []) rfl (signalmanlaw12_alive.calls  _ w0 _  t1  A2 (Sep.St.tailJoin (m := []) (r := [R]) HS))) rfl rfl rfl ?_
  rintro _ w ⟨rfl, HS⟩
  replace HS := Sep.St.tailOpen (m := []) (r := [R]) HS
  have HS : Sep.St [R] w0 w := HS
  refine W.rd (X.assign rfl) rfl rfl rfl ?_
  refine W.nil ?_
  refine At.next ?_
  refine V.keep [(0, Value.int .i64 (a0)), (1, Value.int .i64 (a1)), (2, Value.bool (a2)), (7, Value.bool (t1))] ⟨rfl, rfl, rfl, rfl, trivial⟩ ?_
  refine V.seq ?_
  refine V.region ?_
  refine W.rd (X.assign rfl) rfl rfl rfl ?_
  refine W.nil ?_
  refine At.next ?_
  refine V.keep [(0, Value.int .i64 (a0)), (1, Value.int .i64 (a1)), (2, Value.bool (a2)), (7, Value.bool (t1)), (8, Value.int .i64 (128))] ⟨rfl, rfl, rfl, rfl, rfl, trivial⟩ ?_
  refine V.seq ?_
  refine V.seq ?_
  refine V.region ?_
  refine W.rd (X.move rfl) rfl rfl rfl ?_
  refine W.nil ?_
  refine At.next ?_
  refine V.keep [(0, Value.int .i64 (a0)), (1, Value.int .i64 (a1)), (7, Value.bool (t1)), (8, Value.int .i64 (128)), (13, Value.bool (a2))] ⟨rfl, rfl, rfl, rfl, rfl, trivial⟩ ?_
  by_cases c3 : a2 = true
  · replace H := ite_t c3 H
    refine V.condT (sb c3) ?_
    refine V.region ?_
    refine W.rd (X.assign rfl) rfl rfl rfl ?_
    refine W.nil ?_
    refine At.next ?_
    refine V.keep [(0, Value.int .i64 (a0)), (1, Value.int .i64 (a1)), (7, Value.bool (t1)), (8, Value.int .i64 (32768))] ⟨rfl, rfl, rfl, rfl, trivial⟩ ?_
    refine V.seq ?_
    refine V.seq ?_
    refine V.region ?_
    refine W.rd (X.move rfl) rfl rfl rfl ?_
    refine W.rd (X.not rfl) rfl rfl rfl ?_
    refine W.rd (X.move rfl) rfl rfl rfl ?_
    by_cases c4 : t1 = true
    · replace H := ite_t c4 H
      refine W.want 16 rfl (sb (n_t c4)) ?_
      refine W.rd (X.move rfl) rfl rfl rfl ?_
      refine W.want 16 rfl (sb (n_t c4)) ?_
      refine W.rd (X.cmp (decide (a0 < 0)) rfl rfl rfl rfl) rfl rfl rfl ?_
      refine W.rd (X.pickF (sb (n_t c4)) rfl) rfl rfl rfl ?_
      refine W.rd (X.move rfl) rfl rfl rfl ?_
      by_cases c5 : a0 < 0
      · replace H := ite_t c5 H
        refine W.pass 20 rfl (sb (decide_eq_true c5)) rfl rfl ?_
        refine W.pass 20 rfl (sb (decide_eq_true c5)) rfl rfl ?_
        refine W.rd (X.pickT (sb (decide_eq_true c5)) rfl) rfl rfl rfl ?_
        refine W.nil ?_
        refine At.next ?_
        refine V.keep [(0, Value.int .i64 (a0)), (1, Value.int .i64 (a1)), (7, Value.bool (t1)), (8, Value.int .i64 (32768)), (23, Value.bool (true))] ⟨rfl, rfl, rfl, rfl, rfl, trivial⟩ ?_
        refine V.condT rfl ?_
        refine V.seq ?_
        refine V.region ?_
        refine W.rd (X.move rfl) rfl rfl rfl ?_
        refine W.rd (X.assign rfl) rfl rfl rfl ?_
        refine W.nil ?_
        refine At.next ?_
        refine V.keep [(6, Value.bool (t1))] ⟨rfl, trivial⟩ ?_
        refine V.ret ?_
        refine At.thenRet ?_
        cases H
        exact At.ret1 rfl rfl ⟨_, rfl, rfl, HS⟩
      · replace H := ite_f c5 H
        refine W.want 20 rfl (sb (decide_eq_false c5)) ?_
        refine W.rd (X.move rfl) rfl rfl rfl ?_
        refine W.want 20 rfl (sb (decide_eq_false c5)) ?_
        refine W.rd (X.cmp (decide (a0 > 7)) rfl rfl rfl rfl) rfl rfl rfl ?_
        refine W.rd (X.pickF (sb (decide_eq_false c5)) rfl) rfl rfl rfl ?_
        refine W.nil ?_
        refine At.next ?_
        refine V.keep [(0, Value.int .i64 (a0)), (1, Value.int .i64 (a1)), (7, Value.bool (t1)), (8, Value.int .i64 (32768)), (23, Value.bool (decide (a0 > 7)))] ⟨rfl, rfl, rfl, rfl, rfl, trivial⟩ ?_
        by_cases c6 : a0 > 7
        · replace H := ite_t c6 H
          refine V.condT (sb (decide_eq_true c6)) ?_
          refine V.seq ?_
          refine V.region ?_
          refine W.rd (X.move rfl) rfl rfl rfl ?_
          refine W.rd (X.assign rfl) rfl rfl rfl ?_
          refine W.nil ?_
          refine At.next ?_
          refine V.keep [(6, Value.bool (t1))] ⟨rfl, trivial⟩ ?_
          refine V.ret ?_
          refine At.thenRet ?_
          cases H
          exact At.ret1 rfl rfl ⟨_, rfl, rfl, HS⟩
        · replace H := ite_f c6 H
          refine V.condF (sb (decide_eq_false c6)) ?_
          refine V.skip ?_
          refine At.next ?_
          refine V.keep [(0, Value.int .i64 (a0)), (1, Value.int .i64 (a1)), (8, Value.int .i64 (32768))] ⟨rfl, rfl, rfl, trivial⟩ ?_
          refine V.seq ?_
          refine V.region ?_
          refine W.rd (X.move rfl) rfl rfl rfl ?_
          refine W.rd (X.cmp (decide (a1 ≥ 0)) rfl rfl rfl rfl) rfl rfl rfl ?_
          refine W.rd (X.move rfl) rfl rfl rfl ?_
          by_cases c7 : a1 ≥ 0
          · replace H := ite_t c7 H
            refine W.want 27 rfl (sb (decide_eq_true c7)) ?_
            refine W.rd (X.move rfl) rfl rfl rfl ?_
            refine W.want 27 rfl (sb (decide_eq_true c7)) ?_
            refine W.rd (X.move rfl) rfl rfl rfl ?_
            refine W.want 27 rfl (sb (decide_eq_true c7)) ?_
            refine W.rd (X.cmp (decide (a1 < 32768)) rfl rfl rfl rfl) rfl rfl rfl ?_
            refine W.rd (X.pickT (sb (decide_eq_true c7)) rfl) rfl rfl rfl ?_
            refine W.rd (X.assign rfl) rfl rfl rfl ?_
            refine W.nil ?_
            refine At.next ?_
            refine V.keep [(0, Value.int .i64 (a0)), (1, Value.int .i64 (a1)), (8, Value.int .i64 (32768)), (9, Value.bool (decide (a1 < 32768)))] ⟨rfl, rfl, rfl, rfl, trivial⟩ ?_
            refine V.seq ?_
            refine V.region ?_
            refine W.rd (X.move rfl) rfl rfl rfl ?_
            refine W.rd (X.move rfl) rfl rfl rfl ?_
            refine W.rd (X.build (vs := #[(0, Value.int .i64 (a0)), (1, Value.int .i64 (a1))]) (v := Value.agg #[Value.int .i64 (a0), Value.int .i64 (a1), Value.int .i64 (0), Value.bool (false)]) (fun a ha => by simp only [List.map_toArray, List.map_cons, List.map_nil]; rw [ha.ev (x := .tmp 32) (v := Value.int .i64 (a0)) rfl]; rw [ha.ev (x := .tmp 33) (v := Value.int .i64 (a1)) rfl]; try rfl) (fun _ => by kernel_rfl)) rfl rfl rfl ?_
            refine W.rd (X.move rfl) rfl rfl rfl ?_
            obtain ⟨t8, A9, H⟩ := bind_s H
            refine W.ev (Y.call Try.func11 (by kernel_rfl) rfl (vs := [Value.agg #[Value.int .i64 (a0), Value.int .i64 (a1), Value.int .i64 (0), Value.bool (false)], Value.int .i64 (32768)]) rfl (control_Right.calls ({ Kind := a0, Ns := a1, Nr := 0, Poll := false } : api_Ctl) 32768 _ w0 _  t8  A9 (Sep.St.tailJoin (m := []) (r := [R]) HS))) rfl rfl rfl ?_
            rintro _ w ⟨rfl, HS⟩
            replace HS := Sep.St.tailOpen (m := []) (r := [R]) HS
            have HS : Sep.St [R] w0 w := HS
            refine W.rd (X.assign rfl) rfl rfl rfl ?_
            refine W.nil ?_
            refine At.next ?_
            refine V.keep [(0, Value.int .i64 (a0)), (1, Value.int .i64 (a1)), (8, Value.int .i64 (32768)), (9, Value.bool (decide (a1 < 32768))), (10, Value.bool (t8))] ⟨rfl, rfl, rfl, rfl, rfl, trivial⟩ ?_
            refine V.seq ?_
            refine V.region ?_
            refine W.rd (X.move rfl) rfl rfl rfl ?_
            refine W.rd (X.move rfl) rfl rfl rfl ?_
            refine W.rd (X.build (vs := #[(0, Value.int .i64 (a0)), (2, Value.int .i64 (a1))]) (v := Value.agg #[Value.int .i64 (a0), Value.int .i64 (0), Value.int .i64 (a1), Value.bool (false)]) (fun a ha => by simp only [List.map_toArray, List.map_cons, List.map_nil]; rw [ha.ev (x := .tmp 37) (v := Value.int .i64 (a0)) rfl]; rw [ha.ev (x := .tmp 38) (v := Value.int .i64 (a1)) rfl]; try rfl) (fun _ => by kernel_rfl)) rfl rfl rfl ?_
            refine W.rd (X.move rfl) rfl rfl rfl ?_
            obtain ⟨t10, A11, H⟩ := bind_s H
            refine W.ev (Y.call Try.func11 (by kernel_rfl) rfl (vs := [Value.agg #[Value.int .i64 (a0), Value.int .i64 (0), Value.int .i64 (a1), Value.bool (false)], Value.int .i64 (32768)]) rfl (control_Right.calls ({ Kind := a0, Ns := 0, Nr := a1, Poll := false } : api_Ctl) 32768 _ w0 _  t10  A11 (Sep.St.tailJoin (m := []) (r := [R]) HS))) rfl rfl rfl ?_
            rintro _ w ⟨rfl, HS⟩
            replace HS := Sep.St.tailOpen (m := []) (r := [R]) HS
            have HS : Sep.St [R] w0 w := HS
            refine W.rd (X.assign rfl) rfl rfl rfl ?_
            refine W.nil ?_
            refine At.next ?_
            refine V.keep [(0, Value.int .i64 (a0)), (1, Value.int .i64 (a1)), (9, Value.bool (decide (a1 < 32768))), (10, Value.bool (t8)), (11, Value.bool (t10))] ⟨rfl, rfl, rfl, rfl, rfl, trivial⟩ ?_
            refine V.seq ?_
            refine V.block ?_
            refine V.seq ?_
            refine V.region ?_
            refine W.rd (X.move rfl) rfl rfl rfl ?_
            refine W.rd (X.cmp (decide (a0 = 0)) rfl rfl rfl rfl) rfl rfl rfl ?_
            refine W.rd (X.assign rfl) rfl rfl rfl ?_
            refine W.nil ?_
            refine At.next ?_
            refine V.keep [(0, Value.int .i64 (a0)), (1, Value.int .i64 (a1)), (9, Value.bool (decide (a1 < 32768))), (10, Value.bool (t8)), (11, Value.bool (t10)), (42, Value.bool (decide (a0 = 0)))] ⟨rfl, rfl, rfl, rfl, rfl, rfl, trivial⟩ ?_
            by_cases c12 : a0 = 0
            · replace H := ite_t c12 H
              refine V.condT (sb (decide_eq_true c12)) ?_
              refine V.seq ?_
              refine V.region ?_
              refine W.rd (X.move rfl) rfl rfl rfl ?_
              refine W.rd (X.move rfl) rfl rfl rfl ?_
              refine W.rd (X.eqB Try.underlying4 rfl rfl) rfl rfl rfl ?_
              refine W.rd (X.move rfl) rfl rfl rfl ?_
              by_cases c13 : ((t8) == (decide (a1 < 32768))) = true
              · replace H := ite_t c13 H
                refine W.want 48 rfl (sb c13) ?_
                refine W.rd (X.move rfl) rfl rfl rfl ?_
                refine W.want 48 rfl (sb c13) ?_
                refine W.rd (X.move rfl) rfl rfl rfl ?_
                refine W.want 48 rfl (sb c13) ?_
                refine W.rd (X.eqB Try.underlying4 rfl rfl) rfl rfl rfl ?_
                refine W.rd (X.pickT (sb c13) rfl) rfl rfl rfl ?_
                refine W.rd (X.assign rfl) rfl rfl rfl ?_
                refine W.nil ?_
                refine At.next ?_
                refine V.keep [(6, Value.bool (((t10) == (decide (a1 < 32768)))))] ⟨rfl, trivial⟩ ?_
                refine V.ret ?_
                refine At.blockRet ?_
                refine At.thenRet ?_
                cases H
                exact At.ret1 rfl rfl ⟨_, rfl, rfl, HS⟩
              · replace H := ite_f c13 H
                refine W.pass 48 rfl (sb (b_f c13)) rfl rfl ?_
                refine W.pass 48 rfl (sb (b_f c13)) rfl rfl ?_
                refine W.pass 48 rfl (sb (b_f c13)) rfl rfl ?_
                refine W.rd (X.pickF (sb (b_f c13)) rfl) rfl rfl rfl ?_
                refine W.rd (X.assign rfl) rfl rfl rfl ?_
                refine W.nil ?_
                refine At.next ?_
                refine V.keep [(6, Value.bool (false))] ⟨rfl, trivial⟩ ?_
                refine V.ret ?_
                refine At.blockRet ?_
                refine At.thenRet ?_
                cases H
                exact At.ret1 rfl rfl ⟨_, rfl, rfl, HS⟩
            · replace H := ite_f c12 H
              refine V.condF (sb (decide_eq_false c12)) ?_
              refine V.seq ?_
              refine V.region ?_
              refine W.rd (X.move rfl) rfl rfl rfl ?_
              refine W.rd (X.cmp (decide (a0 ≤ 2)) rfl rfl rfl rfl) rfl rfl rfl ?_
              refine W.rd (X.assign rfl) rfl rfl rfl ?_
              refine W.nil ?_
              refine At.next ?_
              refine V.keep [(1, Value.int .i64 (a1)), (9, Value.bool (decide (a1 < 32768))), (10, Value.bool (t8)), (11, Value.bool (t10)), (53, Value.bool (decide (a0 ≤ 2)))] ⟨rfl, rfl, rfl, rfl, rfl, trivial⟩ ?_
              by_cases c14 : a0 ≤ 2
              · replace H := ite_t c14 H
                refine V.condT (sb (decide_eq_true c14)) ?_
                refine V.seq ?_
                refine V.region ?_
                refine W.rd (X.move rfl) rfl rfl rfl ?_
                refine W.rd (X.move rfl) rfl rfl rfl ?_
                refine W.rd (X.cmp (decide (a1 = 0)) rfl rfl rfl rfl) rfl rfl rfl ?_
                refine W.rd (X.eqB Try.underlying4 rfl rfl) rfl rfl rfl ?_
                refine W.rd (X.move rfl) rfl rfl rfl ?_
                by_cases c15 : ((t8) == (decide (a1 = 0))) = true
                · replace H := ite_t c15 H
                  refine W.want 60 rfl (sb c15) ?_
                  refine W.rd (X.move rfl) rfl rfl rfl ?_
                  refine W.want 60 rfl (sb c15) ?_
                  refine W.rd (X.move rfl) rfl rfl rfl ?_
                  refine W.want 60 rfl (sb c15) ?_
                  refine W.rd (X.eqB Try.underlying4 rfl rfl) rfl rfl rfl ?_
                  refine W.rd (X.pickT (sb c15) rfl) rfl rfl rfl ?_
                  refine W.rd (X.assign rfl) rfl rfl rfl ?_
                  refine W.nil ?_
                  refine At.next ?_
                  refine V.keep [(6, Value.bool (((t10) == (decide (a1 < 32768)))))] ⟨rfl, trivial⟩ ?_
                  refine V.ret ?_
                  refine At.blockRet ?_
                  refine At.thenRet ?_
                  cases H
                  exact At.ret1 rfl rfl ⟨_, rfl, rfl, HS⟩
                · replace H := ite_f c15 H
                  refine W.pass 60 rfl (sb (b_f c15)) rfl rfl ?_
                  refine W.pass 60 rfl (sb (b_f c15)) rfl rfl ?_
                  refine W.pass 60 rfl (sb (b_f c15)) rfl rfl ?_
                  refine W.rd (X.pickF (sb (b_f c15)) rfl) rfl rfl rfl ?_
                  refine W.rd (X.assign rfl) rfl rfl rfl ?_
                  refine W.nil ?_
                  refine At.next ?_
                  refine V.keep [(6, Value.bool (false))] ⟨rfl, trivial⟩ ?_
                  refine V.ret ?_
                  refine At.blockRet ?_
                  refine At.thenRet ?_
                  cases H
                  exact At.ret1 rfl rfl ⟨_, rfl, rfl, HS⟩
              · replace H := ite_f c14 H
                refine V.condF (sb (decide_eq_false c14)) ?_
                refine V.skip ?_
                refine At.blockEnd ?_
                refine At.next ?_
                refine V.keep [(1, Value.int .i64 (a1)), (10, Value.bool (t8)), (11, Value.bool (t10))] ⟨rfl, rfl, rfl, trivial⟩ ?_
                refine V.seq ?_
                refine V.region ?_
                refine W.rd (X.move rfl) rfl rfl rfl ?_
                refine W.rd (X.move rfl) rfl rfl rfl ?_
                refine W.rd (X.cmp (decide (a1 = 0)) rfl rfl rfl rfl) rfl rfl rfl ?_
                refine W.rd (X.eqB Try.underlying4 rfl rfl) rfl rfl rfl ?_
                refine W.rd (X.move rfl) rfl rfl rfl ?_
                by_cases c16 : ((t8) == (decide (a1 = 0))) = true
                · replace H := ite_t c16 H
                  refine W.want 69 rfl (sb c16) ?_
                  refine W.rd (X.move rfl) rfl rfl rfl ?_
                  refine W.want 69 rfl (sb c16) ?_
                  refine W.rd (X.move rfl) rfl rfl rfl ?_
                  refine W.want 69 rfl (sb c16) ?_
                  refine W.rd (X.cmp (decide (a1 = 0)) rfl rfl rfl rfl) rfl rfl rfl ?_
                  refine W.want 69 rfl (sb c16) ?_
                  refine W.rd (X.eqB Try.underlying4 rfl rfl) rfl rfl rfl ?_
                  refine W.rd (X.pickT (sb c16) rfl) rfl rfl rfl ?_
                  refine W.rd (X.assign rfl) rfl rfl rfl ?_
                  refine W.nil ?_
                  refine At.next ?_
                  refine V.keep [(6, Value.bool (((t10) == (decide (a1 = 0)))))] ⟨rfl, trivial⟩ ?_
                  refine V.ret ?_
                  cases H
                  exact At.ret1 rfl rfl ⟨_, rfl, rfl, HS⟩
                · replace H := ite_f c16 H
                  refine W.pass 69 rfl (sb (b_f c16)) rfl rfl ?_
                  refine W.pass 69 rfl (sb (b_f c16)) rfl rfl ?_
                  refine W.pass 69 rfl (sb (b_f c16)) rfl rfl ?_
                  refine W.pass 69 rfl (sb (b_f c16)) rfl rfl ?_
                  refine W.rd (X.pickF (sb (b_f c16)) rfl) rfl rfl rfl ?_
                  refine W.rd (X.assign rfl) rfl rfl rfl ?_
                  refine W.nil ?_
                  refine At.next ?_
                  refine V.keep [(6, Value.bool (false))] ⟨rfl, trivial⟩ ?_
                  refine V.ret ?_
                  cases H
                  exact At.ret1 rfl rfl ⟨_, rfl, rfl, HS⟩
          · replace H := ite_f c7 H
            refine W.pass 27 rfl (sb (decide_eq_false c7)) rfl rfl ?_
            refine W.pass 27 rfl (sb (decide_eq_false c7)) rfl rfl ?_
            refine W.pass 27 rfl (sb (decide_eq_false c7)) rfl rfl ?_
            refine W.rd (X.pickF (sb (decide_eq_false c7)) rfl) rfl rfl rfl ?_
            refine W.rd (X.assign rfl) rfl rfl rfl ?_
            refine W.nil ?_
            refine At.next ?_
            refine V.keep [(0, Value.int .i64 (a0)), (1, Value.int .i64 (a1)), (8, Value.int .i64 (32768)), (9, Value.bool (false))] ⟨rfl, rfl, rfl, rfl, trivial⟩ ?_
            refine V.seq ?_
            refine V.region ?_
            refine W.rd (X.move rfl) rfl rfl rfl ?_
            refine W.rd (X.move rfl) rfl rfl rfl ?_
            refine W.rd (X.build (vs := #[(0, Value.int .i64 (a0)), (1, Value.int .i64 (a1))]) (v := Value.agg #[Value.int .i64 (a0), Value.int .i64 (a1), Value.int .i64 (0), Value.bool (false)]) (fun a ha => by simp only [List.map_toArray, List.map_cons, List.map_nil]; rw [ha.ev (x := .tmp 32) (v := Value.int .i64 (a0)) rfl]; rw [ha.ev (x := .tmp 33) (v := Value.int .i64 (a1)) rfl]; try rfl) (fun _ => by kernel_rfl)) rfl rfl rfl ?_
            refine W.rd (X.move rfl) rfl rfl rfl ?_
            obtain ⟨t17, A18, H⟩ := bind_s H
            refine W.ev (Y.call Try.func11 (by kernel_rfl) rfl (vs := [Value.agg #[Value.int .i64 (a0), Value.int .i64 (a1), Value.int .i64 (0), Value.bool (false)], Value.int .i64 (32768)]) rfl (control_Right.calls ({ Kind := a0, Ns := a1, Nr := 0, Poll := false } : api_Ctl) 32768 _ w0 _  t17  A18 (Sep.St.tailJoin (m := []) (r := [R]) HS))) rfl rfl rfl ?_
            rintro _ w ⟨rfl, HS⟩
            replace HS := Sep.St.tailOpen (m := []) (r := [R]) HS
            have HS : Sep.St [R] w0 w := HS
            refine W.rd (X.assign rfl) rfl rfl rfl ?_
            refine W.nil ?_
            refine At.next ?_
            refine V.keep [(0, Value.int .i64 (a0)), (1, Value.int .i64 (a1)), (8, Value.int .i64 (32768)), (9, Value.bool (false)), (10, Value.bool (t17))] ⟨rfl, rfl, rfl, rfl, rfl, trivial⟩ ?_
            refine V.seq ?_
            refine V.region ?_
            refine W.rd (X.move rfl) rfl rfl rfl ?_
            refine W.rd (X.move rfl) rfl rfl rfl ?_
            refine W.rd (X.build (vs := #[(0, Value.int .i64 (a0)), (2, Value.int .i64 (a1))]) (v := Value.agg #[Value.int .i64 (a0), Value.int .i64 (0), Value.int .i64 (a1), Value.bool (false)]) (fun a ha => by simp only [List.map_toArray, List.map_cons, List.map_nil]; rw [ha.ev (x := .tmp 37) (v := Value.int .i64 (a0)) rfl]; rw [ha.ev (x := .tmp 38) (v := Value.int .i64 (a1)) rfl]; try rfl) (fun _ => by kernel_rfl)) rfl rfl rfl ?_
            refine W.rd (X.move rfl) rfl rfl rfl ?_
            obtain ⟨t19, A20, H⟩ := bind_s H
            refine W.ev (Y.call Try.func11 (by kernel_rfl) rfl (vs := [Value.agg #[Value.int .i64 (a0), Value.int .i64 (0), Value.int .i64 (a1), Value.bool (false)], Value.int .i64 (32768)]) rfl (control_Right.calls ({ Kind := a0, Ns := 0, Nr := a1, Poll := false } : api_Ctl) 32768 _ w0 _  t19  A20 (Sep.St.tailJoin (m := []) (r := [R]) HS))) rfl rfl rfl ?_
            rintro _ w ⟨rfl, HS⟩
            replace HS := Sep.St.tailOpen (m := []) (r := [R]) HS
            have HS : Sep.St [R] w0 w := HS
            refine W.rd (X.assign rfl) rfl rfl rfl ?_
            refine W.nil ?_
            refine At.next ?_
            refine V.keep [(0, Value.int .i64 (a0)), (1, Value.int .i64 (a1)), (9, Value.bool (false)), (10, Value.bool (t17)), (11, Value.bool (t19))] ⟨rfl, rfl, rfl, rfl, rfl, trivial⟩ ?_
            refine V.seq ?_
            refine V.block ?_
            refine V.seq ?_
            refine V.region ?_
            refine W.rd (X.move rfl) rfl rfl rfl ?_
            refine W.rd (X.cmp (decide (a0 = 0)) rfl rfl rfl rfl) rfl rfl rfl ?_
            refine W.rd (X.assign rfl) rfl rfl rfl ?_
            refine W.nil ?_
            refine At.next ?_
            refine V.keep [(0, Value.int .i64 (a0)), (1, Value.int .i64 (a1)), (9, Value.bool (false)), (10, Value.bool (t17)), (11, Value.bool (t19)), (42, Value.bool (decide (a0 = 0)))] ⟨rfl, rfl, rfl, rfl, rfl, rfl, trivial⟩ ?_
            by_cases c21 : a0 = 0
            · replace H := ite_t c21 H
              refine V.condT (sb (decide_eq_true c21)) ?_
              refine V.seq ?_
              refine V.region ?_
              refine W.rd (X.move rfl) rfl rfl rfl ?_
              refine W.rd (X.move rfl) rfl rfl rfl ?_
              refine W.rd (X.eqB Try.underlying4 rfl rfl) rfl rfl rfl ?_
              refine W.rd (X.move rfl) rfl rfl rfl ?_
              by_cases c22 : ((t17) == (false)) = true
              · replace H := ite_t c22 H
                refine W.want 48 rfl (sb c22) ?_
                refine W.rd (X.move rfl) rfl rfl rfl ?_
                refine W.want 48 rfl (sb c22) ?_
                refine W.rd (X.move rfl) rfl rfl rfl ?_
                refine W.want 48 rfl (sb c22) ?_
                refine W.rd (X.eqB Try.underlying4 rfl rfl) rfl rfl rfl ?_
                refine W.rd (X.pickT (sb c22) rfl) rfl rfl rfl ?_
                refine W.rd (X.assign rfl) rfl rfl rfl ?_
                refine W.nil ?_
                refine At.next ?_
                refine V.keep [(6, Value.bool (((t19) == (false))))] ⟨rfl, trivial⟩ ?_
                refine V.ret ?_
                refine At.blockRet ?_
                refine At.thenRet ?_
                cases H
                exact At.ret1 rfl rfl ⟨_, rfl, rfl, HS⟩
              · replace H := ite_f c22 H
                refine W.pass 48 rfl (sb (b_f c22)) rfl rfl ?_
                refine W.pass 48 rfl (sb (b_f c22)) rfl rfl ?_
                refine W.pass 48 rfl (sb (b_f c22)) rfl rfl ?_
                refine W.rd (X.pickF (sb (b_f c22)) rfl) rfl rfl rfl ?_
                refine W.rd (X.assign rfl) rfl rfl rfl ?_
                refine W.nil ?_
                refine At.next ?_
                refine V.keep [(6, Value.bool (false))] ⟨rfl, trivial⟩ ?_
                refine V.ret ?_
                refine At.blockRet ?_
                refine At.thenRet ?_
                cases H
                exact At.ret1 rfl rfl ⟨_, rfl, rfl, HS⟩
            · replace H := ite_f c21 H
              refine V.condF (sb (decide_eq_false c21)) ?_
              refine V.seq ?_
              refine V.region ?_
              refine W.rd (X.move rfl) rfl rfl rfl ?_
              refine W.rd (X.cmp (decide (a0 ≤ 2)) rfl rfl rfl rfl) rfl rfl rfl ?_
              refine W.rd (X.assign rfl) rfl rfl rfl ?_
              refine W.nil ?_
              refine At.next ?_
              refine V.keep [(1, Value.int .i64 (a1)), (9, Value.bool (false)), (10, Value.bool (t17)), (11, Value.bool (t19)), (53, Value.bool (decide (a0 ≤ 2)))] ⟨rfl, rfl, rfl, rfl, rfl, trivial⟩ ?_
              by_cases c23 : a0 ≤ 2
              · replace H := ite_t c23 H
                refine V.condT (sb (decide_eq_true c23)) ?_
                refine V.seq ?_
                refine V.region ?_
                refine W.rd (X.move rfl) rfl rfl rfl ?_
                refine W.rd (X.move rfl) rfl rfl rfl ?_
                refine W.rd (X.cmp (decide (a1 = 0)) rfl rfl rfl rfl) rfl rfl rfl ?_
                refine W.rd (X.eqB Try.underlying4 rfl rfl) rfl rfl rfl ?_
                refine W.rd (X.move rfl) rfl rfl rfl ?_
                by_cases c24 : ((t17) == (decide (a1 = 0))) = true
                · replace H := ite_t c24 H
                  refine W.want 60 rfl (sb c24) ?_
                  refine W.rd (X.move rfl) rfl rfl rfl ?_
                  refine W.want 60 rfl (sb c24) ?_
                  refine W.rd (X.move rfl) rfl rfl rfl ?_
                  refine W.want 60 rfl (sb c24) ?_
                  refine W.rd (X.eqB Try.underlying4 rfl rfl) rfl rfl rfl ?_
                  refine W.rd (X.pickT (sb c24) rfl) rfl rfl rfl ?_
                  refine W.rd (X.assign rfl) rfl rfl rfl ?_
                  refine W.nil ?_
                  refine At.next ?_
                  refine V.keep [(6, Value.bool (((t19) == (false))))] ⟨rfl, trivial⟩ ?_
                  refine V.ret ?_
                  refine At.blockRet ?_
                  refine At.thenRet ?_
                  cases H
                  exact At.ret1 rfl rfl ⟨_, rfl, rfl, HS⟩
                · replace H := ite_f c24 H
                  refine W.pass 60 rfl (sb (b_f c24)) rfl rfl ?_
                  refine W.pass 60 rfl (sb (b_f c24)) rfl rfl ?_
                  refine W.pass 60 rfl (sb (b_f c24)) rfl rfl ?_
                  refine W.rd (X.pickF (sb (b_f c24)) rfl) rfl rfl rfl ?_
                  refine W.rd (X.assign rfl) rfl rfl rfl ?_
                  refine W.nil ?_
                  refine At.next ?_
                  refine V.keep [(6, Value.bool (false))] ⟨rfl, trivial⟩ ?_
                  refine V.ret ?_
                  refine At.blockRet ?_
                  refine At.thenRet ?_
                  cases H
                  exact At.ret1 rfl rfl ⟨_, rfl, rfl, HS⟩
              · replace H := ite_f c23 H
                refine V.condF (sb (decide_eq_false c23)) ?_
                refine V.skip ?_
                refine At.blockEnd ?_
                refine At.next ?_
                refine V.keep [(1, Value.int .i64 (a1)), (10, Value.bool (t17)), (11, Value.bool (t19))] ⟨rfl, rfl, rfl, trivial⟩ ?_
                refine V.seq ?_
                refine V.region ?_
                refine W.rd (X.move rfl) rfl rfl rfl ?_
                refine W.rd (X.move rfl) rfl rfl rfl ?_
                refine W.rd (X.cmp (decide (a1 = 0)) rfl rfl rfl rfl) rfl rfl rfl ?_
                refine W.rd (X.eqB Try.underlying4 rfl rfl) rfl rfl rfl ?_
                refine W.rd (X.move rfl) rfl rfl rfl ?_
                by_cases c25 : ((t17) == (decide (a1 = 0))) = true
                · replace H := ite_t c25 H
                  refine W.want 69 rfl (sb c25) ?_
                  refine W.rd (X.move rfl) rfl rfl rfl ?_
                  refine W.want 69 rfl (sb c25) ?_
                  refine W.rd (X.move rfl) rfl rfl rfl ?_
                  refine W.want 69 rfl (sb c25) ?_
                  refine W.rd (X.cmp (decide (a1 = 0)) rfl rfl rfl rfl) rfl rfl rfl ?_
                  refine W.want 69 rfl (sb c25) ?_
                  refine W.rd (X.eqB Try.underlying4 rfl rfl) rfl rfl rfl ?_
                  refine W.rd (X.pickT (sb c25) rfl) rfl rfl rfl ?_
                  refine W.rd (X.assign rfl) rfl rfl rfl ?_
                  refine W.nil ?_
                  refine At.next ?_
                  refine V.keep [(6, Value.bool (((t19) == (decide (a1 = 0)))))] ⟨rfl, trivial⟩ ?_
                  refine V.ret ?_
                  cases H
                  exact At.ret1 rfl rfl ⟨_, rfl, rfl, HS⟩
                · replace H := ite_f c25 H
                  refine W.pass 69 rfl (sb (b_f c25)) rfl rfl ?_
                  refine W.pass 69 rfl (sb (b_f c25)) rfl rfl ?_
                  refine W.pass 69 rfl (sb (b_f c25)) rfl rfl ?_
                  refine W.pass 69 rfl (sb (b_f c25)) rfl rfl ?_
                  refine W.rd (X.pickF (sb (b_f c25)) rfl) rfl rfl rfl ?_
                  refine W.rd (X.assign rfl) rfl rfl rfl ?_
                  refine W.nil ?_
                  refine At.next ?_
                  refine V.keep [(6, Value.bool (false))] ⟨rfl, trivial⟩ ?_
                  refine V.ret ?_
                  cases H
                  exact At.ret1 rfl rfl ⟨_, rfl, rfl, HS⟩
    · replace H := ite_f c4 H
      refine W.pass 16 rfl (sb (n_f (b_f c4))) rfl rfl ?_
      refine W.pass 16 rfl (sb (n_f (b_f c4))) rfl rfl ?_
      refine W.rd (X.pickT (sb (n_f (b_f c4))) rfl) rfl rfl rfl ?_
      refine W.rd (X.move rfl) rfl rfl rfl ?_
      refine W.pass 20 rfl rfl rfl rfl ?_
      refine W.pass 20 rfl rfl rfl rfl ?_
      refine W.rd (X.pickT rfl rfl) rfl rfl rfl ?_
      refine W.nil ?_
      refine At.next ?_
      refine V.keep [(0, Value.int .i64 (a0)), (1, Value.int .i64 (a1)), (7, Value.bool (t1)), (8, Value.int .i64 (32768)), (23, Value.bool (true))] ⟨rfl, rfl, rfl, rfl, rfl, trivial⟩ ?_
      refine V.condT rfl ?_
      refine V.seq ?_
      refine V.region ?_
      refine W.rd (X.move rfl) rfl rfl rfl ?_
      refine W.rd (X.assign rfl) rfl rfl rfl ?_
      refine W.nil ?_
      refine At.next ?_
      refine V.keep [(6, Value.bool (t1))] ⟨rfl, trivial⟩ ?_
      refine V.ret ?_
      refine At.thenRet ?_
      cases H
      exact At.ret1 rfl rfl ⟨_, rfl, rfl, HS⟩
  · replace H := ite_f c3 H
    refine V.condF (sb (b_f c3)) ?_
    refine V.skip ?_
    refine At.next ?_
    refine V.keep [(0, Value.int .i64 (a0)), (1, Value.int .i64 (a1)), (7, Value.bool (t1)), (8, Value.int .i64 (128))] ⟨rfl, rfl, rfl, rfl, trivial⟩ ?_
    refine V.seq ?_
    refine V.seq ?_
    refine V.region ?_
    refine W.rd (X.move rfl) rfl rfl rfl ?_
    refine W.rd (X.not rfl) rfl rfl rfl ?_
    refine W.rd (X.move rfl) rfl rfl rfl ?_
    by_cases c26 : t1 = true
    · replace H := ite_t c26 H
      refine W.want 16 rfl (sb (n_t c26)) ?_
      refine W.rd (X.move rfl) rfl rfl rfl ?_
      refine W.want 16 rfl (sb (n_t c26)) ?_
      refine W.rd (X.cmp (decide (a0 < 0)) rfl rfl rfl rfl) rfl rfl rfl ?_
      refine W.rd (X.pickF (sb (n_t c26)) rfl) rfl rfl rfl ?_
      refine W.rd (X.move rfl) rfl rfl rfl ?_
      by_cases c27 : a0 < 0
      · replace H := ite_t c27 H
        refine W.pass 20 rfl (sb (decide_eq_true c27)) rfl rfl ?_
        refine W.pass 20 rfl (sb (decide_eq_true c27)) rfl rfl ?_
        refine W.rd (X.pickT (sb (decide_eq_true c27)) rfl) rfl rfl rfl ?_
        refine W.nil ?_
        refine At.next ?_
        refine V.keep [(0, Value.int .i64 (a0)), (1, Value.int .i64 (a1)), (7, Value.bool (t1)), (8, Value.int .i64 (128)), (23, Value.bool (true))] ⟨rfl, rfl, rfl, rfl, rfl, trivial⟩ ?_
        refine V.condT rfl ?_
        refine V.seq ?_
        refine V.region ?_
        refine W.rd (X.move rfl) rfl rfl rfl ?_
        refine W.rd (X.assign rfl) rfl rfl rfl ?_
        refine W.nil ?_
        refine At.next ?_
        refine V.keep [(6, Value.bool (t1))] ⟨rfl, trivial⟩ ?_
        refine V.ret ?_
        refine At.thenRet ?_
        cases H
        exact At.ret1 rfl rfl ⟨_, rfl, rfl, HS⟩
      · replace H := ite_f c27 H
        refine W.want 20 rfl (sb (decide_eq_false c27)) ?_
        refine W.rd (X.move rfl) rfl rfl rfl ?_
        refine W.want 20 rfl (sb (decide_eq_false c27)) ?_
        refine W.rd (X.cmp (decide (a0 > 7)) rfl rfl rfl rfl) rfl rfl rfl ?_
        refine W.rd (X.pickF (sb (decide_eq_false c27)) rfl) rfl rfl rfl ?_
        refine W.nil ?_
        refine At.next ?_
        refine V.keep [(0, Value.int .i64 (a0)), (1, Value.int .i64 (a1)), (7, Value.bool (t1)), (8, Value.int .i64 (128)), (23, Value.bool (decide (a0 > 7)))] ⟨rfl, rfl, rfl, rfl, rfl, trivial⟩ ?_
        by_cases c28 : a0 > 7
        · replace H := ite_t c28 H
          refine V.condT (sb (decide_eq_true c28)) ?_
          refine V.seq ?_
          refine V.region ?_
          refine W.rd (X.move rfl) rfl rfl rfl ?_
          refine W.rd (X.assign rfl) rfl rfl rfl ?_
          refine W.nil ?_
          refine At.next ?_
          refine V.keep [(6, Value.bool (t1))] ⟨rfl, trivial⟩ ?_
          refine V.ret ?_
          refine At.thenRet ?_
          cases H
          exact At.ret1 rfl rfl ⟨_, rfl, rfl, HS⟩
        · replace H := ite_f c28 H
          refine V.condF (sb (decide_eq_false c28)) ?_
          refine V.skip ?_
          refine At.next ?_
          refine V.keep [(0, Value.int .i64 (a0)), (1, Value.int .i64 (a1)), (8, Value.int .i64 (128))] ⟨rfl, rfl, rfl, trivial⟩ ?_
          refine V.seq ?_
          refine V.region ?_
          refine W.rd (X.move rfl) rfl rfl rfl ?_
          refine W.rd (X.cmp (decide (a1 ≥ 0)) rfl rfl rfl rfl) rfl rfl rfl ?_
          refine W.rd (X.move rfl) rfl rfl rfl ?_
          by_cases c29 : a1 ≥ 0
          · replace H := ite_t c29 H
            refine W.want 27 rfl (sb (decide_eq_true c29)) ?_
            refine W.rd (X.move rfl) rfl rfl rfl ?_
            refine W.want 27 rfl (sb (decide_eq_true c29)) ?_
            refine W.rd (X.move rfl) rfl rfl rfl ?_
            refine W.want 27 rfl (sb (decide_eq_true c29)) ?_
            refine W.rd (X.cmp (decide (a1 < 128)) rfl rfl rfl rfl) rfl rfl rfl ?_
            refine W.rd (X.pickT (sb (decide_eq_true c29)) rfl) rfl rfl rfl ?_
            refine W.rd (X.assign rfl) rfl rfl rfl ?_
            refine W.nil ?_
            refine At.next ?_
            refine V.keep [(0, Value.int .i64 (a0)), (1, Value.int .i64 (a1)), (8, Value.int .i64 (128)), (9, Value.bool (decide (a1 < 128)))] ⟨rfl, rfl, rfl, rfl, trivial⟩ ?_
            refine V.seq ?_
            refine V.region ?_
            refine W.rd (X.move rfl) rfl rfl rfl ?_
            refine W.rd (X.move rfl) rfl rfl rfl ?_
            refine W.rd (X.build (vs := #[(0, Value.int .i64 (a0)), (1, Value.int .i64 (a1))]) (v := Value.agg #[Value.int .i64 (a0), Value.int .i64 (a1), Value.int .i64 (0), Value.bool (false)]) (fun a ha => by simp only [List.map_toArray, List.map_cons, List.map_nil]; rw [ha.ev (x := .tmp 32) (v := Value.int .i64 (a0)) rfl]; rw [ha.ev (x := .tmp 33) (v := Value.int .i64 (a1)) rfl]; try rfl) (fun _ => by kernel_rfl)) rfl rfl rfl ?_
            refine W.rd (X.move rfl) rfl rfl rfl ?_
            obtain ⟨t30, A31, H⟩ := bind_s H
            refine W.ev (Y.call Try.func11 (by kernel_rfl) rfl (vs := [Value.agg #[Value.int .i64 (a0), Value.int .i64 (a1), Value.int .i64 (0), Value.bool (false)], Value.int .i64 (128)]) rfl (control_Right.calls ({ Kind := a0, Ns := a1, Nr := 0, Poll := false } : api_Ctl) 128 _ w0 _  t30  A31 (Sep.St.tailJoin (m := []) (r := [R]) HS))) rfl rfl rfl ?_
            rintro _ w ⟨rfl, HS⟩
            replace HS := Sep.St.tailOpen (m := []) (r := [R]) HS
            have HS : Sep.St [R] w0 w := HS
            refine W.rd (X.assign rfl) rfl rfl rfl ?_
            refine W.nil ?_
            refine At.next ?_
            refine V.keep [(0, Value.int .i64 (a0)), (1, Value.int .i64 (a1)), (8, Value.int .i64 (128)), (9, Value.bool (decide (a1 < 128))), (10, Value.bool (t30))] ⟨rfl, rfl, rfl, rfl, rfl, trivial⟩ ?_
            refine V.seq ?_
            refine V.region ?_
            refine W.rd (X.move rfl) rfl rfl rfl ?_
            refine W.rd (X.move rfl) rfl rfl rfl ?_
            refine W.rd (X.build (vs := #[(0, Value.int .i64 (a0)), (2, Value.int .i64 (a1))]) (v := Value.agg #[Value.int .i64 (a0), Value.int .i64 (0), Value.int .i64 (a1), Value.bool (false)]) (fun a ha => by simp only [List.map_toArray, List.map_cons, List.map_nil]; rw [ha.ev (x := .tmp 37) (v := Value.int .i64 (a0)) rfl]; rw [ha.ev (x := .tmp 38) (v := Value.int .i64 (a1)) rfl]; try rfl) (fun _ => by kernel_rfl)) rfl rfl rfl ?_
            refine W.rd (X.move rfl) rfl rfl rfl ?_
            obtain ⟨t32, A33, H⟩ := bind_s H
            refine W.ev (Y.call Try.func11 (by kernel_rfl) rfl (vs := [Value.agg #[Value.int .i64 (a0), Value.int .i64 (0), Value.int .i64 (a1), Value.bool (false)], Value.int .i64 (128)]) rfl (control_Right.calls ({ Kind := a0, Ns := 0, Nr := a1, Poll := false } : api_Ctl) 128 _ w0 _  t32  A33 (Sep.St.tailJoin (m := []) (r := [R]) HS))) rfl rfl rfl ?_
            rintro _ w ⟨rfl, HS⟩
            replace HS := Sep.St.tailOpen (m := []) (r := [R]) HS
            have HS : Sep.St [R] w0 w := HS
            refine W.rd (X.assign rfl) rfl rfl rfl ?_
            refine W.nil ?_
            refine At.next ?_
            refine V.keep [(0, Value.int .i64 (a0)), (1, Value.int .i64 (a1)), (9, Value.bool (decide (a1 < 128))), (10, Value.bool (t30)), (11, Value.bool (t32))] ⟨rfl, rfl, rfl, rfl, rfl, trivial⟩ ?_
            refine V.seq ?_
            refine V.block ?_
            refine V.seq ?_
            refine V.region ?_
            refine W.rd (X.move rfl) rfl rfl rfl ?_
            refine W.rd (X.cmp (decide (a0 = 0)) rfl rfl rfl rfl) rfl rfl rfl ?_
            refine W.rd (X.assign rfl) rfl rfl rfl ?_
            refine W.nil ?_
            refine At.next ?_
            refine V.keep [(0, Value.int .i64 (a0)), (1, Value.int .i64 (a1)), (9, Value.bool (decide (a1 < 128))), (10, Value.bool (t30)), (11, Value.bool (t32)), (42, Value.bool (decide (a0 = 0)))] ⟨rfl, rfl, rfl, rfl, rfl, rfl, trivial⟩ ?_
            by_cases c34 : a0 = 0
            · replace H := ite_t c34 H
              refine V.condT (sb (decide_eq_true c34)) ?_
              refine V.seq ?_
              refine V.region ?_
              refine W.rd (X.move rfl) rfl rfl rfl ?_
              refine W.rd (X.move rfl) rfl rfl rfl ?_
              refine W.rd (X.eqB Try.underlying4 rfl rfl) rfl rfl rfl ?_
              refine W.rd (X.move rfl) rfl rfl rfl ?_
              by_cases c35 : ((t30) == (decide (a1 < 128))) = true
              · replace H := ite_t c35 H
                refine W.want 48 rfl (sb c35) ?_
                refine W.rd (X.move rfl) rfl rfl rfl ?_
                refine W.want 48 rfl (sb c35) ?_
                refine W.rd (X.move rfl) rfl rfl rfl ?_
                refine W.want 48 rfl (sb c35) ?_
                refine W.rd (X.eqB Try.underlying4 rfl rfl) rfl rfl rfl ?_
                refine W.rd (X.pickT (sb c35) rfl) rfl rfl rfl ?_
                refine W.rd (X.assign rfl) rfl rfl rfl ?_
                refine W.nil ?_
                refine At.next ?_
                refine V.keep [(6, Value.bool (((t32) == (decide (a1 < 128)))))] ⟨rfl, trivial⟩ ?_
                refine V.ret ?_
                refine At.blockRet ?_
                refine At.thenRet ?_
                cases H
                exact At.ret1 rfl rfl ⟨_, rfl, rfl, HS⟩
              · replace H := ite_f c35 H
                refine W.pass 48 rfl (sb (b_f c35)) rfl rfl ?_
                refine W.pass 48 rfl (sb (b_f c35)) rfl rfl ?_
                refine W.pass 48 rfl (sb (b_f c35)) rfl rfl ?_
                refine W.rd (X.pickF (sb (b_f c35)) rfl) rfl rfl rfl ?_
                refine W.rd (X.assign rfl) rfl rfl rfl ?_
                refine W.nil ?_
                refine At.next ?_
                refine V.keep [(6, Value.bool (false))] ⟨rfl, trivial⟩ ?_
                refine V.ret ?_
                refine At.blockRet ?_
                refine At.thenRet ?_
                cases H
                exact At.ret1 rfl rfl ⟨_, rfl, rfl, HS⟩
            · replace H := ite_f c34 H
              refine V.condF (sb (decide_eq_false c34)) ?_
              refine V.seq ?_
              refine V.region ?_
              refine W.rd (X.move rfl) rfl rfl rfl ?_
              refine W.rd (X.cmp (decide (a0 ≤ 2)) rfl rfl rfl rfl) rfl rfl rfl ?_
              refine W.rd (X.assign rfl) rfl rfl rfl ?_
              refine W.nil ?_
              refine At.next ?_
              refine V.keep [(1, Value.int .i64 (a1)), (9, Value.bool (decide (a1 < 128))), (10, Value.bool (t30)), (11, Value.bool (t32)), (53, Value.bool (decide (a0 ≤ 2)))] ⟨rfl, rfl, rfl, rfl, rfl, trivial⟩ ?_
              by_cases c36 : a0 ≤ 2
              · replace H := ite_t c36 H
                refine V.condT (sb (decide_eq_true c36)) ?_
                refine V.seq ?_
                refine V.region ?_
                refine W.rd (X.move rfl) rfl rfl rfl ?_
                refine W.rd (X.move rfl) rfl rfl rfl ?_
                refine W.rd (X.cmp (decide (a1 = 0)) rfl rfl rfl rfl) rfl rfl rfl ?_
                refine W.rd (X.eqB Try.underlying4 rfl rfl) rfl rfl rfl ?_
                refine W.rd (X.move rfl) rfl rfl rfl ?_
                by_cases c37 : ((t30) == (decide (a1 = 0))) = true
                · replace H := ite_t c37 H
                  refine W.want 60 rfl (sb c37) ?_
                  refine W.rd (X.move rfl) rfl rfl rfl ?_
                  refine W.want 60 rfl (sb c37) ?_
                  refine W.rd (X.move rfl) rfl rfl rfl ?_
                  refine W.want 60 rfl (sb c37) ?_
                  refine W.rd (X.eqB Try.underlying4 rfl rfl) rfl rfl rfl ?_
                  refine W.rd (X.pickT (sb c37) rfl) rfl rfl rfl ?_
                  refine W.rd (X.assign rfl) rfl rfl rfl ?_
                  refine W.nil ?_
                  refine At.next ?_
                  refine V.keep [(6, Value.bool (((t32) == (decide (a1 < 128)))))] ⟨rfl, trivial⟩ ?_
                  refine V.ret ?_
                  refine At.blockRet ?_
                  refine At.thenRet ?_
                  cases H
                  exact At.ret1 rfl rfl ⟨_, rfl, rfl, HS⟩
                · replace H := ite_f c37 H
                  refine W.pass 60 rfl (sb (b_f c37)) rfl rfl ?_
                  refine W.pass 60 rfl (sb (b_f c37)) rfl rfl ?_
                  refine W.pass 60 rfl (sb (b_f c37)) rfl rfl ?_
                  refine W.rd (X.pickF (sb (b_f c37)) rfl) rfl rfl rfl ?_
                  refine W.rd (X.assign rfl) rfl rfl rfl ?_
                  refine W.nil ?_
                  refine At.next ?_
                  refine V.keep [(6, Value.bool (false))] ⟨rfl, trivial⟩ ?_
                  refine V.ret ?_
                  refine At.blockRet ?_
                  refine At.thenRet ?_
                  cases H
                  exact At.ret1 rfl rfl ⟨_, rfl, rfl, HS⟩
              · replace H := ite_f c36 H
                refine V.condF (sb (decide_eq_false c36)) ?_
                refine V.skip ?_
                refine At.blockEnd ?_
                refine At.next ?_
                refine V.keep [(1, Value.int .i64 (a1)), (10, Value.bool (t30)), (11, Value.bool (t32))] ⟨rfl, rfl, rfl, trivial⟩ ?_
                refine V.seq ?_
                refine V.region ?_
                refine W.rd (X.move rfl) rfl rfl rfl ?_
                refine W.rd (X.move rfl) rfl rfl rfl ?_
                refine W.rd (X.cmp (decide (a1 = 0)) rfl rfl rfl rfl) rfl rfl rfl ?_
                refine W.rd (X.eqB Try.underlying4 rfl rfl) rfl rfl rfl ?_
                refine W.rd (X.move rfl) rfl rfl rfl ?_
                by_cases c38 : ((t30) == (decide (a1 = 0))) = true
                · replace H := ite_t c38 H
                  refine W.want 69 rfl (sb c38) ?_
                  refine W.rd (X.move rfl) rfl rfl rfl ?_
                  refine W.want 69 rfl (sb c38) ?_
                  refine W.rd (X.move rfl) rfl rfl rfl ?_
                  refine W.want 69 rfl (sb c38) ?_
                  refine W.rd (X.cmp (decide (a1 = 0)) rfl rfl rfl rfl) rfl rfl rfl ?_
                  refine W.want 69 rfl (sb c38) ?_
                  refine W.rd (X.eqB Try.underlying4 rfl rfl) rfl rfl rfl ?_
                  refine W.rd (X.pickT (sb c38) rfl) rfl rfl rfl ?_
                  refine W.rd (X.assign rfl) rfl rfl rfl ?_
                  refine W.nil ?_
                  refine At.next ?_
                  refine V.keep [(6, Value.bool (((t32) == (decide (a1 = 0)))))] ⟨rfl, trivial⟩ ?_
                  refine V.ret ?_
                  cases H
                  exact At.ret1 rfl rfl ⟨_, rfl, rfl, HS⟩
                · replace H := ite_f c38 H
                  refine W.pass 69 rfl (sb (b_f c38)) rfl rfl ?_
                  refine W.pass 69 rfl (sb (b_f c38)) rfl rfl ?_
                  refine W.pass 69 rfl (sb (b_f c38)) rfl rfl ?_
                  refine W.pass 69 rfl (sb (b_f c38)) rfl rfl ?_
                  refine W.rd (X.pickF (sb (b_f c38)) rfl) rfl rfl rfl ?_
                  refine W.rd (X.assign rfl) rfl rfl rfl ?_
                  refine W.nil ?_
                  refine At.next ?_
                  refine V.keep [(6, Value.bool (false))] ⟨rfl, trivial⟩ ?_
                  refine V.ret ?_
                  cases H
                  exact At.ret1 rfl rfl ⟨_, rfl, rfl, HS⟩
          · replace H := ite_f c29 H
            refine W.pass 27 rfl (sb (decide_eq_false c29)) rfl rfl ?_
            refine W.pass 27 rfl (sb (decide_eq_false c29)) rfl rfl ?_
            refine W.pass 27 rfl (sb (decide_eq_false c29)) rfl rfl ?_
            refine W.rd (X.pickF (sb (decide_eq_false c29)) rfl) rfl rfl rfl ?_
            refine W.rd (X.assign rfl) rfl rfl rfl ?_
            refine W.nil ?_
            refine At.next ?_
            refine V.keep [(0, Value.int .i64 (a0)), (1, Value.int .i64 (a1)), (8, Value.int .i64 (128)), (9, Value.bool (false))] ⟨rfl, rfl, rfl, rfl, trivial⟩ ?_
            refine V.seq ?_
            refine V.region ?_
            refine W.rd (X.move rfl) rfl rfl rfl ?_
            refine W.rd (X.move rfl) rfl rfl rfl ?_
            refine W.rd (X.build (vs := #[(0, Value.int .i64 (a0)), (1, Value.int .i64 (a1))]) (v := Value.agg #[Value.int .i64 (a0), Value.int .i64 (a1), Value.int .i64 (0), Value.bool (false)]) (fun a ha => by simp only [List.map_toArray, List.map_cons, List.map_nil]; rw [ha.ev (x := .tmp 32) (v := Value.int .i64 (a0)) rfl]; rw [ha.ev (x := .tmp 33) (v := Value.int .i64 (a1)) rfl]; try rfl) (fun _ => by kernel_rfl)) rfl rfl rfl ?_
            refine W.rd (X.move rfl) rfl rfl rfl ?_
            obtain ⟨t39, A40, H⟩ := bind_s H
            refine W.ev (Y.call Try.func11 (by kernel_rfl) rfl (vs := [Value.agg #[Value.int .i64 (a0), Value.int .i64 (a1), Value.int .i64 (0), Value.bool (false)], Value.int .i64 (128)]) rfl (control_Right.calls ({ Kind := a0, Ns := a1, Nr := 0, Poll := false } : api_Ctl) 128 _ w0 _  t39  A40 (Sep.St.tailJoin (m := []) (r := [R]) HS))) rfl rfl rfl ?_
            rintro _ w ⟨rfl, HS⟩
            replace HS := Sep.St.tailOpen (m := []) (r := [R]) HS
            have HS : Sep.St [R] w0 w := HS
            refine W.rd (X.assign rfl) rfl rfl rfl ?_
            refine W.nil ?_
            refine At.next ?_
            refine V.keep [(0, Value.int .i64 (a0)), (1, Value.int .i64 (a1)), (8, Value.int .i64 (128)), (9, Value.bool (false)), (10, Value.bool (t39))] ⟨rfl, rfl, rfl, rfl, rfl, trivial⟩ ?_
            refine V.seq ?_
            refine V.region ?_
            refine W.rd (X.move rfl) rfl rfl rfl ?_
            refine W.rd (X.move rfl) rfl rfl rfl ?_
            refine W.rd (X.build (vs := #[(0, Value.int .i64 (a0)), (2, Value.int .i64 (a1))]) (v := Value.agg #[Value.int .i64 (a0), Value.int .i64 (0), Value.int .i64 (a1), Value.bool (false)]) (fun a ha => by simp only [List.map_toArray, List.map_cons, List.map_nil]; rw [ha.ev (x := .tmp 37) (v := Value.int .i64 (a0)) rfl]; rw [ha.ev (x := .tmp 38) (v := Value.int .i64 (a1)) rfl]; try rfl) (fun _ => by kernel_rfl)) rfl rfl rfl ?_
            refine W.rd (X.move rfl) rfl rfl rfl ?_
            obtain ⟨t41, A42, H⟩ := bind_s H
            refine W.ev (Y.call Try.func11 (by kernel_rfl) rfl (vs := [Value.agg #[Value.int .i64 (a0), Value.int .i64 (0), Value.int .i64 (a1), Value.bool (false)], Value.int .i64 (128)]) rfl (control_Right.calls ({ Kind := a0, Ns := 0, Nr := a1, Poll := false } : api_Ctl) 128 _ w0 _  t41  A42 (Sep.St.tailJoin (m := []) (r := [R]) HS))) rfl rfl rfl ?_
            rintro _ w ⟨rfl, HS⟩
            replace HS := Sep.St.tailOpen (m := []) (r := [R]) HS
            have HS : Sep.St [R] w0 w := HS
            refine W.rd (X.assign rfl) rfl rfl rfl ?_
            refine W.nil ?_
            refine At.next ?_
            refine V.keep [(0, Value.int .i64 (a0)), (1, Value.int .i64 (a1)), (9, Value.bool (false)), (10, Value.bool (t39)), (11, Value.bool (t41))] ⟨rfl, rfl, rfl, rfl, rfl, trivial⟩ ?_
            refine V.seq ?_
            refine V.block ?_
            refine V.seq ?_
            refine V.region ?_
            refine W.rd (X.move rfl) rfl rfl rfl ?_
            refine W.rd (X.cmp (decide (a0 = 0)) rfl rfl rfl rfl) rfl rfl rfl ?_
            refine W.rd (X.assign rfl) rfl rfl rfl ?_
            refine W.nil ?_
            refine At.next ?_
            refine V.keep [(0, Value.int .i64 (a0)), (1, Value.int .i64 (a1)), (9, Value.bool (false)), (10, Value.bool (t39)), (11, Value.bool (t41)), (42, Value.bool (decide (a0 = 0)))] ⟨rfl, rfl, rfl, rfl, rfl, rfl, trivial⟩ ?_
            by_cases c43 : a0 = 0
            · replace H := ite_t c43 H
              refine V.condT (sb (decide_eq_true c43)) ?_
              refine V.seq ?_
              refine V.region ?_
              refine W.rd (X.move rfl) rfl rfl rfl ?_
              refine W.rd (X.move rfl) rfl rfl rfl ?_
              refine W.rd (X.eqB Try.underlying4 rfl rfl) rfl rfl rfl ?_
              refine W.rd (X.move rfl) rfl rfl rfl ?_
              by_cases c44 : ((t39) == (false)) = true
              · replace H := ite_t c44 H
                refine W.want 48 rfl (sb c44) ?_
                refine W.rd (X.move rfl) rfl rfl rfl ?_
                refine W.want 48 rfl (sb c44) ?_
                refine W.rd (X.move rfl) rfl rfl rfl ?_
                refine W.want 48 rfl (sb c44) ?_
                refine W.rd (X.eqB Try.underlying4 rfl rfl) rfl rfl rfl ?_
                refine W.rd (X.pickT (sb c44) rfl) rfl rfl rfl ?_
                refine W.rd (X.assign rfl) rfl rfl rfl ?_
                refine W.nil ?_
                refine At.next ?_
                refine V.keep [(6, Value.bool (((t41) == (false))))] ⟨rfl, trivial⟩ ?_
                refine V.ret ?_
                refine At.blockRet ?_
                refine At.thenRet ?_
                cases H
                exact At.ret1 rfl rfl ⟨_, rfl, rfl, HS⟩
              · replace H := ite_f c44 H
                refine W.pass 48 rfl (sb (b_f c44)) rfl rfl ?_
                refine W.pass 48 rfl (sb (b_f c44)) rfl rfl ?_
                refine W.pass 48 rfl (sb (b_f c44)) rfl rfl ?_
                refine W.rd (X.pickF (sb (b_f c44)) rfl) rfl rfl rfl ?_
                refine W.rd (X.assign rfl) rfl rfl rfl ?_
                refine W.nil ?_
                refine At.next ?_
                refine V.keep [(6, Value.bool (false))] ⟨rfl, trivial⟩ ?_
                refine V.ret ?_
                refine At.blockRet ?_
                refine At.thenRet ?_
                cases H
                exact At.ret1 rfl rfl ⟨_, rfl, rfl, HS⟩
            · replace H := ite_f c43 H
              refine V.condF (sb (decide_eq_false c43)) ?_
              refine V.seq ?_
              refine V.region ?_
              refine W.rd (X.move rfl) rfl rfl rfl ?_
              refine W.rd (X.cmp (decide (a0 ≤ 2)) rfl rfl rfl rfl) rfl rfl rfl ?_
              refine W.rd (X.assign rfl) rfl rfl rfl ?_
              refine W.nil ?_
              refine At.next ?_
              refine V.keep [(1, Value.int .i64 (a1)), (9, Value.bool (false)), (10, Value.bool (t39)), (11, Value.bool (t41)), (53, Value.bool (decide (a0 ≤ 2)))] ⟨rfl, rfl, rfl, rfl, rfl, trivial⟩ ?_
              by_cases c45 : a0 ≤ 2
              · replace H := ite_t c45 H
                refine V.condT (sb (decide_eq_true c45)) ?_
                refine V.seq ?_
                refine V.region ?_
                refine W.rd (X.move rfl) rfl rfl rfl ?_
                refine W.rd (X.move rfl) rfl rfl rfl ?_
                refine W.rd (X.cmp (decide (a1 = 0)) rfl rfl rfl rfl) rfl rfl rfl ?_
                refine W.rd (X.eqB Try.underlying4 rfl rfl) rfl rfl rfl ?_
                refine W.rd (X.move rfl) rfl rfl rfl ?_
                by_cases c46 : ((t39) == (decide (a1 = 0))) = true
                · replace H := ite_t c46 H
                  refine W.want 60 rfl (sb c46) ?_
                  refine W.rd (X.move rfl) rfl rfl rfl ?_
                  refine W.want 60 rfl (sb c46) ?_
                  refine W.rd (X.move rfl) rfl rfl rfl ?_
                  refine W.want 60 rfl (sb c46) ?_
                  refine W.rd (X.eqB Try.underlying4 rfl rfl) rfl rfl rfl ?_
                  refine W.rd (X.pickT (sb c46) rfl) rfl rfl rfl ?_
                  refine W.rd (X.assign rfl) rfl rfl rfl ?_
                  refine W.nil ?_
                  refine At.next ?_
                  refine V.keep [(6, Value.bool (((t41) == (false))))] ⟨rfl, trivial⟩ ?_
                  refine V.ret ?_
                  refine At.blockRet ?_
                  refine At.thenRet ?_
                  cases H
                  exact At.ret1 rfl rfl ⟨_, rfl, rfl, HS⟩
                · replace H := ite_f c46 H
                  refine W.pass 60 rfl (sb (b_f c46)) rfl rfl ?_
                  refine W.pass 60 rfl (sb (b_f c46)) rfl rfl ?_
                  refine W.pass 60 rfl (sb (b_f c46)) rfl rfl ?_
                  refine W.rd (X.pickF (sb (b_f c46)) rfl) rfl rfl rfl ?_
                  refine W.rd (X.assign rfl) rfl rfl rfl ?_
                  refine W.nil ?_
                  refine At.next ?_
                  refine V.keep [(6, Value.bool (false))] ⟨rfl, trivial⟩ ?_
                  refine V.ret ?_
                  refine At.blockRet ?_
                  refine At.thenRet ?_
                  cases H
                  exact At.ret1 rfl rfl ⟨_, rfl, rfl, HS⟩
              · replace H := ite_f c45 H
                refine V.condF (sb (decide_eq_false c45)) ?_
                refine V.skip ?_
                refine At.blockEnd ?_
                refine At.next ?_
                refine V.keep [(1, Value.int .i64 (a1)), (10, Value.bool (t39)), (11, Value.bool (t41))] ⟨rfl, rfl, rfl, trivial⟩ ?_
                refine V.seq ?_
                refine V.region ?_
                refine W.rd (X.move rfl) rfl rfl rfl ?_
                refine W.rd (X.move rfl) rfl rfl rfl ?_
                refine W.rd (X.cmp (decide (a1 = 0)) rfl rfl rfl rfl) rfl rfl rfl ?_
                refine W.rd (X.eqB Try.underlying4 rfl rfl) rfl rfl rfl ?_
                refine W.rd (X.move rfl) rfl rfl rfl ?_
                by_cases c47 : ((t39) == (decide (a1 = 0))) = true
                · replace H := ite_t c47 H
                  refine W.want 69 rfl (sb c47) ?_
                  refine W.rd (X.move rfl) rfl rfl rfl ?_
                  refine W.want 69 rfl (sb c47) ?_
                  refine W.rd (X.move rfl) rfl rfl rfl ?_
                  refine W.want 69 rfl (sb c47) ?_
                  refine W.rd (X.cmp (decide (a1 = 0)) rfl rfl rfl rfl) rfl rfl rfl ?_
                  refine W.want 69 rfl (sb c47) ?_
                  refine W.rd (X.eqB Try.underlying4 rfl rfl) rfl rfl rfl ?_
                  refine W.rd (X.pickT (sb c47) rfl) rfl rfl rfl ?_
                  refine W.rd (X.assign rfl) rfl rfl rfl ?_
                  refine W.nil ?_
                  refine At.next ?_
                  refine V.keep [(6, Value.bool (((t41) == (decide (a1 = 0)))))] ⟨rfl, trivial⟩ ?_
                  refine V.ret ?_
                  cases H
                  exact At.ret1 rfl rfl ⟨_, rfl, rfl, HS⟩
                · replace H := ite_f c47 H
                  refine W.pass 69 rfl (sb (b_f c47)) rfl rfl ?_
                  refine W.pass 69 rfl (sb (b_f c47)) rfl rfl ?_
                  refine W.pass 69 rfl (sb (b_f c47)) rfl rfl ?_
                  refine W.pass 69 rfl (sb (b_f c47)) rfl rfl ?_
                  refine W.rd (X.pickF (sb (b_f c47)) rfl) rfl rfl rfl ?_
                  refine W.rd (X.assign rfl) rfl rfl rfl ?_
                  refine W.nil ?_
                  refine At.next ?_
                  refine V.keep [(6, Value.bool (false))] ⟨rfl, trivial⟩ ?_
                  refine V.ret ?_
                  cases H
                  exact At.ret1 rfl rfl ⟨_, rfl, rfl, HS⟩
    · replace H := ite_f c26 H
      refine W.pass 16 rfl (sb (n_f (b_f c26))) rfl rfl ?_
      refine W.pass 16 rfl (sb (n_f (b_f c26))) rfl rfl ?_
      refine W.rd (X.pickT (sb (n_f (b_f c26))) rfl) rfl rfl rfl ?_
      refine W.rd (X.move rfl) rfl rfl rfl ?_
      refine W.pass 20 rfl rfl rfl rfl ?_
      refine W.pass 20 rfl rfl rfl rfl ?_
      refine W.rd (X.pickT rfl rfl) rfl rfl rfl ?_
      refine W.nil ?_
      refine At.next ?_
      refine V.keep [(0, Value.int .i64 (a0)), (1, Value.int .i64 (a1)), (7, Value.bool (t1)), (8, Value.int .i64 (128)), (23, Value.bool (true))] ⟨rfl, rfl, rfl, rfl, rfl, trivial⟩ ?_
      refine V.condT rfl ?_
      refine V.seq ?_
      refine V.region ?_
      refine W.rd (X.move rfl) rfl rfl rfl ?_
      refine W.rd (X.assign rfl) rfl rfl rfl ?_
      refine W.nil ?_
      refine At.next ?_
      refine V.keep [(6, Value.bool (t1))] ⟨rfl, trivial⟩ ?_
      refine V.ret ?_
      refine At.thenRet ?_
      cases H
      exact At.ret1 rfl rfl ⟨_, rfl, rfl, HS⟩
def signalmanlaw12_ControlLimits.Pure : Prop := ∀ (a0 : Int) (a1 : Int) (a2 : Bool), (Lit.int .i64 a0).wf = true → (Lit.int .i64 a1).wf = true → signalmanlaw12_ControlLimits.f a0 a1 a2 = some true
end Go.Proofs.Ytmodmkbjbndfpaa

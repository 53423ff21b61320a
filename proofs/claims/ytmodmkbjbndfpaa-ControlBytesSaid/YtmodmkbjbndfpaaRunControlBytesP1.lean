/- ControlBytes: the functions that its law reaches, as plain functions, and that the machine's calls come to what these say. Conditions: those that stand at each. -/
import Derived.Test.YtmodmkbjbndfpaaProg
import Derived.Test.YtmodmkbjbndfpaaMore
set_option linter.all false
namespace Go.Proofs.Ytmodmkbjbndfpaa
open Go.RowKit Go.Proofs.Ytmodmkbjbndfpaa.Sep Go.Proofs.Ytmodmkbjbndfpaa.Walk
theorem inf3 : (Try.prog.info? 3).map (·.size) = some 1 := by kernel_rfl
theorem inf4 : (Try.prog.info? 4).map (·.size) = some 1 := by kernel_rfl
theorem inf5 : (Try.prog.info? 5).map (·.size) = some 1 := by kernel_rfl
theorem inf23 : (Try.prog.info? 23).map (·.size) = some 4 := by kernel_rfl
theorem fo23_0 : fieldOff Try.prog 23 0 = some 0 := by kernel_rfl
theorem fo23_1 : fieldOff Try.prog 23 1 = some 1 := by kernel_rfl
theorem fo23_2 : fieldOff Try.prog 23 2 = some 2 := by kernel_rfl
theorem fo23_3 : fieldOff Try.prog 23 3 = some 3 := by kernel_rfl
theorem ap5 : (Try.prog.info? 5).map (fun i => (i.zero, i.size, i.bytes)) = some (some (.int .u8 0), 1, 1) := by kernel_rfl
theorem ze23 : (Try.prog.info? 23).bind (·.zero) = some (Value.agg (#[Value.int .i64 (0), Value.int .i64 (0), Value.int .i64 (0), Value.bool (false)])) := by kernel_rfl
theorem mo : Try.prog.follows .mixedOrders = true := by kernel_rfl

/-! ### signalman/control.modulus: function 19 -/
def control_modulus.f (a0 : Int) : Option (Bool) := (if a0 = 128 then some (true) else some (decide (a0 = 32768)))
set_option maxRecDepth 100000 in
set_option maxHeartbeats 4000000 in
theorem control_modulus.calls (a0 : Int) (R : As) (w0 w : World)  (r : Bool)  (H : control_modulus.f a0 = some r) (HS : Sep.St [R] w0 w) : Calls Try.prog 19 #[Value.int .i64 (a0)] w (Ret fun u w => u = Value.bool (r) ∧ Sep.St [R] w0 w) := by
  unfold control_modulus.f at H
  refine calls_enter Try.func19 rfl rfl ?_
  have H : _ = some r := H
  refine V.seq ?_
  refine V.region ?_
  refine W.rd (X.assign rfl) rfl rfl rfl ?_
  refine W.nil ?_
  refine At.next ?_
  refine V.keep [(0, Value.int .i64 (a0))] ⟨rfl, trivial⟩ ?_
  refine V.seq ?_
  refine V.region ?_
  refine W.rd (X.move rfl) rfl rfl rfl ?_
  refine W.rd (X.cmp (decide (a0 = 128)) rfl rfl rfl rfl) rfl rfl rfl ?_
  refine W.rd (X.move rfl) rfl rfl rfl ?_
  by_cases c1 : a0 = 128
  · replace H := ite_t c1 H
    refine W.pass 5 rfl (sb (decide_eq_true c1)) rfl rfl ?_
    refine W.pass 5 rfl (sb (decide_eq_true c1)) rfl rfl ?_
    refine W.rd (X.pickT (sb (decide_eq_true c1)) rfl) rfl rfl rfl ?_
    refine W.rd (X.assign rfl) rfl rfl rfl ?_
    refine W.nil ?_
    refine At.next ?_
    refine V.keep [(2, Value.bool (true))] ⟨rfl, trivial⟩ ?_
    refine V.ret ?_
    cases H
    exact At.ret1 rfl rfl ⟨_, rfl, rfl, HS⟩
  · replace H := ite_f c1 H
    refine W.want 5 rfl (sb (decide_eq_false c1)) ?_
    refine W.rd (X.move rfl) rfl rfl rfl ?_
    refine W.want 5 rfl (sb (decide_eq_false c1)) ?_
    refine W.rd (X.cmp (decide (a0 = 32768)) rfl rfl rfl rfl) rfl rfl rfl ?_
    refine W.rd (X.pickF (sb (decide_eq_false c1)) rfl) rfl rfl rfl ?_
    refine W.rd (X.assign rfl) rfl rfl rfl ?_
    refine W.nil ?_
    refine At.next ?_
    refine V.keep [(2, Value.bool (decide (a0 = 32768)))] ⟨rfl, trivial⟩ ?_
    refine V.ret ?_
    cases H
    exact At.ret1 rfl rfl ⟨_, rfl, rfl, HS⟩

/-! ### signalman/control.of: function 20 -/
def control_of.f (a0 : Int) (a1 : Int) : Option (Bool) := (if a0 ≥ 0 then some (decide (a0 < a1)) else some (false))
set_option maxRecDepth 100000 in
set_option maxHeartbeats 4000000 in
theorem control_of.calls (a0 : Int) (a1 : Int) (R : As) (w0 w : World)  (r : Bool)  (H : control_of.f a0 a1 = some r) (HS : Sep.St [R] w0 w) : Calls Try.prog 20 #[Value.int .i64 (a0), Value.int .i64 (a1)] w (Ret fun u w => u = Value.bool (r) ∧ Sep.St [R] w0 w) := by
  unfold control_of.f at H
  refine calls_enter Try.func20 rfl rfl ?_
  have H : _ = some r := H
  refine V.seq ?_
  refine V.region ?_
  refine W.rd (X.assign rfl) rfl rfl rfl ?_
  refine W.nil ?_
  refine At.next ?_
  refine V.keep [(0, Value.int .i64 (a0)), (1, Value.int .i64 (a1))] ⟨rfl, rfl, trivial⟩ ?_
  refine V.seq ?_
  refine V.region ?_
  refine W.rd (X.move rfl) rfl rfl rfl ?_
  refine W.rd (X.cmp (decide (a0 ≥ 0)) rfl rfl rfl rfl) rfl rfl rfl ?_
  refine W.rd (X.move rfl) rfl rfl rfl ?_
  by_cases c1 : a0 ≥ 0
  · replace H := ite_t c1 H
    refine W.want 7 rfl (sb (decide_eq_true c1)) ?_
    refine W.rd (X.move rfl) rfl rfl rfl ?_
    refine W.want 7 rfl (sb (decide_eq_true c1)) ?_
    refine W.rd (X.move rfl) rfl rfl rfl ?_
    refine W.want 7 rfl (sb (decide_eq_true c1)) ?_
    refine W.rd (X.cmp (decide (a0 < a1)) rfl rfl rfl rfl) rfl rfl rfl ?_
    refine W.rd (X.pickT (sb (decide_eq_true c1)) rfl) rfl rfl rfl ?_
    refine W.rd (X.assign rfl) rfl rfl rfl ?_
    refine W.nil ?_
    refine At.next ?_
    refine V.keep [(4, Value.bool (decide (a0 < a1)))] ⟨rfl, trivial⟩ ?_
    refine V.ret ?_
    cases H
    exact At.ret1 rfl rfl ⟨_, rfl, rfl, HS⟩
  · replace H := ite_f c1 H
    refine W.pass 7 rfl (sb (decide_eq_false c1)) rfl rfl ?_
    refine W.pass 7 rfl (sb (decide_eq_false c1)) rfl rfl ?_
    refine W.pass 7 rfl (sb (decide_eq_false c1)) rfl rfl ?_
    refine W.rd (X.pickF (sb (decide_eq_false c1)) rfl) rfl rfl rfl ?_
    refine W.rd (X.assign rfl) rfl rfl rfl ?_
    refine W.nil ?_
    refine At.next ?_
    refine V.keep [(4, Value.bool (false))] ⟨rfl, trivial⟩ ?_
    refine V.ret ?_
    cases H
    exact At.ret1 rfl rfl ⟨_, rfl, rfl, HS⟩

structure api_Ctl where
  Kind : Int
  Ns : Int
  Nr : Int
  Poll : Bool
deriving DecidableEq, Inhabited

def api_Ctl.at (b : Nat) (x : api_Ctl) : As := fun h => (True) ∧ Sp [blk b (#[Value.int .i64 ((x.Kind)), Value.int .i64 ((x.Ns)), Value.int .i64 ((x.Nr)), Value.bool ((x.Poll))]) 23] h
theorem api_Ctl.open {b : Nat} {x : api_Ctl} {L : List As} {w0 w : World} (hs : Sep.St (api_Ctl.at b x :: L) w0 w) : (True) ∧ Sep.St (blk b (#[Value.int .i64 ((x.Kind)), Value.int .i64 ((x.Ns)), Value.int .i64 ((x.Nr)), Value.bool ((x.Poll))]) 23 :: L) w0 w := by
  have h1 := St.pure.1 (show St ((fun h => (True) ∧ (fun h => Sp [blk b (#[Value.int .i64 ((x.Kind)), Value.int .i64 ((x.Ns)), Value.int .i64 ((x.Nr)), Value.bool ((x.Poll))]) 23] h) h) :: L) w0 w from hs)
  obtain ⟨hi, hs⟩ := h1
  exact ⟨hi, St.open (m := [blk b (#[Value.int .i64 ((x.Kind)), Value.int .i64 ((x.Ns)), Value.int .i64 ((x.Nr)), Value.bool ((x.Poll))]) 23]) hs⟩
theorem api_Ctl.close {b : Nat} (x : api_Ctl)  {L : List As} {w0 w : World} (hi : True) (hs : Sep.St (blk b (#[Value.int .i64 ((x.Kind)), Value.int .i64 ((x.Ns)), Value.int .i64 ((x.Nr)), Value.bool ((x.Poll))]) 23 :: L) w0 w) : Sep.St (api_Ctl.at b x :: L) w0 w := by
  have h2 := St.join (m := [blk b (#[Value.int .i64 ((x.Kind)), Value.int .i64 ((x.Ns)), Value.int .i64 ((x.Nr)), Value.bool ((x.Poll))]) 23]) hs
  exact h2.mono fun h hh => ⟨hi, hh⟩

/-! ### signalman/control.Right: function 11 -/
mutual
def control_Right.j0 (a0 : api_Ctl) (a1 : Int) (x12 : Bool) : Option (Bool) := (if x12 = true then (if ((a0).Ns) = 0 then ((control_of.f ((a0).Nr) a1).bind fun t17 => some (t17)) else some (false)) else (if ((a0).Kind) ≥ 3 then (if ((a0).Kind) ≤ 7 then (if ((a0).Ns) = 0 then some (decide (((a0).Nr) = 0)) else some (false)) else some (false)) else some (false)))
end
def control_Right.f (a0 : api_Ctl) (a1 : Int) : Option (Bool) := ((control_modulus.f a1).bind fun t2 => (if t2 = true then (if a0.Kind = 0 then ((control_of.f a0.Ns a1).bind fun t6 => (if t6 = true then ((control_of.f a0.Nr a1).bind fun t9 => some (t9)) else some (false))) else (if a0.Kind = 1 then (control_Right.j0 a0 a1 true) else (control_Right.j0 a0 a1 (decide (a0.Kind = 2))))) else some (false)))
set_option maxRecDepth 100000 in
set_option maxHeartbeats 4000000 in
theorem control_Right.calls (a0 : api_Ctl) (a1 : Int) (R : As) (w0 w : World)  (r : Bool)  (H : control_Right.f a0 a1 = some r) (HS : Sep.St [R] w0 w) : Calls Try.prog 11 #[Value.agg #[Value.int .i64 (a0.Kind), Value.int .i64 (a0.Ns), Value.int .i64 (a0.Nr), Value.bool (a0.Poll)], Value.int .i64 (a1)] w (Ret fun u w => u = Value.bool (r) ∧ Sep.St [R] w0 w) := by
  unfold control_Right.f at H
  refine calls_enter Try.func11 rfl rfl ?_
  have H : _ = some r := H
  refine V.seq ?_
  refine V.region ?_
  refine W.ev (Y.box HS rfl) rfl rfl rfl ?_
  rintro _ w ⟨nb1, rfl, HS⟩
  have HS : Sep.St [blk nb1 (#[Value.int .i64 (a0.Kind), Value.int .i64 (a0.Ns), Value.int .i64 (a0.Nr), Value.bool (a0.Poll)]) 23, R] w0 w := HS
  refine W.rd (X.assign rfl) rfl rfl rfl ?_
  refine W.nil ?_
  refine At.next ?_
  refine V.keep [(1, Value.int .i64 (a1)), (2, Value.pointer (some ⟨nb1, 0, none⟩))] ⟨rfl, rfl, trivial⟩ ?_
  refine V.seq ?_
  refine V.block ?_
  refine V.seq ?_
  refine V.region ?_
  refine W.rd (X.move rfl) rfl rfl rfl ?_
  obtain ⟨t2, A3, H⟩ := bind_s H
  refine W.ev (Y.call Try.func19 (by kernel_rfl) rfl (vs := [Value.int .i64 (a1)]) rfl (control_modulus.calls a1 _ w0 _  t2  A3 (Sep.St.tailJoin (m := []) (r := [blk nb1 (#[Value.int .i64 (a0.Kind), Value.int .i64 (a0.Ns), Value.int .i64 (a0.Nr), Value.bool (a0.Poll)]) 23, R]) HS))) rfl rfl rfl ?_
  rintro _ w ⟨rfl, HS⟩
  replace HS := Sep.St.tailOpen (m := []) (r := [blk nb1 (#[Value.int .i64 (a0.Kind), Value.int .i64 (a0.Ns), Value.int .i64 (a0.Nr), Value.bool (a0.Poll)]) 23, R]) HS
  have HS : Sep.St [blk nb1 (#[Value.int .i64 (a0.Kind), Value.int .i64 (a0.Ns), Value.int .i64 (a0.Nr), Value.bool (a0.Poll)]) 23, R] w0 w := HS
  refine W.rd (X.not rfl) rfl rfl rfl ?_
  refine W.rd (X.assign rfl) rfl rfl rfl ?_
  refine W.nil ?_
  refine At.next ?_
  refine V.keep [(1, Value.int .i64 (a1)), (2, Value.pointer (some ⟨nb1, 0, none⟩)), (5, Value.bool (!(t2)))] ⟨rfl, rfl, rfl, trivial⟩ ?_
  by_cases c4 : t2 = true
  · replace H := ite_t c4 H
    refine V.condF (sb (n_t c4)) ?_
    refine V.seq ?_
    refine V.region ?_
    refine W.rd (X.fieldAddr 0 fo23_0 rfl) rfl rfl rfl ?_
    refine W.rd (X.loadAt 0 HS rfl Try.underlying3 rfl rfl rfl) rfl rfl rfl ?_
    refine W.rd (X.cmp (decide (a0.Kind = 0)) rfl rfl rfl rfl) rfl rfl rfl ?_
    refine W.rd (X.assign rfl) rfl rfl rfl ?_
    refine W.nil ?_
    refine At.next ?_
    refine V.keep [(1, Value.int .i64 (a1)), (2, Value.pointer (some ⟨nb1, 0, none⟩)), (9, Value.bool (decide (a0.Kind = 0)))] ⟨rfl, rfl, rfl, trivial⟩ ?_
    by_cases c5 : a0.Kind = 0
    · replace H := ite_t c5 H
      refine V.condT (sb (decide_eq_true c5)) ?_
      refine V.seq ?_
      refine V.region ?_
      refine W.rd (X.fieldAddr 1 fo23_1 rfl) rfl rfl rfl ?_
      refine W.rd (X.loadAt 0 HS rfl Try.underlying3 rfl rfl rfl) rfl rfl rfl ?_
      refine W.rd (X.move rfl) rfl rfl rfl ?_
      obtain ⟨t6, A7, H⟩ := bind_s H
      refine W.ev (Y.call Try.func20 (by kernel_rfl) rfl (vs := [Value.int .i64 (a0.Ns), Value.int .i64 (a1)]) rfl (control_of.calls a0.Ns a1 _ w0 _  t6  A7 (Sep.St.tailJoin (m := []) (r := [blk nb1 (#[Value.int .i64 (a0.Kind), Value.int .i64 (a0.Ns), Value.int .i64 (a0.Nr), Value.bool (a0.Poll)]) 23, R]) HS))) rfl rfl rfl ?_
      rintro _ w ⟨rfl, HS⟩
      replace HS := Sep.St.tailOpen (m := []) (r := [blk nb1 (#[Value.int .i64 (a0.Kind), Value.int .i64 (a0.Ns), Value.int .i64 (a0.Nr), Value.bool (a0.Poll)]) 23, R]) HS
      have HS : Sep.St [blk nb1 (#[Value.int .i64 (a0.Kind), Value.int .i64 (a0.Ns), Value.int .i64 (a0.Nr), Value.bool (a0.Poll)]) 23, R] w0 w := HS
      refine W.rd (X.move rfl) rfl rfl rfl ?_
      by_cases c8 : t6 = true
      · replace H := ite_t c8 H
        refine W.want 17 rfl (sb c8) ?_
        refine W.rd (X.fieldAddr 2 fo23_2 rfl) rfl rfl rfl ?_
        refine W.want 17 rfl (sb c8) ?_
        refine W.rd (X.loadAt 0 HS rfl Try.underlying3 rfl rfl rfl) rfl rfl rfl ?_
        refine W.want 17 rfl (sb c8) ?_
        refine W.rd (X.move rfl) rfl rfl rfl ?_
        refine W.want 17 rfl (sb c8) ?_
        obtain ⟨t9, A10, H⟩ := bind_s H
        refine W.ev (Y.call Try.func20 (by kernel_rfl) rfl (vs := [Value.int .i64 (a0.Nr), Value.int .i64 (a1)]) rfl (control_of.calls a0.Nr a1 _ w0 _  t9  A10 (Sep.St.tailJoin (m := []) (r := [blk nb1 (#[Value.int .i64 (a0.Kind), Value.int .i64 (a0.Ns), Value.int .i64 (a0.Nr), Value.bool (a0.Poll)]) 23, R]) HS))) rfl rfl rfl ?_
        rintro _ w ⟨rfl, HS⟩
        replace HS := Sep.St.tailOpen (m := []) (r := [blk nb1 (#[Value.int .i64 (a0.Kind), Value.int .i64 (a0.Ns), Value.int .i64 (a0.Nr), Value.bool (a0.Poll)]) 23, R]) HS
        have HS : Sep.St [blk nb1 (#[Value.int .i64 (a0.Kind), Value.int .i64 (a0.Ns), Value.int .i64 (a0.Nr), Value.bool (a0.Poll)]) 23, R] w0 w := HS
        refine W.rd (X.pickT (sb c8) rfl) rfl rfl rfl ?_
        refine W.rd (X.assign rfl) rfl rfl rfl ?_
        refine W.nil ?_
        refine At.next ?_
        refine V.keep [(4, Value.bool (t9))] ⟨rfl, trivial⟩ ?_
        refine V.ret ?_
        refine At.blockRet ?_
        refine At.thenRet ?_
        replace HS := HS.sel [1] [0] rfl
        cases H
        exact At.ret1 rfl rfl ⟨_, rfl, rfl, HS⟩
      · replace H := ite_f c8 H
        refine W.pass 17 rfl (sb (b_f c8)) rfl rfl ?_
        refine W.pass 17 rfl (sb (b_f c8)) rfl rfl ?_
        refine W.pass 17 rfl (sb (b_f c8)) rfl rfl ?_
        refine W.pass 17 rfl (sb (b_f c8)) rfl rfl ?_
        refine W.rd (X.pickF (sb (b_f c8)) rfl) rfl rfl rfl ?_
        refine W.rd (X.assign rfl) rfl rfl rfl ?_
        refine W.nil ?_
        refine At.next ?_
        refine V.keep [(4, Value.bool (false))] ⟨rfl, trivial⟩ ?_
        refine V.ret ?_
        refine At.blockRet ?_
        refine At.thenRet ?_
        replace HS := HS.sel [1] [0] rfl
        cases H
        exact At.ret1 rfl rfl ⟨_, rfl, rfl, HS⟩
    · replace H := ite_f c5 H
      refine V.condF (sb (decide_eq_false c5)) ?_
      refine V.meet (σ := Bool) (fun st w => match st with | x12 => Sep.St [api_Ctl.at nb1 (a0), R] w0 w ∧ control_Right.j0 a0 a1 x12 = some r) (fun st => match st with | x12 => [(1, Value.int .i64 (a1)), (2, Value.pointer (some ⟨nb1, 0, none⟩)), (23, Value.bool (x12))]) ?_ ?_
      · refine V.region ?_
        refine W.rd (X.fieldAddr 0 fo23_0 rfl) rfl rfl rfl ?_
        refine W.rd (X.loadAt 0 HS rfl Try.underlying3 rfl rfl rfl) rfl rfl rfl ?_
        refine W.rd (X.cmp (decide (a0.Kind = 1)) rfl rfl rfl rfl) rfl rfl rfl ?_
        refine W.rd (X.move rfl) rfl rfl rfl ?_
        by_cases c24 : a0.Kind = 1
        · replace H := ite_t c24 H
          refine W.pass 27 rfl (sb (decide_eq_true c24)) rfl rfl ?_
          refine W.pass 27 rfl (sb (decide_eq_true c24)) rfl rfl ?_
          refine W.pass 27 rfl (sb (decide_eq_true c24)) rfl rfl ?_
          refine W.rd (X.pickT (sb (decide_eq_true c24)) rfl) rfl rfl rfl ?_
          refine W.rd (X.assign rfl) rfl rfl rfl ?_
          refine W.nil ?_
          replace HS := api_Ctl.close (a0) trivial HS
          have HS : Sep.St [api_Ctl.at nb1 (a0), R] w0 w := HS
          exact At.meet (true) ⟨rfl, rfl, rfl, trivial⟩ ⟨HS, H⟩
        · replace H := ite_f c24 H
          refine W.want 27 rfl (sb (decide_eq_false c24)) ?_
          refine W.rd (X.fieldAddr 0 fo23_0 rfl) rfl rfl rfl ?_
          refine W.want 27 rfl (sb (decide_eq_false c24)) ?_
          refine W.rd (X.loadAt 0 HS rfl Try.underlying3 rfl rfl rfl) rfl rfl rfl ?_
          refine W.want 27 rfl (sb (decide_eq_false c24)) ?_
          refine W.rd (X.cmp (decide (a0.Kind = 2)) rfl rfl rfl rfl) rfl rfl rfl ?_
          refine W.rd (X.pickF (sb (decide_eq_false c24)) rfl) rfl rfl rfl ?_
          refine W.rd (X.assign rfl) rfl rfl rfl ?_
          refine W.nil ?_
          replace HS := api_Ctl.close (a0) trivial HS
          have HS : Sep.St [api_Ctl.at nb1 (a0), R] w0 w := HS
          exact At.meet (decide (a0.Kind = 2)) ⟨rfl, rfl, rfl, trivial⟩ ⟨HS, H⟩
      · rintro x12 w ⟨HS, H⟩
        unfold control_Right.j0 at H
        have HS : Sep.St [api_Ctl.at nb1 (a0), R] w0 w := HS
        by_cases c13 : x12 = true
        · replace H := ite_t c13 H
          refine V.condT (sb c13) ?_
          refine V.seq ?_
          refine V.region ?_
          obtain ⟨hi15, HS⟩ := api_Ctl.open HS
          have HS : Sep.St [blk nb1 (#[Value.int .i64 ((a0).Kind), Value.int .i64 ((a0).Ns), Value.int .i64 ((a0).Nr), Value.bool ((a0).Poll)]) 23, R] w0 w := HS
          refine W.rd (X.fieldAddr 1 fo23_1 rfl) rfl rfl rfl ?_
          refine W.rd (X.loadAt 0 HS rfl Try.underlying3 rfl rfl rfl) rfl rfl rfl ?_
          refine W.rd (X.cmp (decide (((a0).Ns) = 0)) rfl rfl rfl rfl) rfl rfl rfl ?_
          refine W.rd (X.move rfl) rfl rfl rfl ?_
          by_cases c16 : ((a0).Ns) = 0
          · replace H := ite_t c16 H
            refine W.want 35 rfl (sb (decide_eq_true c16)) ?_
            refine W.rd (X.fieldAddr 2 fo23_2 rfl) rfl rfl rfl ?_
            refine W.want 35 rfl (sb (decide_eq_true c16)) ?_
            refine W.rd (X.loadAt 0 HS rfl Try.underlying3 rfl rfl rfl) rfl rfl rfl ?_
            refine W.want 35 rfl (sb (decide_eq_true c16)) ?_
            refine W.rd (X.move rfl) rfl rfl rfl ?_
            refine W.want 35 rfl (sb (decide_eq_true c16)) ?_
            obtain ⟨t17, A18, H⟩ := bind_s H
            refine W.ev (Y.call Try.func20 (by kernel_rfl) rfl (vs := [Value.int .i64 ((a0).Nr), Value.int .i64 (a1)]) rfl (control_of.calls ((a0).Nr) a1 _ w0 _  t17  A18 (Sep.St.tailJoin (m := []) (r := [blk nb1 (#[Value.int .i64 ((a0).Kind), Value.int .i64 ((a0).Ns), Value.int .i64 ((a0).Nr), Value.bool ((a0).Poll)]) 23, R]) HS))) rfl rfl rfl ?_
            rintro _ w ⟨rfl, HS⟩
            replace HS := Sep.St.tailOpen (m := []) (r := [blk nb1 (#[Value.int .i64 ((a0).Kind), Value.int .i64 ((a0).Ns), Value.int .i64 ((a0).Nr), Value.bool ((a0).Poll)]) 23, R]) HS
            have HS : Sep.St [blk nb1 (#[Value.int .i64 ((a0).Kind), Value.int .i64 ((a0).Ns), Value.int .i64 ((a0).Nr), Value.bool ((a0).Poll)]) 23, R] w0 w := HS
            refine W.rd (X.pickT (sb (decide_eq_true c16)) rfl) rfl rfl rfl ?_
            refine W.rd (X.assign rfl) rfl rfl rfl ?_
            refine W.nil ?_
            refine At.next ?_
            refine V.keep [(4, Value.bool (t17))] ⟨rfl, trivial⟩ ?_
            refine V.ret ?_
            refine At.blockRet ?_
            refine At.thenRet ?_
            replace HS := HS.sel [1] [0] rfl
            cases H
            exact At.ret1 rfl rfl ⟨_, rfl, rfl, HS⟩
          · replace H := ite_f c16 H
            refine W.pass 35 rfl (sb (decide_eq_false c16)) rfl rfl ?_
            refine W.pass 35 rfl (sb (decide_eq_false c16)) rfl rfl ?_
            refine W.pass 35 rfl (sb (decide_eq_false c16)) rfl rfl ?_
            refine W.pass 35 rfl (sb (decide_eq_false c16)) rfl rfl ?_
            refine W.rd (X.pickF (sb (decide_eq_false c16)) rfl) rfl rfl rfl ?_
            refine W.rd (X.assign rfl) rfl rfl rfl ?_
            refine W.nil ?_
            refine At.next ?_
            refine V.keep [(4, Value.bool (false))] ⟨rfl, trivial⟩ ?_
            refine V.ret ?_
            refine At.blockRet ?_
            refine At.thenRet ?_
            replace HS := HS.sel [1] [0] rfl
            cases H
            exact At.ret1 rfl rfl ⟨_, rfl, rfl, HS⟩
        · replace H := ite_f c13 H
          refine V.condF (sb (b_f c13)) ?_
          refine V.skip ?_
          refine At.blockEnd ?_
          refine At.next ?_
          refine V.keep [(2, Value.pointer (some ⟨nb1, 0, none⟩))] ⟨rfl, trivial⟩ ?_
          refine V.seq ?_
          refine V.region ?_
          obtain ⟨hi20, HS⟩ := api_Ctl.open HS
          have HS : Sep.St [blk nb1 (#[Value.int .i64 ((a0).Kind), Value.int .i64 ((a0).Ns), Value.int .i64 ((a0).Nr), Value.bool ((a0).Poll)]) 23, R] w0 w := HS
          refine W.rd (X.fieldAddr 0 fo23_0 rfl) rfl rfl rfl ?_
          refine W.rd (X.loadAt 0 HS rfl Try.underlying3 rfl rfl rfl) rfl rfl rfl ?_
          refine W.rd (X.cmp (decide (((a0).Kind) ≥ 3)) rfl rfl rfl rfl) rfl rfl rfl ?_
          refine W.rd (X.move rfl) rfl rfl rfl ?_
          by_cases c21 : ((a0).Kind) ≥ 3
          · replace H := ite_t c21 H
            refine W.want 44 rfl (sb (decide_eq_true c21)) ?_
            refine W.rd (X.fieldAddr 0 fo23_0 rfl) rfl rfl rfl ?_
            refine W.want 44 rfl (sb (decide_eq_true c21)) ?_
            refine W.rd (X.loadAt 0 HS rfl Try.underlying3 rfl rfl rfl) rfl rfl rfl ?_
            refine W.want 44 rfl (sb (decide_eq_true c21)) ?_
            refine W.rd (X.cmp (decide (((a0).Kind) ≤ 7)) rfl rfl rfl rfl) rfl rfl rfl ?_
            refine W.rd (X.pickT (sb (decide_eq_true c21)) rfl) rfl rfl rfl ?_
            refine W.rd (X.move rfl) rfl rfl rfl ?_
            by_cases c22 : ((a0).Kind) ≤ 7
            · replace H := ite_t c22 H
              refine W.want 49 rfl (sb (decide_eq_true c22)) ?_
              refine W.rd (X.fieldAddr 1 fo23_1 rfl) rfl rfl rfl ?_
              refine W.want 49 rfl (sb (decide_eq_true c22)) ?_
              refine W.rd (X.loadAt 0 HS rfl Try.underlying3 rfl rfl rfl) rfl rfl rfl ?_
              refine W.want 49 rfl (sb (decide_eq_true c22)) ?_
              refine W.rd (X.cmp (decide (((a0).Ns) = 0)) rfl rfl rfl rfl) rfl rfl rfl ?_
              refine W.rd (X.pickT (sb (decide_eq_true c22)) rfl) rfl rfl rfl ?_
              refine W.rd (X.move rfl) rfl rfl rfl ?_
              by_cases c23 : ((a0).Ns) = 0
              · replace H := ite_t c23 H
                refine W.want 54 rfl (sb (decide_eq_true c23)) ?_
                refine W.rd (X.fieldAddr 2 fo23_2 rfl) rfl rfl rfl ?_
                refine W.want 54 rfl (sb (decide_eq_true c23)) ?_
                refine W.rd (X.loadAt 0 HS rfl Try.underlying3 rfl rfl rfl) rfl rfl rfl ?_
                refine W.want 54 rfl (sb (decide_eq_true c23)) ?_
                refine W.rd (X.cmp (decide (((a0).Nr) = 0)) rfl rfl rfl rfl) rfl rfl rfl ?_
                refine W.rd (X.pickT (sb (decide_eq_true c23)) rfl) rfl rfl rfl ?_
                refine W.rd (X.assign rfl) rfl rfl rfl ?_
                refine W.nil ?_
                refine At.next ?_
                refine V.keep [(4, Value.bool (decide (((a0).Nr) = 0)))] ⟨rfl, trivial⟩ ?_
                refine V.ret ?_
                replace HS := HS.sel [1] [0] rfl
                cases H
                exact At.ret1 rfl rfl ⟨_, rfl, rfl, HS⟩
              · replace H := ite_f c23 H
                refine W.pass 54 rfl (sb (decide_eq_false c23)) rfl rfl ?_
                refine W.pass 54 rfl (sb (decide_eq_false c23)) rfl rfl ?_
                refine W.pass 54 rfl (sb (decide_eq_false c23)) rfl rfl ?_
                refine W.rd (X.pickF (sb (decide_eq_false c23)) rfl) rfl rfl rfl ?_
                refine W.rd (X.assign rfl) rfl rfl rfl ?_
                refine W.nil ?_
                refine At.next ?_
                refine V.keep [(4, Value.bool (false))] ⟨rfl, trivial⟩ ?_
                refine V.ret ?_
                replace HS := HS.sel [1] [0] rfl
                cases H
                exact At.ret1 rfl rfl ⟨_, rfl, rfl, HS⟩
            · replace H := ite_f c22 H
              refine W.pass 49 rfl (sb (decide_eq_false c22)) rfl rfl ?_
              refine W.pass 49 rfl (sb (decide_eq_false c22)) rfl rfl ?_
              refine W.pass 49 rfl (sb (decide_eq_false c22)) rfl rfl ?_
              refine W.rd (X.pickF (sb (decide_eq_false c22)) rfl) rfl rfl rfl ?_
              refine W.rd (X.move rfl) rfl rfl rfl ?_
              refine W.pass 54 rfl rfl rfl rfl ?_
              refine W.pass 54 rfl rfl rfl rfl ?_
              refine W.pass 54 rfl rfl rfl rfl ?_
              refine W.rd (X.pickF rfl rfl) rfl rfl rfl ?_
              refine W.rd (X.assign rfl) rfl rfl rfl ?_
              refine W.nil ?_
              refine At.next ?_
              refine V.keep [(4, Value.bool (false))] ⟨rfl, trivial⟩ ?_
              refine V.ret ?_
              replace HS := HS.sel [1] [0] rfl
              cases H
              exact At.ret1 rfl rfl ⟨_, rfl, rfl, HS⟩
          · replace H := ite_f c21 H
            refine W.pass 44 rfl (sb (decide_eq_false c21)) rfl rfl ?_
            refine W.pass 44 rfl (sb (decide_eq_false c21)) rfl rfl ?_
            refine W.pass 44 rfl (sb (decide_eq_false c21)) rfl rfl ?_
            refine W.rd (X.pickF (sb (decide_eq_false c21)) rfl) rfl rfl rfl ?_
            refine W.rd (X.move rfl) rfl rfl rfl ?_
            refine W.pass 49 rfl rfl rfl rfl ?_
            refine W.pass 49 rfl rfl rfl rfl ?_
            refine W.pass 49 rfl rfl rfl rfl ?_
            refine W.rd (X.pickF rfl rfl) rfl rfl rfl ?_
            refine W.rd (X.move rfl) rfl rfl rfl ?_
            refine W.pass 54 rfl rfl rfl rfl ?_
            refine W.pass 54 rfl rfl rfl rfl ?_
            refine W.pass 54 rfl rfl rfl rfl ?_
            refine W.rd (X.pickF rfl rfl) rfl rfl rfl ?_
            refine W.rd (X.assign rfl) rfl rfl rfl ?_
            refine W.nil ?_
            refine At.next ?_
            refine V.keep [(4, Value.bool (false))] ⟨rfl, trivial⟩ ?_
            refine V.ret ?_
            replace HS := HS.sel [1] [0] rfl
            cases H
            exact At.ret1 rfl rfl ⟨_, rfl, rfl, HS⟩
  · replace H := ite_f c4 H
    refine V.condT (sb (n_f (b_f c4))) ?_
    refine V.seq ?_
    refine V.region ?_
    refine W.rd (X.assign rfl) rfl rfl rfl ?_
    refine W.nil ?_
    refine At.next ?_
    refine V.keep [(4, Value.bool (false))] ⟨rfl, trivial⟩ ?_
    refine V.ret ?_
    refine At.blockRet ?_
    refine At.thenRet ?_
    replace HS := HS.sel [1] [0] rfl
    cases H
    exact At.ret1 rfl rfl ⟨_, rfl, rfl, HS⟩

/-! ### signalman/control.bit: function 16 -/
def control_bit.f (a0 : Bool) : Option (Int) := (if a0 = true then some (1) else some (0))
set_option maxRecDepth 100000 in
set_option maxHeartbeats 4000000 in
theorem control_bit.calls (a0 : Bool) (R : As) (w0 w : World)  (r : Int)  (H : control_bit.f a0 = some r) (HS : Sep.St [R] w0 w) : Calls Try.prog 16 #[Value.bool (a0)] w (Ret fun u w => u = Value.int .i64 (r) ∧ Sep.St [R] w0 w) := by
  unfold control_bit.f at H
  refine calls_enter Try.func16 rfl rfl ?_
  have H : _ = some r := H
  refine V.seq ?_
  refine V.region ?_
  refine W.rd (X.assign rfl) rfl rfl rfl ?_
  refine W.nil ?_
  refine At.next ?_
  refine V.keep [(0, Value.bool (a0))] ⟨rfl, trivial⟩ ?_
  refine V.seq ?_
  refine V.seq ?_
  refine V.region ?_
  refine W.rd (X.move rfl) rfl rfl rfl ?_
  refine W.nil ?_
  refine At.next ?_
  refine V.keep [(3, Value.bool (a0))] ⟨rfl, trivial⟩ ?_
  by_cases c1 : a0 = true
  · replace H := ite_t c1 H
    refine V.condT (sb c1) ?_
    refine V.seq ?_
    refine V.region ?_
    refine W.rd (X.assign rfl) rfl rfl rfl ?_
    refine W.nil ?_
    refine At.next ?_
    refine V.keep [(2, Value.int .i64 (1))] ⟨rfl, trivial⟩ ?_
    refine V.ret ?_
    refine At.thenRet ?_
    cases H
    exact At.ret1 rfl rfl ⟨_, rfl, rfl, HS⟩
  · replace H := ite_f c1 H
    refine V.condF (sb (b_f c1)) ?_
    refine V.skip ?_
    refine At.next ?_
    refine V.keep [] trivial ?_
    refine V.seq ?_
    refine V.region ?_
    refine W.rd (X.assign rfl) rfl rfl rfl ?_
    refine W.nil ?_
    refine At.next ?_
    refine V.keep [(2, Value.int .i64 (0))] ⟨rfl, trivial⟩ ?_
    refine V.ret ?_
    cases H
    exact At.ret1 rfl rfl ⟨_, rfl, rfl, HS⟩

/-! ### signalman/control.put: function 17 -/
def control_put.f (a0 : List Int) (a1 : Int) (a2 : Int) : Option (List Int) := (if ((a0).length : Int) + (([IntKind.u8.wrap (a1)] : List Int)).length ≤ 1099511627776 then (if a2 = 32768 then (if ((a0 ++ ([IntKind.u8.wrap (a1)] : List Int)).length : Int) + (([IntKind.u8.wrap ((a1).fdiv (2 ^ (min ((8 : Int)).toNat IntKind.i64.bits)))] : List Int)).length ≤ 1099511627776 then some ((a0 ++ ([IntKind.u8.wrap (a1)] : List Int)) ++ ([IntKind.u8.wrap ((a1).fdiv (2 ^ (min ((8 : Int)).toNat IntKind.i64.bits)))] : List Int)) else none) else some (a0 ++ ([IntKind.u8.wrap (a1)] : List Int))) else none)
set_option maxRecDepth 100000 in
set_option maxHeartbeats 4000000 in
theorem control_put.calls (a0 : List Int) (a1 : Int) (a2 : Int) (R : As) (w0 w : World) (sa0 : Option Addr) (sc0 : Nat) (r : List Int)  (H : control_put.f a0 a1 a2 = some r) (HS : Sep.St [row 5 1 (.slice sa0 (a0).length sc0) (a0).length ((a0).map (Value.int .u8)), R] w0 w) : Calls Try.prog 17 #[Value.slice sa0 (a0).length sc0, Value.int .i64 (a1), Value.int .i64 (a2)] w (Ret fun u w => ∃ (aq0 : Option Addr) (cq0 : Nat), u = Value.slice aq0 (r).length cq0 ∧ Sep.St [row 5 1 (.slice aq0 (r).length cq0) (r).length ((r).map (Value.int .u8)), R] w0 w) := by
  unfold control_put.f at H
  refine calls_enter Try.func17 rfl rfl ?_
  have H : _ = some r := H
  refine V.seq ?_
  refine V.region ?_
  refine W.rd (X.assign rfl) rfl rfl rfl ?_
  refine W.nil ?_
  refine At.next ?_
  refine V.keep [(0, Value.slice sa0 (a0).length sc0), (1, Value.int .i64 (a1)), (2, Value.int .i64 (a2))] ⟨rfl, rfl, rfl, trivial⟩ ?_
  refine V.seq ?_
  refine V.region ?_
  refine W.rd (X.move rfl) rfl rfl rfl ?_
  refine W.rd (X.move rfl) rfl rfl rfl ?_
  refine W.rd (X.conv Try.underlying3 Try.underlying5 rfl) rfl rfl rfl ?_
  refine W.ev (Y.litB (e := 5) (sz := 1) (vs := #[(0, Value.int .u8 (IntKind.u8.wrap (a1)))]) [Value.int .u8 (IntKind.u8.wrap (a1))] HS (fun a ha => by simp only [List.map_toArray, List.map_cons, List.map_nil]; rw [ha.ev (x := .tmp 9) (v := Value.int .u8 (IntKind.u8.wrap (a1))) rfl]; try rfl) rfl (by decide) (fun _ => by kernel_rfl)) rfl rfl rfl ?_
  rintro _ w ⟨lb3, rfl, HS⟩
  have HS : Sep.St [row 5 1 (.slice (some ⟨lb3, 0, none⟩) (([IntKind.u8.wrap (a1)] : List Int)).length 1) (([IntKind.u8.wrap (a1)] : List Int)).length ((([IntKind.u8.wrap (a1)] : List Int)).map (Value.int .u8)), row 5 1 (.slice sa0 (a0).length sc0) (a0).length ((a0).map (Value.int .u8)), R] w0 w := HS
  obtain ⟨c4, H⟩ := ite_n H
  refine W.ev (Y.appF (Value.int .u8) (fun _ => rfl) 1 Try.underlying26 ap5 rfl HS rfl rfl rfl (rdC.at 0 row_rd HS rfl) (by omega) (by omega)) rfl rfl rfl ?_
  rintro _ w ⟨ra5, rc6, rfl, HS⟩
  have HS : Sep.St [row 5 1 (.slice (some ⟨lb3, 0, none⟩) (([IntKind.u8.wrap (a1)] : List Int)).length 1) (([IntKind.u8.wrap (a1)] : List Int)).length ((([IntKind.u8.wrap (a1)] : List Int)).map (Value.int .u8)), row 5 1 (.slice ra5 (a0 ++ ([IntKind.u8.wrap (a1)] : List Int)).length rc6) (a0 ++ ([IntKind.u8.wrap (a1)] : List Int)).length ((a0 ++ ([IntKind.u8.wrap (a1)] : List Int)).map (Value.int .u8)), R] w0 w := HS
  refine W.rd (X.assign rfl) rfl rfl rfl ?_
  refine W.nil ?_
  refine At.next ?_
  refine V.keep [(0, Value.slice ra5 (a0 ++ ([IntKind.u8.wrap (a1)] : List Int)).length rc6), (1, Value.int .i64 (a1)), (2, Value.int .i64 (a2))] ⟨rfl, rfl, rfl, trivial⟩ ?_
  refine V.seq ?_
  refine V.seq ?_
  refine V.region ?_
  refine W.rd (X.move rfl) rfl rfl rfl ?_
  refine W.rd (X.cmp (decide (a2 = 32768)) rfl rfl rfl rfl) rfl rfl rfl ?_
  refine W.nil ?_
  refine At.next ?_
  refine V.keep [(0, Value.slice ra5 (a0 ++ ([IntKind.u8.wrap (a1)] : List Int)).length rc6), (1, Value.int .i64 (a1)), (13, Value.bool (decide (a2 = 32768)))] ⟨rfl, rfl, rfl, trivial⟩ ?_
  by_cases c7 : a2 = 32768
  · replace H := ite_t c7 H
    refine V.condT (sb (decide_eq_true c7)) ?_
    refine V.region ?_
    refine W.rd (X.move rfl) rfl rfl rfl ?_
    refine W.rd (X.move rfl) rfl rfl rfl ?_
    refine W.rd (X.shr rfl rfl (by decide)) rfl rfl rfl ?_
    refine W.rd (X.conv Try.underlying3 Try.underlying5 rfl) rfl rfl rfl ?_
    refine W.ev (Y.litB (e := 5) (sz := 1) (vs := #[(0, Value.int .u8 (IntKind.u8.wrap ((a1).fdiv (2 ^ (min ((8 : Int)).toNat IntKind.i64.bits)))))]) [Value.int .u8 (IntKind.u8.wrap ((a1).fdiv (2 ^ (min ((8 : Int)).toNat IntKind.i64.bits))))] HS (fun a ha => by simp only [List.map_toArray, List.map_cons, List.map_nil]; rw [ha.ev (x := .tmp 17) (v := Value.int .u8 (IntKind.u8.wrap ((a1).fdiv (2 ^ (min ((8 : Int)).toNat IntKind.i64.bits))))) rfl]; try rfl) rfl (by decide) (fun _ => by kernel_rfl)) rfl rfl rfl ?_
    rintro _ w ⟨lb10, rfl, HS⟩
    have HS : Sep.St [row 5 1 (.slice (some ⟨lb10, 0, none⟩) (([IntKind.u8.wrap ((a1).fdiv (2 ^ (min ((8 : Int)).toNat IntKind.i64.bits)))] : List Int)).length 1) (([IntKind.u8.wrap ((a1).fdiv (2 ^ (min ((8 : Int)).toNat IntKind.i64.bits)))] : List Int)).length ((([IntKind.u8.wrap ((a1).fdiv (2 ^ (min ((8 : Int)).toNat IntKind.i64.bits)))] : List Int)).map (Value.int .u8)), row 5 1 (.slice (some ⟨lb3, 0, none⟩) (([IntKind.u8.wrap (a1)] : List Int)).length 1) (([IntKind.u8.wrap (a1)] : List Int)).length ((([IntKind.u8.wrap (a1)] : List Int)).map (Value.int .u8)), row 5 1 (.slice ra5 (a0 ++ ([IntKind.u8.wrap (a1)] : List Int)).length rc6) (a0 ++ ([IntKind.u8.wrap (a1)] : List Int)).length ((a0 ++ ([IntKind.u8.wrap (a1)] : List Int)).map (Value.int .u8)), R] w0 w := HS
    obtain ⟨c11, H⟩ := ite_n H
    refine W.ev (Y.appF (Value.int .u8) (fun _ => rfl) 2 Try.underlying26 ap5 rfl HS rfl rfl rfl (rdC.at 0 row_rd HS rfl) (by omega) (by omega)) rfl rfl rfl ?_
    rintro _ w ⟨ra12, rc13, rfl, HS⟩
    have HS : Sep.St [row 5 1 (.slice (some ⟨lb10, 0, none⟩) (([IntKind.u8.wrap ((a1).fdiv (2 ^ (min ((8 : Int)).toNat IntKind.i64.bits)))] : List Int)).length 1) (([IntKind.u8.wrap ((a1).fdiv (2 ^ (min ((8 : Int)).toNat IntKind.i64.bits)))] : List Int)).length ((([IntKind.u8.wrap ((a1).fdiv (2 ^ (min ((8 : Int)).toNat IntKind.i64.bits)))] : List Int)).map (Value.int .u8)), row 5 1 (.slice (some ⟨lb3, 0, none⟩) (([IntKind.u8.wrap (a1)] : List Int)).length 1) (([IntKind.u8.wrap (a1)] : List Int)).length ((([IntKind.u8.wrap (a1)] : List Int)).map (Value.int .u8)), row 5 1 (.slice ra12 ((a0 ++ ([IntKind.u8.wrap (a1)] : List Int)) ++ ([IntKind.u8.wrap ((a1).fdiv (2 ^ (min ((8 : Int)).toNat IntKind.i64.bits)))] : List Int)).length rc13) ((a0 ++ ([IntKind.u8.wrap (a1)] : List Int)) ++ ([IntKind.u8.wrap ((a1).fdiv (2 ^ (min ((8 : Int)).toNat IntKind.i64.bits)))] : List Int)).length (((a0 ++ ([IntKind.u8.wrap (a1)] : List Int)) ++ ([IntKind.u8.wrap ((a1).fdiv (2 ^ (min ((8 : Int)).toNat IntKind.i64.bits)))] : List Int)).map (Value.int .u8)), R] w0 w := HS
    refine W.rd (X.assign rfl) rfl rfl rfl ?_
    refine W.nil ?_
    refine At.next ?_
    refine V.keep [(0, Value.slice ra12 ((a0 ++ ([IntKind.u8.wrap (a1)] : List Int)) ++ ([IntKind.u8.wrap ((a1).fdiv (2 ^ (min ((8 : Int)).toNat IntKind.i64.bits)))] : List Int)).length rc13)] ⟨rfl, trivial⟩ ?_
    refine V.seq ?_
    refine V.region ?_
    refine W.rd (X.move rfl) rfl rfl rfl ?_
    refine W.rd (X.assign rfl) rfl rfl rfl ?_
    refine W.nil ?_
    refine At.next ?_
    refine V.keep [(6, Value.slice ra12 ((a0 ++ ([IntKind.u8.wrap (a1)] : List Int)) ++ ([IntKind.u8.wrap ((a1).fdiv (2 ^ (min ((8 : Int)).toNat IntKind.i64.bits)))] : List Int)).length rc13)] ⟨rfl, trivial⟩ ?_
    refine V.ret ?_
    replace HS := HS.sel [2, 3] [0, 1] rfl
    cases H
    exact At.ret1 rfl rfl ⟨_, rfl, ra12, rc13, rfl, HS⟩
  · replace H := ite_f c7 H
    refine V.condF (sb (decide_eq_false c7)) ?_
    refine V.skip ?_
    refine At.next ?_
    refine V.keep [(0, Value.slice ra5 (a0 ++ ([IntKind.u8.wrap (a1)] : List Int)).length rc6)] ⟨rfl, trivial⟩ ?_
    refine V.seq ?_
    refine V.region ?_
    refine W.rd (X.move rfl) rfl rfl rfl ?_
    refine W.rd (X.assign rfl) rfl rfl rfl ?_
    refine W.nil ?_
    refine At.next ?_
    refine V.keep [(6, Value.slice ra5 (a0 ++ ([IntKind.u8.wrap (a1)] : List Int)).length rc6)] ⟨rfl, trivial⟩ ?_
    refine V.ret ?_
    replace HS := HS.sel [1, 2] [0] rfl
    cases H
    exact At.ret1 rfl rfl ⟨_, rfl, ra5, rc6, rfl, HS⟩

/-! ### signalman/control.plain: function 18 -/
def control_plain.f  : Option (List Int) := some (([111, 99, 67, 15, 135] : List Int))
set_option maxRecDepth 100000 in
set_option maxHeartbeats 4000000 in
theorem control_plain.calls  (R : As) (w0 w : World)  (r : List Int)  (H : control_plain.f  = some r) (HS : Sep.St [R] w0 w) : Calls Try.prog 18 #[] w (Ret fun u w => ∃ (aq0 : Option Addr) (cq0 : Nat), u = Value.slice aq0 (r).length cq0 ∧ Sep.St [row 5 1 (.slice aq0 (r).length cq0) (r).length ((r).map (Value.int .u8)), R] w0 w) := by
  unfold control_plain.f at H
  refine calls_enter Try.func18 rfl rfl ?_
  have H : _ = some r := H
  refine V.seq ?_
  refine V.region ?_
  refine W.rd (X.assign rfl) rfl rfl rfl ?_
  refine W.nil ?_
  refine At.next ?_
  refine V.keep [] trivial ?_
  refine V.seq ?_
  refine V.region ?_
  refine W.ev (Y.litB (e := 5) (sz := 1) (vs := #[(0, Value.int .u8 (111)), (1, Value.int .u8 (99)), (2, Value.int .u8 (67)), (3, Value.int .u8 (15)), (4, Value.int .u8 (135))]) [Value.int .u8 (111), Value.int .u8 (99), Value.int .u8 (67), Value.int .u8 (15), Value.int .u8 (135)] HS (fun a ha => by simp only [List.map_toArray, List.map_cons, List.map_nil]; try rfl) rfl (by decide) (fun _ => by kernel_rfl)) rfl rfl rfl ?_
  rintro _ w ⟨lb3, rfl, HS⟩
  have HS : Sep.St [row 5 1 (.slice (some ⟨lb3, 0, none⟩) (([111, 99, 67, 15, 135] : List Int)).length 5) (([111, 99, 67, 15, 135] : List Int)).length ((([111, 99, 67, 15, 135] : List Int)).map (Value.int .u8)), R] w0 w := HS
  refine W.rd (X.assign rfl) rfl rfl rfl ?_
  refine W.nil ?_
  refine At.next ?_
  refine V.keep [(0, Value.slice (some ⟨lb3, 0, none⟩) (([111, 99, 67, 15, 135] : List Int)).length 5)] ⟨rfl, trivial⟩ ?_
  refine V.ret ?_
  cases H
  exact At.ret1 rfl rfl ⟨_, rfl, (some ⟨lb3, 0, none⟩), 5, rfl, HS⟩

/-! ### signalman/control.Bytes: function 10 -/
def control_Bytes.f (a0 : api_Ctl) (a1 : Int) : Option (List Int) := ((control_Right.f a0 a1).bind fun t3 => (if t3 = true then ((control_bit.f a0.Poll).bind fun t6 => (if a0.Kind = 0 then ((control_put.f ([] : List Int) (w64 (2 * a0.Ns)) a1).bind fun t9 => ((control_put.f t9 (w64 ((w64 (2 * a0.Nr)) + t6)) a1).bind fun t11 => some (t11))) else (if a0.Kind = 1 then ((control_put.f ([] : List Int) 1 a1).bind fun t14 => ((control_put.f t14 (w64 ((w64 (2 * a0.Nr)) + t6)) a1).bind fun t16 => some (t16))) else (if a0.Kind = 2 then ((control_put.f ([] : List Int) 9 a1).bind fun t19 => ((control_put.f t19 (w64 ((w64 (2 * a0.Nr)) + t6)) a1).bind fun t21 => some (t21))) else ((control_plain.f ).bind fun t23 => (if 0 ≤ w64 (a0.Kind - 3) ∧ w64 (a0.Kind - 3) < ((t23).length : Int) then some (([ior .u8 ((t23).getD (w64 (a0.Kind - 3)).toNat 0) (IntKind.u8.wrap (w64 (t6 * 16)))] : List Int)) else none)))))) else some (([] : List Int))))
set_option maxRecDepth 100000 in
set_option maxHeartbeats 4000000 in
theorem control_Bytes.calls (a0 : api_Ctl) (a1 : Int) (R : As) (w0 w : World)  (r : List Int)  (H : control_Bytes.f a0 a1 = some r) (HS : Sep.St [R] w0 w) : Calls Try.prog 10 #[Value.agg #[Value.int .i64 (a0.Kind), Value.int .i64 (a0.Ns), Value.int .i64 (a0.Nr), Value.bool (a0.Poll)], Value.int .i64 (a1)] w (Ret fun u w => ∃ (aq0 : Option Addr) (cq0 : Nat), u = Value.slice aq0 (r).length cq0 ∧ Sep.St [row 5 1 (.slice aq0 (r).length cq0) (r).length ((r).map (Value.int .u8)), R] w0 w) := by
  unfold control_Bytes.f at H
  refine calls_enter Try.func10 rfl rfl ?_
  have H : _ = some r := H
  refine V.seq ?_
  refine V.region ?_
  refine W.ev (Y.box HS rfl) rfl rfl rfl ?_
  rintro _ w ⟨nb1, rfl, HS⟩
  have HS : Sep.St [blk nb1 (#[Value.int .i64 (a0.Kind), Value.int .i64 (a0.Ns), Value.int .i64 (a0.Nr), Value.bool (a0.Poll)]) 23, R] w0 w := HS
  refine W.rd (X.assign rfl) rfl rfl rfl ?_
  refine W.nil ?_
  refine At.next ?_
  refine V.keep [(1, Value.int .i64 (a1)), (2, Value.pointer (some ⟨nb1, 0, none⟩))] ⟨rfl, rfl, trivial⟩ ?_
  refine V.seq ?_
  refine V.seq ?_
  refine V.region ?_
  refine W.rd (X.loadSt 0 [Value.int .i64 (a0.Kind), Value.int .i64 (a0.Ns), Value.int .i64 (a0.Nr), Value.bool (a0.Poll)] HS rfl Try.underlying23 rfl inf23 rfl rfl) rfl rfl rfl ?_
  refine W.rd (X.move rfl) rfl rfl rfl ?_
  obtain ⟨t3, A4, H⟩ := bind_s H
  refine W.ev (Y.call Try.func11 (by kernel_rfl) rfl (vs := [Value.agg #[Value.int .i64 (a0.Kind), Value.int .i64 (a0.Ns), Value.int .i64 (a0.Nr), Value.bool (a0.Poll)], Value.int .i64 (a1)]) rfl (control_Right.calls a0 a1 _ w0 _  t3  A4 (Sep.St.tailJoin (m := []) (r := [blk nb1 (#[Value.int .i64 (a0.Kind), Value.int .i64 (a0.Ns), Value.int .i64 (a0.Nr), Value.bool (a0.Poll)]) 23, R]) HS))) rfl rfl rfl ?_
  rintro _ w ⟨rfl, HS⟩
  replace HS := Sep.St.tailOpen (m := []) (r := [blk nb1 (#[Value.int .i64 (a0.Kind), Value.int .i64 (a0.Ns), Value.int .i64 (a0.Nr), Value.bool (a0.Poll)]) 23, R]) HS
  have HS : Sep.St [blk nb1 (#[Value.int .i64 (a0.Kind), Value.int .i64 (a0.Ns), Value.int .i64 (a0.Nr), Value.bool (a0.Poll)]) 23, R] w0 w := HS
  refine W.rd (X.not rfl) rfl rfl rfl ?_
  refine W.nil ?_
  refine At.next ?_
  refine V.keep [(1, Value.int .i64 (a1)), (2, Value.pointer (some ⟨nb1, 0, none⟩)), (9, Value.bool (!(t3)))] ⟨rfl, rfl, rfl, trivial⟩ ?_
  by_cases c5 : t3 = true
  · replace H := ite_t c5 H
    refine V.condF (sb (n_t c5)) ?_
    refine V.skip ?_
    refine At.next ?_
    refine V.keep [(1, Value.int .i64 (a1)), (2, Value.pointer (some ⟨nb1, 0, none⟩))] ⟨rfl, rfl, trivial⟩ ?_
    refine V.seq ?_
    refine V.region ?_
    refine W.rd (X.fieldAddr 3 fo23_3 rfl) rfl rfl rfl ?_
    refine W.rd (X.loadAt 0 HS rfl Try.underlying4 rfl rfl rfl) rfl rfl rfl ?_
    obtain ⟨t6, A7, H⟩ := bind_s H
    refine W.ev (Y.call Try.func16 (by kernel_rfl) rfl (vs := [Value.bool (a0.Poll)]) rfl (control_bit.calls a0.Poll _ w0 _  t6  A7 (Sep.St.tailJoin (m := []) (r := [blk nb1 (#[Value.int .i64 (a0.Kind), Value.int .i64 (a0.Ns), Value.int .i64 (a0.Nr), Value.bool (a0.Poll)]) 23, R]) HS))) rfl rfl rfl ?_
    rintro _ w ⟨rfl, HS⟩
    replace HS := Sep.St.tailOpen (m := []) (r := [blk nb1 (#[Value.int .i64 (a0.Kind), Value.int .i64 (a0.Ns), Value.int .i64 (a0.Nr), Value.bool (a0.Poll)]) 23, R]) HS
    have HS : Sep.St [blk nb1 (#[Value.int .i64 (a0.Kind), Value.int .i64 (a0.Ns), Value.int .i64 (a0.Nr), Value.bool (a0.Poll)]) 23, R] w0 w := HS
    refine W.rd (X.assign rfl) rfl rfl rfl ?_
    refine W.nil ?_
    refine At.next ?_
    refine V.keep [(1, Value.int .i64 (a1)), (2, Value.pointer (some ⟨nb1, 0, none⟩)), (5, Value.int .i64 (t6))] ⟨rfl, rfl, rfl, trivial⟩ ?_
    refine V.seq ?_
    refine V.seq ?_
    refine V.region ?_
    refine W.rd (X.fieldAddr 0 fo23_0 rfl) rfl rfl rfl ?_
    refine W.rd (X.loadAt 0 HS rfl Try.underlying3 rfl rfl rfl) rfl rfl rfl ?_
    refine W.nil ?_
    refine At.next ?_
    refine V.keep [(1, Value.int .i64 (a1)), (2, Value.pointer (some ⟨nb1, 0, none⟩)), (5, Value.int .i64 (t6)), (14, Value.int .i64 (a0.Kind))] ⟨rfl, rfl, rfl, rfl, trivial⟩ ?_
    refine V.block ?_
    refine V.seq ?_
    refine V.region ?_
    refine W.rd (X.cmp (decide (a0.Kind = 0)) rfl rfl rfl rfl) rfl rfl rfl ?_
    refine W.rd (X.assign rfl) rfl rfl rfl ?_
    refine W.nil ?_
    refine At.next ?_
    refine V.keep [(1, Value.int .i64 (a1)), (2, Value.pointer (some ⟨nb1, 0, none⟩)), (5, Value.int .i64 (t6)), (14, Value.int .i64 (a0.Kind)), (15, Value.bool (decide (a0.Kind = 0)))] ⟨rfl, rfl, rfl, rfl, rfl, trivial⟩ ?_
    by_cases c8 : a0.Kind = 0
    · replace H := ite_t c8 H
      refine V.condT (sb (decide_eq_true c8)) ?_
      refine V.seq ?_
      refine V.draw (es := [4, 11]) (bl := [12]) (f := [(17, Value.pointer (some ⟨nb1, 0 + 1, none⟩)), (18, Value.int .i64 (a0.Ns)), (19, Value.int .i64 (w64 (2 * a0.Ns))), (20, Value.int .i64 (a1)), (22, Value.pointer (some ⟨nb1, 0 + 2, none⟩)), (23, Value.int .i64 (a0.Nr)), (24, Value.int .i64 (w64 (2 * a0.Nr))), (25, Value.int .i64 (t6)), (26, Value.int .i64 (w64 ((w64 (2 * a0.Nr)) + t6))), (27, Value.int .i64 (a1))]) (fun w => Sep.St [blk nb1 (#[Value.int .i64 (a0.Kind), Value.int .i64 (a0.Ns), Value.int .i64 (a0.Nr), Value.bool (a0.Poll)]) 23, R] w0 w) mo HS.drew rfl ?_
      refine T.event _ [(19, Value.int .i64 (w64 (2 * a0.Ns))), (20, Value.int .i64 (a1))] rfl rfl ⟨⟨_, Value.pointer (some ⟨nb1, 0 + 1, none⟩), [(2, Value.pointer (some ⟨nb1, 0, none⟩))], 17, rfl, rfl, ⟨.inl ⟨rfl, rfl⟩, trivial⟩, .run rfl (fun w HS => X.fieldAddr 1 fo23_1 rfl), rfl, rfl, rfl⟩, ⟨_, Value.int .i64 (a0.Ns), [(17, Value.pointer (some ⟨nb1, 0 + 1, none⟩))], 18, rfl, rfl, ⟨.inr ⟨rfl, rfl⟩, trivial⟩, .run rfl (fun w HS => X.loadAt 0 HS rfl Try.underlying3 rfl rfl rfl), rfl, rfl, rfl⟩, ⟨_, Value.int .i64 (w64 (2 * a0.Ns)), [(18, Value.int .i64 (a0.Ns))], 19, rfl, rfl, ⟨.inr ⟨rfl, rfl⟩, trivial⟩, .run rfl (fun w HS => X.mul rfl rfl), rfl, rfl, rfl⟩, ⟨_, Value.int .i64 (a1), [(1, Value.int .i64 (a1))], 20, rfl, rfl, ⟨.inl ⟨rfl, rfl⟩, trivial⟩, .run rfl (fun w HS => X.move rfl), rfl, rfl, rfl⟩, ⟨_, Value.pointer (some ⟨nb1, 0 + 2, none⟩), [(2, Value.pointer (some ⟨nb1, 0, none⟩))], 22, rfl, rfl, ⟨.inl ⟨rfl, rfl⟩, trivial⟩, .run rfl (fun w HS => X.fieldAddr 2 fo23_2 rfl), rfl, rfl, rfl⟩, ⟨_, Value.int .i64 (a0.Nr), [(22, Value.pointer (some ⟨nb1, 0 + 2, none⟩))], 23, rfl, rfl, ⟨.inr ⟨rfl, rfl⟩, trivial⟩, .run rfl (fun w HS => X.loadAt 0 HS rfl Try.underlying3 rfl rfl rfl), rfl, rfl, rfl⟩, ⟨_, Value.int .i64 (w64 (2 * a0.Nr)), [(23, Value.int .i64 (a0.Nr))], 24, rfl, rfl, ⟨.inr ⟨rfl, rfl⟩, trivial⟩, .run rfl (fun w HS => X.mul rfl rfl), rfl, rfl, rfl⟩, ⟨_, Value.int .i64 (t6), [(5, Value.int .i64 (t6))], 25, rfl, rfl, ⟨.inl ⟨rfl, rfl⟩, trivial⟩, .run rfl (fun w HS => X.move rfl), rfl, rfl, rfl⟩, ⟨_, Value.int .i64 (w64 ((w64 (2 * a0.Nr)) + t6)), [(24, Value.int .i64 (w64 (2 * a0.Nr))), (25, Value.int .i64 (t6))], 26, rfl, rfl, ⟨.inr ⟨rfl, rfl⟩, ⟨.inr ⟨rfl, rfl⟩, trivial⟩⟩, .run rfl (fun w HS => X.add rfl rfl), rfl, rfl, rfl⟩, ⟨_, Value.int .i64 (a1), [(1, Value.int .i64 (a1))], 27, rfl, rfl, ⟨.inl ⟨rfl, rfl⟩, trivial⟩, .run rfl (fun w HS => X.move rfl), rfl, rfl, rfl⟩, trivial⟩ rfl ⟨.inr ⟨rfl, rfl⟩, ⟨.inr ⟨rfl, rfl⟩, trivial⟩⟩ (Or.inl rfl) (by intro d hd; cases hd; exact ⟨by decide, rfl, rfl⟩) [12] [0, 1, 2, 3] rfl rfl (fun w HS => ?_)
      have HS : Sep.St [blk nb1 (#[Value.int .i64 (a0.Kind), Value.int .i64 (a0.Ns), Value.int .i64 (a0.Nr), Value.bool (a0.Poll)]) 23, R] w0 w := HS
      replace HS := row_nil' (e := 5) 1 none HS
      have HS : Sep.St [row 5 1 (.slice none (([] : List Int)).length 0) (([] : List Int)).length ((([] : List Int)).map (Value.int .u8)), blk nb1 (#[Value.int .i64 (a0.Kind), Value.int .i64 (a0.Ns), Value.int .i64 (a0.Nr), Value.bool (a0.Poll)]) 23, R] w0 w := HS
      obtain ⟨t9, A10, H⟩ := bind_s H
      refine ⟨_, Y.call Try.func17 (by kernel_rfl) rfl (vs := [Value.slice none (([] : List Int)).length 0, Value.int .i64 (w64 (2 * a0.Ns)), Value.int .i64 (a1)]) rfl (control_put.calls ([] : List Int) (w64 (2 * a0.Ns)) a1 _ w0 _ none 0 t9  A10 (Sep.St.tailJoin (m := [row 5 1 (.slice none (([] : List Int)).length 0) (([] : List Int)).length ((([] : List Int)).map (Value.int .u8))]) (r := [blk nb1 (#[Value.int .i64 (a0.Kind), Value.int .i64 (a0.Ns), Value.int .i64 (a0.Nr), Value.bool (a0.Poll)]) 23, R]) HS)), ?_⟩
      rintro _ w ⟨at9_0, ct9_0, rfl, HS⟩
      replace HS := Sep.St.tailOpen (m := [row 5 1 (.slice at9_0 (t9).length ct9_0) (t9).length ((t9).map (Value.int .u8))]) (r := [blk nb1 (#[Value.int .i64 (a0.Kind), Value.int .i64 (a0.Ns), Value.int .i64 (a0.Nr), Value.bool (a0.Poll)]) 23, R]) HS
      have HS : Sep.St [row 5 1 (.slice at9_0 (t9).length ct9_0) (t9).length ((t9).map (Value.int .u8)), blk nb1 (#[Value.int .i64 (a0.Kind), Value.int .i64 (a0.Ns), Value.int .i64 (a0.Nr), Value.bool (a0.Poll)]) 23, R] w0 w := HS
      refine ⟨[(21, Value.slice at9_0 (t9).length ct9_0)], fun w => Sep.St [row 5 1 (.slice at9_0 (t9).length ct9_0) (t9).length ((t9).map (Value.int .u8)), blk nb1 (#[Value.int .i64 (a0.Kind), Value.int .i64 (a0.Ns), Value.int .i64 (a0.Nr), Value.bool (a0.Poll)]) 23, R] w0 w, ⟨.inl ⟨rfl, rfl⟩, trivial⟩, ?_, HS⟩
      refine T.event _ [(21, Value.slice at9_0 (t9).length ct9_0), (26, Value.int .i64 (w64 ((w64 (2 * a0.Nr)) + t6))), (27, Value.int .i64 (a1))] rfl rfl ⟨⟨_, Value.pointer (some ⟨nb1, 0 + 2, none⟩), [(2, Value.pointer (some ⟨nb1, 0, none⟩))], 22, rfl, rfl, ⟨.inl ⟨rfl, rfl⟩, trivial⟩, .run rfl (fun w HS => X.fieldAddr 2 fo23_2 rfl), rfl, rfl, rfl⟩, ⟨_, Value.int .i64 (a0.Nr), [(22, Value.pointer (some ⟨nb1, 0 + 2, none⟩))], 23, rfl, rfl, ⟨.inr ⟨rfl, rfl⟩, trivial⟩, .run rfl (fun w HS => X.loadAt 1 HS rfl Try.underlying3 rfl rfl rfl), rfl, rfl, rfl⟩, ⟨_, Value.int .i64 (w64 (2 * a0.Nr)), [(23, Value.int .i64 (a0.Nr))], 24, rfl, rfl, ⟨.inr ⟨rfl, rfl⟩, trivial⟩, .run rfl (fun w HS => X.mul rfl rfl), rfl, rfl, rfl⟩, ⟨_, Value.int .i64 (t6), [(5, Value.int .i64 (t6))], 25, rfl, rfl, ⟨.inl ⟨rfl, rfl⟩, trivial⟩, .run rfl (fun w HS => X.move rfl), rfl, rfl, rfl⟩, ⟨_, Value.int .i64 (w64 ((w64 (2 * a0.Nr)) + t6)), [(24, Value.int .i64 (w64 (2 * a0.Nr))), (25, Value.int .i64 (t6))], 26, rfl, rfl, ⟨.inr ⟨rfl, rfl⟩, ⟨.inr ⟨rfl, rfl⟩, trivial⟩⟩, .run rfl (fun w HS => X.add rfl rfl), rfl, rfl, rfl⟩, ⟨_, Value.int .i64 (a1), [(1, Value.int .i64 (a1))], 27, rfl, rfl, ⟨.inl ⟨rfl, rfl⟩, trivial⟩, .run rfl (fun w HS => X.move rfl), rfl, rfl, rfl⟩, trivial⟩ rfl ⟨.inr ⟨rfl, rfl⟩, ⟨.inr ⟨rfl, rfl⟩, ⟨.inr ⟨rfl, rfl⟩, trivial⟩⟩⟩ (Or.inl rfl) (by intro d hd; cases hd; exact ⟨by decide, rfl, rfl⟩) [] [5, 6, 7, 8, 9, 10] rfl rfl (fun w HS => ?_)
      have HS : Sep.St [row 5 1 (.slice at9_0 (t9).length ct9_0) (t9).length ((t9).map (Value.int .u8)), blk nb1 (#[Value.int .i64 (a0.Kind), Value.int .i64 (a0.Ns), Value.int .i64 (a0.Nr), Value.bool (a0.Poll)]) 23, R] w0 w := HS
      obtain ⟨t11, A12, H⟩ := bind_s H
      refine ⟨_, Y.call Try.func17 (by kernel_rfl) rfl (vs := [Value.slice at9_0 (t9).length ct9_0, Value.int .i64 (w64 ((w64 (2 * a0.Nr)) + t6)), Value.int .i64 (a1)]) rfl (control_put.calls t9 (w64 ((w64 (2 * a0.Nr)) + t6)) a1 _ w0 _ at9_0 ct9_0 t11  A12 (Sep.St.tailJoin (m := [row 5 1 (.slice at9_0 (t9).length ct9_0) (t9).length ((t9).map (Value.int .u8))]) (r := [blk nb1 (#[Value.int .i64 (a0.Kind), Value.int .i64 (a0.Ns), Value.int .i64 (a0.Nr), Value.bool (a0.Poll)]) 23, R]) HS)), ?_⟩
      rintro _ w ⟨at11_0, ct11_0, rfl, HS⟩
      replace HS := Sep.St.tailOpen (m := [row 5 1 (.slice at11_0 (t11).length ct11_0) (t11).length ((t11).map (Value.int .u8))]) (r := [blk nb1 (#[Value.int .i64 (a0.Kind), Value.int .i64 (a0.Ns), Value.int .i64 (a0.Nr), Value.bool (a0.Poll)]) 23, R]) HS
      have HS : Sep.St [row 5 1 (.slice at11_0 (t11).length ct11_0) (t11).length ((t11).map (Value.int .u8)), blk nb1 (#[Value.int .i64 (a0.Kind), Value.int .i64 (a0.Ns), Value.int .i64 (a0.Nr), Value.bool (a0.Poll)]) 23, R] w0 w := HS
      refine ⟨[(28, Value.slice at11_0 (t11).length ct11_0), (4, Value.slice at11_0 (t11).length ct11_0)], fun w => Sep.St [row 5 1 (.slice at11_0 (t11).length ct11_0) (t11).length ((t11).map (Value.int .u8)), blk nb1 (#[Value.int .i64 (a0.Kind), Value.int .i64 (a0.Ns), Value.int .i64 (a0.Nr), Value.bool (a0.Poll)]) 23, R] w0 w, ⟨.inl ⟨rfl, rfl⟩, ⟨.inr ⟨by decide, rfl⟩, trivial⟩⟩, ?_, HS⟩
      refine T.fin [(4, Value.slice at11_0 (t11).length ct11_0)] rfl ⟨⟨_, Value.slice at11_0 (t11).length ct11_0, [(28, Value.slice at11_0 (t11).length ct11_0)], 4, rfl, rfl, ⟨.inr ⟨rfl, rfl⟩, trivial⟩, .run rfl (fun w HS => X.assign rfl), rfl, rfl, rfl⟩, trivial⟩ ⟨.inr ⟨rfl, rfl⟩, trivial⟩ (fun w HS => ?_)
      have HS : Sep.St [row 5 1 (.slice at11_0 (t11).length ct11_0) (t11).length ((t11).map (Value.int .u8)), blk nb1 (#[Value.int .i64 (a0.Kind), Value.int .i64 (a0.Ns), Value.int .i64 (a0.Nr), Value.bool (a0.Poll)]) 23, R] w0 w := HS
      refine At.next ?_
      refine V.keep [(4, Value.slice at11_0 (t11).length ct11_0)] ⟨rfl, trivial⟩ ?_
      refine V.ret ?_
      refine At.blockRet ?_
      refine At.thenRet ?_
      replace HS := HS.sel [0, 2] [1] rfl
      cases H
      exact At.ret1 rfl rfl ⟨_, rfl, at11_0, ct11_0, rfl, HS⟩
    · replace H := ite_f c8 H
      refine V.condF (sb (decide_eq_false c8)) ?_
      refine V.seq ?_
      refine V.region ?_
      refine W.rd (X.cmp (decide (a0.Kind = 1)) rfl rfl rfl rfl) rfl rfl rfl ?_
      refine W.rd (X.assign rfl) rfl rfl rfl ?_
      refine W.nil ?_
      refine At.next ?_
      refine V.keep [(1, Value.int .i64 (a1)), (2, Value.pointer (some ⟨nb1, 0, none⟩)), (5, Value.int .i64 (t6)), (14, Value.int .i64 (a0.Kind)), (29, Value.bool (decide (a0.Kind = 1)))] ⟨rfl, rfl, rfl, rfl, rfl, trivial⟩ ?_
      by_cases c13 : a0.Kind = 1
      · replace H := ite_t c13 H
        refine V.condT (sb (decide_eq_true c13)) ?_
        refine V.seq ?_
        refine V.draw (es := [1, 8]) (bl := [9]) (f := [(31, Value.int .i64 (a1)), (33, Value.pointer (some ⟨nb1, 0 + 2, none⟩)), (34, Value.int .i64 (a0.Nr)), (35, Value.int .i64 (w64 (2 * a0.Nr))), (36, Value.int .i64 (t6)), (37, Value.int .i64 (w64 ((w64 (2 * a0.Nr)) + t6))), (38, Value.int .i64 (a1))]) (fun w => Sep.St [blk nb1 (#[Value.int .i64 (a0.Kind), Value.int .i64 (a0.Ns), Value.int .i64 (a0.Nr), Value.bool (a0.Poll)]) 23, R] w0 w) mo HS.drew rfl ?_
        refine T.event _ [(31, Value.int .i64 (a1))] rfl rfl ⟨⟨_, Value.int .i64 (a1), [(1, Value.int .i64 (a1))], 31, rfl, rfl, ⟨.inl ⟨rfl, rfl⟩, trivial⟩, .run rfl (fun w HS => X.move rfl), rfl, rfl, rfl⟩, ⟨_, Value.pointer (some ⟨nb1, 0 + 2, none⟩), [(2, Value.pointer (some ⟨nb1, 0, none⟩))], 33, rfl, rfl, ⟨.inl ⟨rfl, rfl⟩, trivial⟩, .run rfl (fun w HS => X.fieldAddr 2 fo23_2 rfl), rfl, rfl, rfl⟩, ⟨_, Value.int .i64 (a0.Nr), [(33, Value.pointer (some ⟨nb1, 0 + 2, none⟩))], 34, rfl, rfl, ⟨.inr ⟨rfl, rfl⟩, trivial⟩, .run rfl (fun w HS => X.loadAt 0 HS rfl Try.underlying3 rfl rfl rfl), rfl, rfl, rfl⟩, ⟨_, Value.int .i64 (w64 (2 * a0.Nr)), [(34, Value.int .i64 (a0.Nr))], 35, rfl, rfl, ⟨.inr ⟨rfl, rfl⟩, trivial⟩, .run rfl (fun w HS => X.mul rfl rfl), rfl, rfl, rfl⟩, ⟨_, Value.int .i64 (t6), [(5, Value.int .i64 (t6))], 36, rfl, rfl, ⟨.inl ⟨rfl, rfl⟩, trivial⟩, .run rfl (fun w HS => X.move rfl), rfl, rfl, rfl⟩, ⟨_, Value.int .i64 (w64 ((w64 (2 * a0.Nr)) + t6)), [(35, Value.int .i64 (w64 (2 * a0.Nr))), (36, Value.int .i64 (t6))], 37, rfl, rfl, ⟨.inr ⟨rfl, rfl⟩, ⟨.inr ⟨rfl, rfl⟩, trivial⟩⟩, .run rfl (fun w HS => X.add rfl rfl), rfl, rfl, rfl⟩, ⟨_, Value.int .i64 (a1), [(1, Value.int .i64 (a1))], 38, rfl, rfl, ⟨.inl ⟨rfl, rfl⟩, trivial⟩, .run rfl (fun w HS => X.move rfl), rfl, rfl, rfl⟩, trivial⟩ rfl ⟨.inr ⟨rfl, rfl⟩, trivial⟩ (Or.inl rfl) (by intro d hd; cases hd; exact ⟨by decide, rfl, rfl⟩) [9] [0] rfl rfl (fun w HS => ?_)
        have HS : Sep.St [blk nb1 (#[Value.int .i64 (a0.Kind), Value.int .i64 (a0.Ns), Value.int .i64 (a0.Nr), Value.bool (a0.Poll)]) 23, R] w0 w := HS
        replace HS := row_nil' (e := 5) 1 none HS
        have HS : Sep.St [row 5 1 (.slice none (([] : List Int)).length 0) (([] : List Int)).length ((([] : List Int)).map (Value.int .u8)), blk nb1 (#[Value.int .i64 (a0.Kind), Value.int .i64 (a0.Ns), Value.int .i64 (a0.Nr), Value.bool (a0.Poll)]) 23, R] w0 w := HS
        obtain ⟨t14, A15, H⟩ := bind_s H
        refine ⟨_, Y.call Try.func17 (by kernel_rfl) rfl (vs := [Value.slice none (([] : List Int)).length 0, Value.int .i64 (1), Value.int .i64 (a1)]) rfl (control_put.calls ([] : List Int) 1 a1 _ w0 _ none 0 t14  A15 (Sep.St.tailJoin (m := [row 5 1 (.slice none (([] : List Int)).length 0) (([] : List Int)).length ((([] : List Int)).map (Value.int .u8))]) (r := [blk nb1 (#[Value.int .i64 (a0.Kind), Value.int .i64 (a0.Ns), Value.int .i64 (a0.Nr), Value.bool (a0.Poll)]) 23, R]) HS)), ?_⟩
        rintro _ w ⟨at14_0, ct14_0, rfl, HS⟩
        replace HS := Sep.St.tailOpen (m := [row 5 1 (.slice at14_0 (t14).length ct14_0) (t14).length ((t14).map (Value.int .u8))]) (r := [blk nb1 (#[Value.int .i64 (a0.Kind), Value.int .i64 (a0.Ns), Value.int .i64 (a0.Nr), Value.bool (a0.Poll)]) 23, R]) HS
        have HS : Sep.St [row 5 1 (.slice at14_0 (t14).length ct14_0) (t14).length ((t14).map (Value.int .u8)), blk nb1 (#[Value.int .i64 (a0.Kind), Value.int .i64 (a0.Ns), Value.int .i64 (a0.Nr), Value.bool (a0.Poll)]) 23, R] w0 w := HS
        refine ⟨[(32, Value.slice at14_0 (t14).length ct14_0)], fun w => Sep.St [row 5 1 (.slice at14_0 (t14).length ct14_0) (t14).length ((t14).map (Value.int .u8)), blk nb1 (#[Value.int .i64 (a0.Kind), Value.int .i64 (a0.Ns), Value.int .i64 (a0.Nr), Value.bool (a0.Poll)]) 23, R] w0 w, ⟨.inl ⟨rfl, rfl⟩, trivial⟩, ?_, HS⟩
        refine T.event _ [(32, Value.slice at14_0 (t14).length ct14_0), (37, Value.int .i64 (w64 ((w64 (2 * a0.Nr)) + t6))), (38, Value.int .i64 (a1))] rfl rfl ⟨⟨_, Value.pointer (some ⟨nb1, 0 + 2, none⟩), [(2, Value.pointer (some ⟨nb1, 0, none⟩))], 33, rfl, rfl, ⟨.inl ⟨rfl, rfl⟩, trivial⟩, .run rfl (fun w HS => X.fieldAddr 2 fo23_2 rfl), rfl, rfl, rfl⟩, ⟨_, Value.int .i64 (a0.Nr), [(33, Value.pointer (some ⟨nb1, 0 + 2, none⟩))], 34, rfl, rfl, ⟨.inr ⟨rfl, rfl⟩, trivial⟩, .run rfl (fun w HS => X.loadAt 1 HS rfl Try.underlying3 rfl rfl rfl), rfl, rfl, rfl⟩, ⟨_, Value.int .i64 (w64 (2 * a0.Nr)), [(34, Value.int .i64 (a0.Nr))], 35, rfl, rfl, ⟨.inr ⟨rfl, rfl⟩, trivial⟩, .run rfl (fun w HS => X.mul rfl rfl), rfl, rfl, rfl⟩, ⟨_, Value.int .i64 (t6), [(5, Value.int .i64 (t6))], 36, rfl, rfl, ⟨.inl ⟨rfl, rfl⟩, trivial⟩, .run rfl (fun w HS => X.move rfl), rfl, rfl, rfl⟩, ⟨_, Value.int .i64 (w64 ((w64 (2 * a0.Nr)) + t6)), [(35, Value.int .i64 (w64 (2 * a0.Nr))), (36, Value.int .i64 (t6))], 37, rfl, rfl, ⟨.inr ⟨rfl, rfl⟩, ⟨.inr ⟨rfl, rfl⟩, trivial⟩⟩, .run rfl (fun w HS => X.add rfl rfl), rfl, rfl, rfl⟩, ⟨_, Value.int .i64 (a1), [(1, Value.int .i64 (a1))], 38, rfl, rfl, ⟨.inl ⟨rfl, rfl⟩, trivial⟩, .run rfl (fun w HS => X.move rfl), rfl, rfl, rfl⟩, trivial⟩ rfl ⟨.inr ⟨rfl, rfl⟩, ⟨.inr ⟨rfl, rfl⟩, ⟨.inr ⟨rfl, rfl⟩, trivial⟩⟩⟩ (Or.inl rfl) (by intro d hd; cases hd; exact ⟨by decide, rfl, rfl⟩) [] [2, 3, 4, 5, 6, 7] rfl rfl (fun w HS => ?_)
        have HS : Sep.St [row 5 1 (.slice at14_0 (t14).length ct14_0) (t14).length ((t14).map (Value.int .u8)), blk nb1 (#[Value.int .i64 (a0.Kind), Value.int .i64 (a0.Ns), Value.int .i64 (a0.Nr), Value.bool (a0.Poll)]) 23, R] w0 w := HS
        obtain ⟨t16, A17, H⟩ := bind_s H
        refine ⟨_, Y.call Try.func17 (by kernel_rfl) rfl (vs := [Value.slice at14_0 (t14).length ct14_0, Value.int .i64 (w64 ((w64 (2 * a0.Nr)) + t6)), Value.int .i64 (a1)]) rfl (control_put.calls t14 (w64 ((w64 (2 * a0.Nr)) + t6)) a1 _ w0 _ at14_0 ct14_0 t16  A17 (Sep.St.tailJoin (m := [row 5 1 (.slice at14_0 (t14).length ct14_0) (t14).length ((t14).map (Value.int .u8))]) (r := [blk nb1 (#[Value.int .i64 (a0.Kind), Value.int .i64 (a0.Ns), Value.int .i64 (a0.Nr), Value.bool (a0.Poll)]) 23, R]) HS)), ?_⟩
        rintro _ w ⟨at16_0, ct16_0, rfl, HS⟩
        replace HS := Sep.St.tailOpen (m := [row 5 1 (.slice at16_0 (t16).length ct16_0) (t16).length ((t16).map (Value.int .u8))]) (r := [blk nb1 (#[Value.int .i64 (a0.Kind), Value.int .i64 (a0.Ns), Value.int .i64 (a0.Nr), Value.bool (a0.Poll)]) 23, R]) HS
        have HS : Sep.St [row 5 1 (.slice at16_0 (t16).length ct16_0) (t16).length ((t16).map (Value.int .u8)), blk nb1 (#[Value.int .i64 (a0.Kind), Value.int .i64 (a0.Ns), Value.int .i64 (a0.Nr), Value.bool (a0.Poll)]) 23, R] w0 w := HS
        refine ⟨[(39, Value.slice at16_0 (t16).length ct16_0), (4, Value.slice at16_0 (t16).length ct16_0)], fun w => Sep.St [row 5 1 (.slice at16_0 (t16).length ct16_0) (t16).length ((t16).map (Value.int .u8)), blk nb1 (#[Value.int .i64 (a0.Kind), Value.int .i64 (a0.Ns), Value.int .i64 (a0.Nr), Value.bool (a0.Poll)]) 23, R] w0 w, ⟨.inl ⟨rfl, rfl⟩, ⟨.inr ⟨by decide, rfl⟩, trivial⟩⟩, ?_, HS⟩
        refine T.fin [(4, Value.slice at16_0 (t16).length ct16_0)] rfl ⟨⟨_, Value.slice at16_0 (t16).length ct16_0, [(39, Value.slice at16_0 (t16).length ct16_0)], 4, rfl, rfl, ⟨.inr ⟨rfl, rfl⟩, trivial⟩, .run rfl (fun w HS => X.assign rfl), rfl, rfl, rfl⟩, trivial⟩ ⟨.inr ⟨rfl, rfl⟩, trivial⟩ (fun w HS => ?_)
        have HS : Sep.St [row 5 1 (.slice at16_0 (t16).length ct16_0) (t16).length ((t16).map (Value.int .u8)), blk nb1 (#[Value.int .i64 (a0.Kind), Value.int .i64 (a0.Ns), Value.int .i64 (a0.Nr), Value.bool (a0.Poll)]) 23, R] w0 w := HS
        refine At.next ?_
        refine V.keep [(4, Value.slice at16_0 (t16).length ct16_0)] ⟨rfl, trivial⟩ ?_
        refine V.ret ?_
        refine At.blockRet ?_
        refine At.thenRet ?_
        replace HS := HS.sel [0, 2] [1] rfl
        cases H
        exact At.ret1 rfl rfl ⟨_, rfl, at16_0, ct16_0, rfl, HS⟩
      · replace H := ite_f c13 H
        refine V.condF (sb (decide_eq_false c13)) ?_
        refine V.seq ?_
        refine V.region ?_
        refine W.rd (X.cmp (decide (a0.Kind = 2)) rfl rfl rfl rfl) rfl rfl rfl ?_
        refine W.rd (X.assign rfl) rfl rfl rfl ?_
        refine W.nil ?_
        refine At.next ?_
        refine V.keep [(1, Value.int .i64 (a1)), (2, Value.pointer (some ⟨nb1, 0, none⟩)), (5, Value.int .i64 (t6)), (40, Value.bool (decide (a0.Kind = 2)))] ⟨rfl, rfl, rfl, rfl, trivial⟩ ?_
        by_cases c18 : a0.Kind = 2
        · replace H := ite_t c18 H
          refine V.condT (sb (decide_eq_true c18)) ?_
          refine V.seq ?_
          refine V.draw (es := [1, 8]) (bl := [9]) (f := [(42, Value.int .i64 (a1)), (44, Value.pointer (some ⟨nb1, 0 + 2, none⟩)), (45, Value.int .i64 (a0.Nr)), (46, Value.int .i64 (w64 (2 * a0.Nr))), (47, Value.int .i64 (t6)), (48, Value.int .i64 (w64 ((w64 (2 * a0.Nr)) + t6))), (49, Value.int .i64 (a1))]) (fun w => Sep.St [blk nb1 (#[Value.int .i64 (a0.Kind), Value.int .i64 (a0.Ns), Value.int .i64 (a0.Nr), Value.bool (a0.Poll)]) 23, R] w0 w) mo HS.drew rfl ?_
          refine T.event _ [(42, Value.int .i64 (a1))] rfl rfl ⟨⟨_, Value.int .i64 (a1), [(1, Value.int .i64 (a1))], 42, rfl, rfl, ⟨.inl ⟨rfl, rfl⟩, trivial⟩, .run rfl (fun w HS => X.move rfl), rfl, rfl, rfl⟩, ⟨_, Value.pointer (some ⟨nb1, 0 + 2, none⟩), [(2, Value.pointer (some ⟨nb1, 0, none⟩))], 44, rfl, rfl, ⟨.inl ⟨rfl, rfl⟩, trivial⟩, .run rfl (fun w HS => X.fieldAddr 2 fo23_2 rfl), rfl, rfl, rfl⟩, ⟨_, Value.int .i64 (a0.Nr), [(44, Value.pointer (some ⟨nb1, 0 + 2, none⟩))], 45, rfl, rfl, ⟨.inr ⟨rfl, rfl⟩, trivial⟩, .run rfl (fun w HS => X.loadAt 0 HS rfl Try.underlying3 rfl rfl rfl), rfl, rfl, rfl⟩, ⟨_, Value.int .i64 (w64 (2 * a0.Nr)), [(45, Value.int .i64 (a0.Nr))], 46, rfl, rfl, ⟨.inr ⟨rfl, rfl⟩, trivial⟩, .run rfl (fun w HS => X.mul rfl rfl), rfl, rfl, rfl⟩, ⟨_, Value.int .i64 (t6), [(5, Value.int .i64 (t6))], 47, rfl, rfl, ⟨.inl ⟨rfl, rfl⟩, trivial⟩, .run rfl (fun w HS => X.move rfl), rfl, rfl, rfl⟩, ⟨_, Value.int .i64 (w64 ((w64 (2 * a0.Nr)) + t6)), [(46, Value.int .i64 (w64 (2 * a0.Nr))), (47, Value.int .i64 (t6))], 48, rfl, rfl, ⟨.inr ⟨rfl, rfl⟩, ⟨.inr ⟨rfl, rfl⟩, trivial⟩⟩, .run rfl (fun w HS => X.add rfl rfl), rfl, rfl, rfl⟩, ⟨_, Value.int .i64 (a1), [(1, Value.int .i64 (a1))], 49, rfl, rfl, ⟨.inl ⟨rfl, rfl⟩, trivial⟩, .run rfl (fun w HS => X.move rfl), rfl, rfl, rfl⟩, trivial⟩ rfl ⟨.inr ⟨rfl, rfl⟩, trivial⟩ (Or.inl rfl) (by intro d hd; cases hd; exact ⟨by decide, rfl, rfl⟩) [9] [0] rfl rfl (fun w HS => ?_)
          have HS : Sep.St [blk nb1 (#[Value.int .i64 (a0.Kind), Value.int .i64 (a0.Ns), Value.int .i64 (a0.Nr), Value.bool (a0.Poll)]) 23, R] w0 w := HS
          replace HS := row_nil' (e := 5) 1 none HS
          have HS : Sep.St [row 5 1 (.slice none (([] : List Int)).length 0) (([] : List Int)).length ((([] : List Int)).map (Value.int .u8)), blk nb1 (#[Value.int .i64 (a0.Kind), Value.int .i64 (a0.Ns), Value.int .i64 (a0.Nr), Value.bool (a0.Poll)]) 23, R] w0 w := HS
          obtain ⟨t19, A20, H⟩ := bind_s H
          refine ⟨_, Y.call Try.func17 (by kernel_rfl) rfl (vs := [Value.slice none (([] : List Int)).length 0, Value.int .i64 (9), Value.int .i64 (a1)]) rfl (control_put.calls ([] : List Int) 9 a1 _ w0 _ none 0 t19  A20 (Sep.St.tailJoin (m := [row 5 1 (.slice none (([] : List Int)).length 0) (([] : List Int)).length ((([] : List Int)).map (Value.int .u8))]) (r := [blk nb1 (#[Value.int .i64 (a0.Kind), Value.int .i64 (a0.Ns), Value.int .i64 (a0.Nr), Value.bool (a0.Poll)]) 23, R]) HS)), ?_⟩
          rintro _ w ⟨at19_0, ct19_0, rfl, HS⟩
          replace HS := Sep.St.tailOpen (m := [row 5 1 (.slice at19_0 (t19).length ct19_0) (t19).length ((t19).map (Value.int .u8))]) (r := [blk nb1 (#[Value.int .i64 (a0.Kind), Value.int .i64 (a0.Ns), Value.int .i64 (a0.Nr), Value.bool (a0.Poll)]) 23, R]) HS
          have HS : Sep.St [row 5 1 (.slice at19_0 (t19).length ct19_0) (t19).length ((t19).map (Value.int .u8)), blk nb1 (#[Value.int .i64 (a0.Kind), Value.int .i64 (a0.Ns), Value.int .i64 (a0.Nr), Value.bool (a0.Poll)]) 23, R] w0 w := HS
          refine ⟨[(43, Value.slice at19_0 (t19).length ct19_0)], fun w => Sep.St [row 5 1 (.slice at19_0 (t19).length ct19_0) (t19).length ((t19).map (Value.int .u8)), blk nb1 (#[Value.int .i64 (a0.Kind), Value.int .i64 (a0.Ns), Value.int .i64 (a0.Nr), Value.bool (a0.Poll)]) 23, R] w0 w, ⟨.inl ⟨rfl, rfl⟩, trivial⟩, ?_, HS⟩
          refine T.event _ [(43, Value.slice at19_0 (t19).length ct19_0), (48, Value.int .i64 (w64 ((w64 (2 * a0.Nr)) + t6))), (49, Value.int .i64 (a1))] rfl rfl ⟨⟨_, Value.pointer (some ⟨nb1, 0 + 2, none⟩), [(2, Value.pointer (some ⟨nb1, 0, none⟩))], 44, rfl, rfl, ⟨.inl ⟨rfl, rfl⟩, trivial⟩, .run rfl (fun w HS => X.fieldAddr 2 fo23_2 rfl), rfl, rfl, rfl⟩, ⟨_, Value.int .i64 (a0.Nr), [(44, Value.pointer (some ⟨nb1, 0 + 2, none⟩))], 45, rfl, rfl, ⟨.inr ⟨rfl, rfl⟩, trivial⟩, .run rfl (fun w HS => X.loadAt 1 HS rfl Try.underlying3 rfl rfl rfl), rfl, rfl, rfl⟩, ⟨_, Value.int .i64 (w64 (2 * a0.Nr)), [(45, Value.int .i64 (a0.Nr))], 46, rfl, rfl, ⟨.inr ⟨rfl, rfl⟩, trivial⟩, .run rfl (fun w HS => X.mul rfl rfl), rfl, rfl, rfl⟩, ⟨_, Value.int .i64 (t6), [(5, Value.int .i64 (t6))], 47, rfl, rfl, ⟨.inl ⟨rfl, rfl⟩, trivial⟩, .run rfl (fun w HS => X.move rfl), rfl, rfl, rfl⟩, ⟨_, Value.int .i64 (w64 ((w64 (2 * a0.Nr)) + t6)), [(46, Value.int .i64 (w64 (2 * a0.Nr))), (47, Value.int .i64 (t6))], 48, rfl, rfl, ⟨.inr ⟨rfl, rfl⟩, ⟨.inr ⟨rfl, rfl⟩, trivial⟩⟩, .run rfl (fun w HS => X.add rfl rfl), rfl, rfl, rfl⟩, ⟨_, Value.int .i64 (a1), [(1, Value.int .i64 (a1))], 49, rfl, rfl, ⟨.inl ⟨rfl, rfl⟩, trivial⟩, .run rfl (fun w HS => X.move rfl), rfl, rfl, rfl⟩, trivial⟩ rfl ⟨.inr ⟨rfl, rfl⟩, ⟨.inr ⟨rfl, rfl⟩, ⟨.inr ⟨rfl, rfl⟩, trivial⟩⟩⟩ (Or.inl rfl) (by intro d hd; cases hd; exact ⟨by decide, rfl, rfl⟩) [] [2, 3, 4, 5, 6, 7] rfl rfl (fun w HS => ?_)
          have HS : Sep.St [row 5 1 (.slice at19_0 (t19).length ct19_0) (t19).length ((t19).map (Value.int .u8)), blk nb1 (#[Value.int .i64 (a0.Kind), Value.int .i64 (a0.Ns), Value.int .i64 (a0.Nr), Value.bool (a0.Poll)]) 23, R] w0 w := HS
          obtain ⟨t21, A22, H⟩ := bind_s H
          refine ⟨_, Y.call Try.func17 (by kernel_rfl) rfl (vs := [Value.slice at19_0 (t19).length ct19_0, Value.int .i64 (w64 ((w64 (2 * a0.Nr)) + t6)), Value.int .i64 (a1)]) rfl (control_put.calls t19 (w64 ((w64 (2 * a0.Nr)) + t6)) a1 _ w0 _ at19_0 ct19_0 t21  A22 (Sep.St.tailJoin (m := [row 5 1 (.slice at19_0 (t19).length ct19_0) (t19).length ((t19).map (Value.int .u8))]) (r := [blk nb1 (#[Value.int .i64 (a0.Kind), Value.int .i64 (a0.Ns), Value.int .i64 (a0.Nr), Value.bool (a0.Poll)]) 23, R]) HS)), ?_⟩
          rintro _ w ⟨at21_0, ct21_0, rfl, HS⟩
          replace HS := Sep.St.tailOpen (m := [row 5 1 (.slice at21_0 (t21).length ct21_0) (t21).length ((t21).map (Value.int .u8))]) (r := [blk nb1 (#[Value.int .i64 (a0.Kind), Value.int .i64 (a0.Ns), Value.int .i64 (a0.Nr), Value.bool (a0.Poll)]) 23, R]) HS
          have HS : Sep.St [row 5 1 (.slice at21_0 (t21).length ct21_0) (t21).length ((t21).map (Value.int .u8)), blk nb1 (#[Value.int .i64 (a0.Kind), Value.int .i64 (a0.Ns), Value.int .i64 (a0.Nr), Value.bool (a0.Poll)]) 23, R] w0 w := HS
          refine ⟨[(50, Value.slice at21_0 (t21).length ct21_0), (4, Value.slice at21_0 (t21).length ct21_0)], fun w => Sep.St [row 5 1 (.slice at21_0 (t21).length ct21_0) (t21).length ((t21).map (Value.int .u8)), blk nb1 (#[Value.int .i64 (a0.Kind), Value.int .i64 (a0.Ns), Value.int .i64 (a0.Nr), Value.bool (a0.Poll)]) 23, R] w0 w, ⟨.inl ⟨rfl, rfl⟩, ⟨.inr ⟨by decide, rfl⟩, trivial⟩⟩, ?_, HS⟩
          refine T.fin [(4, Value.slice at21_0 (t21).length ct21_0)] rfl ⟨⟨_, Value.slice at21_0 (t21).length ct21_0, [(50, Value.slice at21_0 (t21).length ct21_0)], 4, rfl, rfl, ⟨.inr ⟨rfl, rfl⟩, trivial⟩, .run rfl (fun w HS => X.assign rfl), rfl, rfl, rfl⟩, trivial⟩ ⟨.inr ⟨rfl, rfl⟩, trivial⟩ (fun w HS => ?_)
          have HS : Sep.St [row 5 1 (.slice at21_0 (t21).length ct21_0) (t21).length ((t21).map (Value.int .u8)), blk nb1 (#[Value.int .i64 (a0.Kind), Value.int .i64 (a0.Ns), Value.int .i64 (a0.Nr), Value.bool (a0.Poll)]) 23, R] w0 w := HS
          refine At.next ?_
          refine V.keep [(4, Value.slice at21_0 (t21).length ct21_0)] ⟨rfl, trivial⟩ ?_
          refine V.ret ?_
          refine At.blockRet ?_
          refine At.thenRet ?_
          replace HS := HS.sel [0, 2] [1] rfl
          cases H
          exact At.ret1 rfl rfl ⟨_, rfl, at21_0, ct21_0, rfl, HS⟩
        · replace H := ite_f c18 H
          refine V.condF (sb (decide_eq_false c18)) ?_
          refine V.skip ?_
          refine At.blockEnd ?_
          refine At.next ?_
          refine V.keep [(2, Value.pointer (some ⟨nb1, 0, none⟩)), (5, Value.int .i64 (t6))] ⟨rfl, rfl, trivial⟩ ?_
          refine V.seq ?_
          refine V.draw (es := [0, 10]) (bl := [4, 5, 9, 11]) (f := [(52, Value.pointer (some ⟨nb1, 0 + 0, none⟩)), (53, Value.int .i64 (a0.Kind)), (54, Value.int .i64 (w64 (a0.Kind - 3))), (57, Value.int .i64 (t6)), (58, Value.int .i64 (w64 (t6 * 16))), (59, Value.int .u8 (IntKind.u8.wrap (w64 (t6 * 16))))]) (fun w => Sep.St [blk nb1 (#[Value.int .i64 (a0.Kind), Value.int .i64 (a0.Ns), Value.int .i64 (a0.Nr), Value.bool (a0.Poll)]) 23, R] w0 w) mo HS.drew rfl ?_
          refine T.event _ [] rfl rfl ⟨⟨_, Value.pointer (some ⟨nb1, 0 + 0, none⟩), [(2, Value.pointer (some ⟨nb1, 0, none⟩))], 52, rfl, rfl, ⟨.inl ⟨rfl, rfl⟩, trivial⟩, .run rfl (fun w HS => X.fieldAddr 0 fo23_0 rfl), rfl, rfl, rfl⟩, ⟨_, Value.int .i64 (a0.Kind), [(52, Value.pointer (some ⟨nb1, 0 + 0, none⟩))], 53, rfl, rfl, ⟨.inr ⟨rfl, rfl⟩, trivial⟩, .run rfl (fun w HS => X.loadAt 0 HS rfl Try.underlying3 rfl rfl rfl), rfl, rfl, rfl⟩, ⟨_, Value.int .i64 (w64 (a0.Kind - 3)), [(53, Value.int .i64 (a0.Kind))], 54, rfl, rfl, ⟨.inr ⟨rfl, rfl⟩, trivial⟩, .run rfl (fun w HS => X.sub rfl rfl), rfl, rfl, rfl⟩, ⟨_, Value.int .i64 (t6), [(5, Value.int .i64 (t6))], 57, rfl, rfl, ⟨.inl ⟨rfl, rfl⟩, trivial⟩, .run rfl (fun w HS => X.move rfl), rfl, rfl, rfl⟩, ⟨_, Value.int .i64 (w64 (t6 * 16)), [(57, Value.int .i64 (t6))], 58, rfl, rfl, ⟨.inr ⟨rfl, rfl⟩, trivial⟩, .run rfl (fun w HS => X.mul rfl rfl), rfl, rfl, rfl⟩, ⟨_, Value.int .u8 (IntKind.u8.wrap (w64 (t6 * 16))), [(58, Value.int .i64 (w64 (t6 * 16)))], 59, rfl, rfl, ⟨.inr ⟨rfl, rfl⟩, trivial⟩, .run rfl (fun w HS => X.conv Try.underlying3 Try.underlying5 rfl), rfl, rfl, rfl⟩, trivial⟩ rfl trivial (Or.inl rfl) (by intro d hd; cases hd; exact ⟨by decide, rfl, rfl⟩) [11] [] rfl rfl (fun w HS => ?_)
          have HS : Sep.St [blk nb1 (#[Value.int .i64 (a0.Kind), Value.int .i64 (a0.Ns), Value.int .i64 (a0.Nr), Value.bool (a0.Poll)]) 23, R] w0 w := HS
          obtain ⟨t23, A24, H⟩ := bind_s H
          refine ⟨_, Y.call Try.func18 (by kernel_rfl) rfl (vs := []) rfl (control_plain.calls  _ w0 _  t23  A24 (Sep.St.tailJoin (m := []) (r := [blk nb1 (#[Value.int .i64 (a0.Kind), Value.int .i64 (a0.Ns), Value.int .i64 (a0.Nr), Value.bool (a0.Poll)]) 23, R]) HS)), ?_⟩
          rintro _ w ⟨at23_0, ct23_0, rfl, HS⟩
          replace HS := Sep.St.tailOpen (m := [row 5 1 (.slice at23_0 (t23).length ct23_0) (t23).length ((t23).map (Value.int .u8))]) (r := [blk nb1 (#[Value.int .i64 (a0.Kind), Value.int .i64 (a0.Ns), Value.int .i64 (a0.Nr), Value.bool (a0.Poll)]) 23, R]) HS
          have HS : Sep.St [row 5 1 (.slice at23_0 (t23).length ct23_0) (t23).length ((t23).map (Value.int .u8)), blk nb1 (#[Value.int .i64 (a0.Kind), Value.int .i64 (a0.Ns), Value.int .i64 (a0.Nr), Value.bool (a0.Poll)]) 23, R] w0 w := HS
          obtain ⟨c25, H⟩ := ite_n H
          obtain ⟨eb26, eo27, hh⟩ := ((rdC.at 0 row_rd HS rfl)).some (by decide) c25.1 c25.2; subst hh
          refine ⟨[(51, Value.slice (some ⟨eb26, eo27, none⟩) (t23).length ct23_0), (55, Value.pointer (some ⟨eb26, eo27 + (w64 (a0.Kind - 3)).toNat * 1, none⟩)), (56, Value.int .u8 ((t23).getD (w64 (a0.Kind - 3)).toNat 0)), (60, Value.int .u8 (ior .u8 ((t23).getD (w64 (a0.Kind - 3)).toNat 0) (IntKind.u8.wrap (w64 (t6 * 16)))))], fun w => Sep.St [row 5 1 (.slice (some ⟨eb26, eo27, none⟩) (t23).length ct23_0) (t23).length ((t23).map (Value.int .u8)), blk nb1 (#[Value.int .i64 (a0.Kind), Value.int .i64 (a0.Ns), Value.int .i64 (a0.Nr), Value.bool (a0.Poll)]) 23, R] w0 w, ⟨.inl ⟨rfl, rfl⟩, ⟨.inr ⟨by decide, rfl⟩, ⟨.inr ⟨by decide, rfl⟩, ⟨.inr ⟨by decide, rfl⟩, trivial⟩⟩⟩⟩, ?_, HS⟩
          refine T.event _ [(60, Value.int .u8 (ior .u8 ((t23).getD (w64 (a0.Kind - 3)).toNat 0) (IntKind.u8.wrap (w64 (t6 * 16)))))] rfl rfl ⟨⟨_, Value.pointer (some ⟨nb1, 0 + 0, none⟩), [(2, Value.pointer (some ⟨nb1, 0, none⟩))], 52, rfl, rfl, ⟨.inl ⟨rfl, rfl⟩, trivial⟩, .run rfl (fun w HS => X.fieldAddr 0 fo23_0 rfl), rfl, rfl, rfl⟩, ⟨_, Value.int .i64 (a0.Kind), [(52, Value.pointer (some ⟨nb1, 0 + 0, none⟩))], 53, rfl, rfl, ⟨.inr ⟨rfl, rfl⟩, trivial⟩, .run rfl (fun w HS => X.loadAt 1 HS rfl Try.underlying3 rfl rfl rfl), rfl, rfl, rfl⟩, ⟨_, Value.int .i64 (w64 (a0.Kind - 3)), [(53, Value.int .i64 (a0.Kind))], 54, rfl, rfl, ⟨.inr ⟨rfl, rfl⟩, trivial⟩, .run rfl (fun w HS => X.sub rfl rfl), rfl, rfl, rfl⟩, ⟨_, Value.pointer (some ⟨eb26, eo27 + (w64 (a0.Kind - 3)).toNat * 1, none⟩), [(51, Value.slice (some ⟨eb26, eo27, none⟩) (t23).length ct23_0), (54, Value.int .i64 (w64 (a0.Kind - 3)))], 55, rfl, rfl, ⟨.inr ⟨rfl, rfl⟩, ⟨.inr ⟨rfl, rfl⟩, trivial⟩⟩, .run rfl (fun w HS => X.indexSl Try.underlying26 inf5 rfl rfl c25.1 c25.2), rfl, rfl, rfl⟩, ⟨_, Value.int .u8 ((t23).getD (w64 (a0.Kind - 3)).toNat 0), [(55, Value.pointer (some ⟨eb26, eo27 + (w64 (a0.Kind - 3)).toNat * 1, none⟩))], 56, rfl, rfl, ⟨.inr ⟨rfl, rfl⟩, trivial⟩, .run rfl (fun w HS => X.load Try.underlying5 rfl rfl (((rdC.at 0 row_rd HS rfl)).cellI c25.1 c25.2)), rfl, rfl, rfl⟩, ⟨_, Value.int .i64 (t6), [(5, Value.int .i64 (t6))], 57, rfl, rfl, ⟨.inl ⟨rfl, rfl⟩, trivial⟩, .run rfl (fun w HS => X.move rfl), rfl, rfl, rfl⟩, ⟨_, Value.int .i64 (w64 (t6 * 16)), [(57, Value.int .i64 (t6))], 58, rfl, rfl, ⟨.inr ⟨rfl, rfl⟩, trivial⟩, .run rfl (fun w HS => X.mul rfl rfl), rfl, rfl, rfl⟩, ⟨_, Value.int .u8 (IntKind.u8.wrap (w64 (t6 * 16))), [(58, Value.int .i64 (w64 (t6 * 16)))], 59, rfl, rfl, ⟨.inr ⟨rfl, rfl⟩, trivial⟩, .run rfl (fun w HS => X.conv Try.underlying3 Try.underlying5 rfl), rfl, rfl, rfl⟩, ⟨_, Value.int .u8 (ior .u8 ((t23).getD (w64 (a0.Kind - 3)).toNat 0) (IntKind.u8.wrap (w64 (t6 * 16)))), [(56, Value.int .u8 ((t23).getD (w64 (a0.Kind - 3)).toNat 0)), (59, Value.int .u8 (IntKind.u8.wrap (w64 (t6 * 16))))], 60, rfl, rfl, ⟨.inr ⟨rfl, rfl⟩, ⟨.inr ⟨rfl, rfl⟩, trivial⟩⟩, .run rfl (fun w HS => X.or rfl rfl), rfl, rfl, rfl⟩, trivial⟩ rfl ⟨.inr ⟨rfl, rfl⟩, trivial⟩ (Or.inl rfl) (by intro d hd; cases hd; exact ⟨by decide, rfl, rfl⟩) [] [1, 2, 3, 4, 5, 6, 7, 8, 9] rfl rfl (fun w HS => ?_)
          have HS : Sep.St [row 5 1 (.slice (some ⟨eb26, eo27, none⟩) (t23).length ct23_0) (t23).length ((t23).map (Value.int .u8)), blk nb1 (#[Value.int .i64 (a0.Kind), Value.int .i64 (a0.Ns), Value.int .i64 (a0.Nr), Value.bool (a0.Poll)]) 23, R] w0 w := HS
          refine ⟨_, Y.litB (e := 5) (sz := 1) (vs := #[(0, Value.int .u8 (ior .u8 ((t23).getD (w64 (a0.Kind - 3)).toNat 0) (IntKind.u8.wrap (w64 (t6 * 16)))))]) [Value.int .u8 (ior .u8 ((t23).getD (w64 (a0.Kind - 3)).toNat 0) (IntKind.u8.wrap (w64 (t6 * 16))))] HS (fun a ha => by simp only [List.map_toArray, List.map_cons, List.map_nil]; rw [ha.ev (x := .tmp 60) (v := Value.int .u8 (ior .u8 ((t23).getD (w64 (a0.Kind - 3)).toNat 0) (IntKind.u8.wrap (w64 (t6 * 16))))) rfl]; try rfl) rfl (by decide) (fun _ => by kernel_rfl), ?_⟩
          rintro _ w ⟨lb30, rfl, HS⟩
          have HS : Sep.St [row 5 1 (.slice (some ⟨lb30, 0, none⟩) (([ior .u8 ((t23).getD (w64 (a0.Kind - 3)).toNat 0) (IntKind.u8.wrap (w64 (t6 * 16)))] : List Int)).length 1) (([ior .u8 ((t23).getD (w64 (a0.Kind - 3)).toNat 0) (IntKind.u8.wrap (w64 (t6 * 16)))] : List Int)).length ((([ior .u8 ((t23).getD (w64 (a0.Kind - 3)).toNat 0) (IntKind.u8.wrap (w64 (t6 * 16)))] : List Int)).map (Value.int .u8)), row 5 1 (.slice (some ⟨eb26, eo27, none⟩) (t23).length ct23_0) (t23).length ((t23).map (Value.int .u8)), blk nb1 (#[Value.int .i64 (a0.Kind), Value.int .i64 (a0.Ns), Value.int .i64 (a0.Nr), Value.bool (a0.Poll)]) 23, R] w0 w := HS
          refine ⟨[(61, Value.slice (some ⟨lb30, 0, none⟩) (([ior .u8 ((t23).getD (w64 (a0.Kind - 3)).toNat 0) (IntKind.u8.wrap (w64 (t6 * 16)))] : List Int)).length 1), (4, Value.slice (some ⟨lb30, 0, none⟩) (([ior .u8 ((t23).getD (w64 (a0.Kind - 3)).toNat 0) (IntKind.u8.wrap (w64 (t6 * 16)))] : List Int)).length 1)], fun w => Sep.St [row 5 1 (.slice (some ⟨lb30, 0, none⟩) (([ior .u8 ((t23).getD (w64 (a0.Kind - 3)).toNat 0) (IntKind.u8.wrap (w64 (t6 * 16)))] : List Int)).length 1) (([ior .u8 ((t23).getD (w64 (a0.Kind - 3)).toNat 0) (IntKind.u8.wrap (w64 (t6 * 16)))] : List Int)).length ((([ior .u8 ((t23).getD (w64 (a0.Kind - 3)).toNat 0) (IntKind.u8.wrap (w64 (t6 * 16)))] : List Int)).map (Value.int .u8)), row 5 1 (.slice (some ⟨eb26, eo27, none⟩) (t23).length ct23_0) (t23).length ((t23).map (Value.int .u8)), blk nb1 (#[Value.int .i64 (a0.Kind), Value.int .i64 (a0.Ns), Value.int .i64 (a0.Nr), Value.bool (a0.Poll)]) 23, R] w0 w, ⟨.inl ⟨rfl, rfl⟩, ⟨.inr ⟨by decide, rfl⟩, trivial⟩⟩, ?_, HS⟩
          refine T.fin [(4, Value.slice (some ⟨lb30, 0, none⟩) (([ior .u8 ((t23).getD (w64 (a0.Kind - 3)).toNat 0) (IntKind.u8.wrap (w64 (t6 * 16)))] : List Int)).length 1)] rfl ⟨⟨_, Value.slice (some ⟨lb30, 0, none⟩) (([ior .u8 ((t23).getD (w64 (a0.Kind - 3)).toNat 0) (IntKind.u8.wrap (w64 (t6 * 16)))] : List Int)).length 1, [(61, Value.slice (some ⟨lb30, 0, none⟩) (([ior .u8 ((t23).getD (w64 (a0.Kind - 3)).toNat 0) (IntKind.u8.wrap (w64 (t6 * 16)))] : List Int)).length 1)], 4, rfl, rfl, ⟨.inr ⟨rfl, rfl⟩, trivial⟩, .run rfl (fun w HS => X.assign rfl), rfl, rfl, rfl⟩, trivial⟩ ⟨.inr ⟨rfl, rfl⟩, trivial⟩ (fun w HS => ?_)
          have HS : Sep.St [row 5 1 (.slice (some ⟨lb30, 0, none⟩) (([ior .u8 ((t23).getD (w64 (a0.Kind - 3)).toNat 0) (IntKind.u8.wrap (w64 (t6 * 16)))] : List Int)).length 1) (([ior .u8 ((t23).getD (w64 (a0.Kind - 3)).toNat 0) (IntKind.u8.wrap (w64 (t6 * 16)))] : List Int)).length ((([ior .u8 ((t23).getD (w64 (a0.Kind - 3)).toNat 0) (IntKind.u8.wrap (w64 (t6 * 16)))] : List Int)).map (Value.int .u8)), row 5 1 (.slice (some ⟨eb26, eo27, none⟩) (t23).length ct23_0) (t23).length ((t23).map (Value.int .u8)), blk nb1 (#[Value.int .i64 (a0.Kind), Value.int .i64 (a0.Ns), Value.int .i64 (a0.Nr), Value.bool (a0.Poll)]) 23, R] w0 w := HS
          refine At.next ?_
          refine V.keep [(4, Value.slice (some ⟨lb30, 0, none⟩) (([ior .u8 ((t23).getD (w64 (a0.Kind - 3)).toNat 0) (IntKind.u8.wrap (w64 (t6 * 16)))] : List Int)).length 1)] ⟨rfl, trivial⟩ ?_
          refine V.ret ?_
          replace HS := HS.sel [0, 3] [1, 2] rfl
          cases H
          exact At.ret1 rfl rfl ⟨_, rfl, (some ⟨lb30, 0, none⟩), 1, rfl, HS⟩
  · replace H := ite_f c5 H
    refine V.condT (sb (n_f (b_f c5))) ?_
    refine V.seq ?_
    refine V.region ?_
    refine W.rd (X.assign rfl) rfl rfl rfl ?_
    refine W.nil ?_
    refine At.next ?_
    refine V.keep [(4, Value.slice none 0 0)] ⟨rfl, trivial⟩ ?_
    refine V.ret ?_
    refine At.thenRet ?_
    replace HS := row_nil' (e := 5) 1 none HS
    have HS : Sep.St [row 5 1 (.slice none (([] : List Int)).length 0) (([] : List Int)).length ((([] : List Int)).map (Value.int .u8)), blk nb1 (#[Value.int .i64 (a0.Kind), Value.int .i64 (a0.Ns), Value.int .i64 (a0.Nr), Value.bool (a0.Poll)]) 23, R] w0 w := HS
    replace HS := HS.sel [0, 2] [1] rfl
    cases H
    exact At.ret1 rfl rfl ⟨_, rfl, none, 0, rfl, HS⟩

/-! ### signalman/signalmanlaw12.alive: function 8 -/
def signalmanlaw12_alive.f  : Option (Bool) := ((control_Bytes.f ({ Kind := 0, Ns := 0, Nr := 0, Poll := false } : api_Ctl) 128).bind fun t1 => (if ((t1).length : Int) = 2 then (if 0 ≤ (0 : Int) ∧ (0 : Int) < ((t1).length : Int) then (if ((t1).getD ((0 : Int)).toNat 0) = 0 then (if 0 ≤ (1 : Int) ∧ (1 : Int) < ((t1).length : Int) then (if ((t1).getD ((1 : Int)).toNat 0) = 0 then ((control_Right.f ({ Kind := 4, Ns := 0, Nr := 0, Poll := false } : api_Ctl) 128).bind fun t10 => (if t10 = true then ((control_Right.f ({ Kind := 0, Ns := 0, Nr := 0, Poll := false } : api_Ctl) 8).bind fun t13 => some (!(t13))) else some (false))) else some (false)) else none) else some (false)) else none) else some (false)))
set_option maxRecDepth 100000 in
set_option maxHeartbeats 4000000 in
theorem signalmanlaw12_alive.calls  (R : As) (w0 w : World)  (r : Bool)  (H : signalmanlaw12_alive.f  = some r) (HS : Sep.St [R] w0 w) : Calls Try.prog 8 #[] w (Ret fun u w => u = Value.bool (r) ∧ Sep.St [R] w0 w) := by
  unfold signalmanlaw12_alive.f at H
  refine calls_enter Try.func8 rfl rfl ?_
  have H : _ = some r := H
  refine V.seq ?_
  refine V.region ?_
  refine W.rd (X.assign rfl) rfl rfl rfl ?_
  refine W.nil ?_
  refine At.next ?_
  refine V.keep [] trivial ?_
  refine V.seq ?_
  refine V.region ?_
  refine W.rd (X.build (vs := #[]) (v := Value.agg #[Value.int .i64 (0), Value.int .i64 (0), Value.int .i64 (0), Value.bool (false)]) (fun a ha => by simp only [List.map_toArray, List.map_cons, List.map_nil]; try rfl) (fun _ => by kernel_rfl)) rfl rfl rfl ?_
  obtain ⟨t1, A2, H⟩ := bind_s H
  refine W.ev (Y.call Try.func10 (by kernel_rfl) rfl (vs := [Value.agg #[Value.int .i64 (0), Value.int .i64 (0), Value.int .i64 (0), Value.bool (false)], Value.int .i64 (128)]) rfl (control_Bytes.calls ({ Kind := 0, Ns := 0, Nr := 0, Poll := false } : api_Ctl) 128 _ w0 _  t1  A2 (Sep.St.tailJoin (m := []) (r := [R]) HS))) rfl rfl rfl ?_
  rintro _ w ⟨at1_0, ct1_0, rfl, HS⟩
  replace HS := Sep.St.tailOpen (m := [row 5 1 (.slice at1_0 (t1).length ct1_0) (t1).length ((t1).map (Value.int .u8))]) (r := [R]) HS
  have HS : Sep.St [row 5 1 (.slice at1_0 (t1).length ct1_0) (t1).length ((t1).map (Value.int .u8)), R] w0 w := HS
  refine W.rd (X.assign rfl) rfl rfl rfl ?_
  refine W.nil ?_
  refine At.next ?_
  refine V.keep [(1, Value.slice at1_0 (t1).length ct1_0)] ⟨rfl, trivial⟩ ?_
  refine V.seq ?_
  refine V.region ?_
  refine W.rd (X.move rfl) rfl rfl rfl ?_
  refine W.rd (X.lenSl Try.underlying26 rfl) rfl rfl rfl ?_
  refine W.rd (X.cmp (decide (((t1).length : Int) = 2)) rfl rfl rfl rfl) rfl rfl rfl ?_
  refine W.rd (X.move rfl) rfl rfl rfl ?_
  by_cases c3 : ((t1).length : Int) = 2
  · replace H := ite_t c3 H
    refine W.want 7 rfl (sb (decide_eq_true c3)) ?_
    refine W.rd (X.move rfl) rfl rfl rfl ?_
    refine W.want 7 rfl (sb (decide_eq_true c3)) ?_
    obtain ⟨c4, H⟩ := ite_n H
    obtain ⟨eb5, eo6, hh⟩ := ((rdC.at 0 row_rd HS rfl)).some (by decide) c4.1 c4.2; subst hh
    refine W.rd (X.indexSl Try.underlying26 inf5 rfl rfl c4.1 c4.2) rfl rfl rfl ?_
    refine W.want 7 rfl (sb (decide_eq_true c3)) ?_
    refine W.rd (X.load Try.underlying5 rfl rfl (((rdC.at 0 row_rd HS rfl)).cellI c4.1 c4.2)) rfl rfl rfl ?_
    refine W.want 7 rfl (sb (decide_eq_true c3)) ?_
    refine W.rd (X.cmp (decide (((t1).getD ((0 : Int)).toNat 0) = 0)) rfl rfl rfl rfl) rfl rfl rfl ?_
    refine W.rd (X.pickT (sb (decide_eq_true c3)) rfl) rfl rfl rfl ?_
    refine W.rd (X.move rfl) rfl rfl rfl ?_
    by_cases c7 : ((t1).getD ((0 : Int)).toNat 0) = 0
    · replace H := ite_t c7 H
      refine W.want 13 rfl (sb (decide_eq_true c7)) ?_
      refine W.rd (X.move rfl) rfl rfl rfl ?_
      refine W.want 13 rfl (sb (decide_eq_true c7)) ?_
      obtain ⟨c8, H⟩ := ite_n H
      refine W.rd (X.indexSl Try.underlying26 inf5 rfl rfl c8.1 c8.2) rfl rfl rfl ?_
      refine W.want 13 rfl (sb (decide_eq_true c7)) ?_
      refine W.rd (X.load Try.underlying5 rfl rfl (((rdC.at 0 row_rd HS rfl)).cellI c8.1 c8.2)) rfl rfl rfl ?_
      refine W.want 13 rfl (sb (decide_eq_true c7)) ?_
      refine W.rd (X.cmp (decide (((t1).getD ((1 : Int)).toNat 0) = 0)) rfl rfl rfl rfl) rfl rfl rfl ?_
      refine W.rd (X.pickT (sb (decide_eq_true c7)) rfl) rfl rfl rfl ?_
      refine W.rd (X.move rfl) rfl rfl rfl ?_
      by_cases c9 : ((t1).getD ((1 : Int)).toNat 0) = 0
      · replace H := ite_t c9 H
        refine W.want 19 rfl (sb (decide_eq_true c9)) ?_
        refine W.rd (X.build (vs := #[(0, Value.int .i64 (4))]) (v := Value.agg #[Value.int .i64 (4), Value.int .i64 (0), Value.int .i64 (0), Value.bool (false)]) (fun a ha => by simp only [List.map_toArray, List.map_cons, List.map_nil]; try rfl) (fun _ => by kernel_rfl)) rfl rfl rfl ?_
        refine W.want 19 rfl (sb (decide_eq_true c9)) ?_
        obtain ⟨t10, A11, H⟩ := bind_s H
        refine W.ev (Y.call Try.func11 (by kernel_rfl) rfl (vs := [Value.agg #[Value.int .i64 (4), Value.int .i64 (0), Value.int .i64 (0), Value.bool (false)], Value.int .i64 (128)]) rfl (control_Right.calls ({ Kind := 4, Ns := 0, Nr := 0, Poll := false } : api_Ctl) 128 _ w0 _  t10  A11 (Sep.St.tailJoin (m := []) (r := [row 5 1 (.slice (some ⟨eb5, eo6, none⟩) (t1).length ct1_0) (t1).length ((t1).map (Value.int .u8)), R]) HS))) rfl rfl rfl ?_
        rintro _ w ⟨rfl, HS⟩
        replace HS := Sep.St.tailOpen (m := []) (r := [row 5 1 (.slice (some ⟨eb5, eo6, none⟩) (t1).length ct1_0) (t1).length ((t1).map (Value.int .u8)), R]) HS
        have HS : Sep.St [row 5 1 (.slice (some ⟨eb5, eo6, none⟩) (t1).length ct1_0) (t1).length ((t1).map (Value.int .u8)), R] w0 w := HS
        refine W.rd (X.pickT (sb (decide_eq_true c9)) rfl) rfl rfl rfl ?_
        refine W.rd (X.move rfl) rfl rfl rfl ?_
        by_cases c12 : t10 = true
        · replace H := ite_t c12 H
          refine W.want 23 rfl (sb c12) ?_
          refine W.rd (X.build (vs := #[]) (v := Value.agg #[Value.int .i64 (0), Value.int .i64 (0), Value.int .i64 (0), Value.bool (false)]) (fun a ha => by simp only [List.map_toArray, List.map_cons, List.map_nil]; try rfl) (fun _ => by kernel_rfl)) rfl rfl rfl ?_
          refine W.want 23 rfl (sb c12) ?_
          obtain ⟨t13, A14, H⟩ := bind_s H
          refine W.ev (Y.call Try.func11 (by kernel_rfl) rfl (vs := [Value.agg #[Value.int .i64 (0), Value.int .i64 (0), Value.int .i64 (0), Value.bool (false)], Value.int .i64 (8)]) rfl (control_Right.calls ({ Kind := 0, Ns := 0, Nr := 0, Poll := false } : api_Ctl) 8 _ w0 _  t13  A14 (Sep.St.tailJoin (m := []) (r := [row 5 1 (.slice (some ⟨eb5, eo6, none⟩) (t1).length ct1_0) (t1).length ((t1).map (Value.int .u8)), R]) HS))) rfl rfl rfl ?_
          rintro _ w ⟨rfl, HS⟩
          replace HS := Sep.St.tailOpen (m := []) (r := [row 5 1 (.slice (some ⟨eb5, eo6, none⟩) (t1).length ct1_0) (t1).length ((t1).map (Value.int .u8)), R]) HS
          have HS : Sep.St [row 5 1 (.slice (some ⟨eb5, eo6, none⟩) (t1).length ct1_0) (t1).length ((t1).map (Value.int .u8)), R] w0 w := HS
          refine W.want 23 rfl (sb c12) ?_
          refine W.rd (X.not rfl) rfl rfl rfl ?_
          refine W.rd (X.pickT (sb c12) rfl) rfl rfl rfl ?_
          refine W.rd (X.assign rfl) rfl rfl rfl ?_
          refine W.nil ?_
          refine At.next ?_
          refine V.keep [(0, Value.bool (!(t13)))] ⟨rfl, trivial⟩ ?_
          refine V.ret ?_
          replace HS := HS.sel [1] [0] rfl
          cases H
          exact At.ret1 rfl rfl ⟨_, rfl, rfl, HS⟩
        · replace H := ite_f c12 H
          refine W.pass 23 rfl (sb (b_f c12)) rfl rfl ?_
          refine W.pass 23 rfl (sb (b_f c12)) rfl rfl ?_
          refine W.pass 23 rfl (sb (b_f c12)) rfl rfl ?_
          refine W.rd (X.pickF (sb (b_f c12)) rfl) rfl rfl rfl ?_
          refine W.rd (X.assign rfl) rfl rfl rfl ?_
          refine W.nil ?_
          refine At.next ?_
          refine V.keep [(0, Value.bool (false))] ⟨rfl, trivial⟩ ?_
          refine V.ret ?_
          replace HS := HS.sel [1] [0] rfl
          cases H
          exact At.ret1 rfl rfl ⟨_, rfl, rfl, HS⟩
      · replace H := ite_f c9 H
        refine W.pass 19 rfl (sb (decide_eq_false c9)) rfl rfl ?_
        refine W.pass 19 rfl (sb (decide_eq_false c9)) rfl rfl ?_
        refine W.rd (X.pickF (sb (decide_eq_false c9)) rfl) rfl rfl rfl ?_
        refine W.rd (X.move rfl) rfl rfl rfl ?_
        refine W.pass 23 rfl rfl rfl rfl ?_
        refine W.pass 23 rfl rfl rfl rfl ?_
        refine W.pass 23 rfl rfl rfl rfl ?_
        refine W.rd (X.pickF rfl rfl) rfl rfl rfl ?_
        refine W.rd (X.assign rfl) rfl rfl rfl ?_
        refine W.nil ?_
        refine At.next ?_
        refine V.keep [(0, Value.bool (false))] ⟨rfl, trivial⟩ ?_
        refine V.ret ?_
        replace HS := HS.sel [1] [0] rfl
        cases H
        exact At.ret1 rfl rfl ⟨_, rfl, rfl, HS⟩
    · replace H := ite_f c7 H
      refine W.pass 13 rfl (sb (decide_eq_false c7)) rfl rfl ?_
      refine W.pass 13 rfl (sb (decide_eq_false c7)) rfl rfl ?_
      refine W.pass 13 rfl (sb (decide_eq_false c7)) rfl rfl ?_
      refine W.pass 13 rfl (sb (decide_eq_false c7)) rfl rfl ?_
      refine W.rd (X.pickF (sb (decide_eq_false c7)) rfl) rfl rfl rfl ?_
      refine W.rd (X.move rfl) rfl rfl rfl ?_
      refine W.pass 19 rfl rfl rfl rfl ?_
      refine W.pass 19 rfl rfl rfl rfl ?_
      refine W.rd (X.pickF rfl rfl) rfl rfl rfl ?_
      refine W.rd (X.move rfl) rfl rfl rfl ?_
      refine W.pass 23 rfl rfl rfl rfl ?_
      refine W.pass 23 rfl rfl rfl rfl ?_
      refine W.pass 23 rfl rfl rfl rfl ?_
      refine W.rd (X.pickF rfl rfl) rfl rfl rfl ?_
      refine W.rd (X.assign rfl) rfl rfl rfl ?_
      refine W.nil ?_
      refine At.next ?_
      refine V.keep [(0, Value.bool (false))] ⟨rfl, trivial⟩ ?_
      refine V.ret ?_
      replace HS := HS.sel [1] [0] rfl
      cases H
      exact At.ret1 rfl rfl ⟨_, rfl, rfl, HS⟩
  · replace H := ite_f c3 H
    refine W.pass 7 rfl (sb (decide_eq_false c3)) rfl rfl ?_
    refine W.pass 7 rfl (sb (decide_eq_false c3)) rfl rfl ?_
    refine W.pass 7 rfl (sb (decide_eq_false c3)) rfl rfl ?_
    refine W.pass 7 rfl (sb (decide_eq_false c3)) rfl rfl ?_
    refine W.rd (X.pickF (sb (decide_eq_false c3)) rfl) rfl rfl rfl ?_
    refine W.rd (X.move rfl) rfl rfl rfl ?_
    refine W.pass 13 rfl rfl rfl rfl ?_
    refine W.pass 13 rfl rfl rfl rfl ?_
    refine W.pass 13 rfl rfl rfl rfl ?_
    refine W.pass 13 rfl rfl rfl rfl ?_
    refine W.rd (X.pickF rfl rfl) rfl rfl rfl ?_
    refine W.rd (X.move rfl) rfl rfl rfl ?_
    refine W.pass 19 rfl rfl rfl rfl ?_
    refine W.pass 19 rfl rfl rfl rfl ?_
    refine W.rd (X.pickF rfl rfl) rfl rfl rfl ?_
    refine W.rd (X.move rfl) rfl rfl rfl ?_
    refine W.pass 23 rfl rfl rfl rfl ?_
    refine W.pass 23 rfl rfl rfl rfl ?_
    refine W.pass 23 rfl rfl rfl rfl ?_
    refine W.rd (X.pickF rfl rfl) rfl rfl rfl ?_
    refine W.rd (X.assign rfl) rfl rfl rfl ?_
    refine W.nil ?_
    refine At.next ?_
    refine V.keep [(0, Value.bool (false))] ⟨rfl, trivial⟩ ?_
    refine V.ret ?_
    replace HS := HS.sel [1] [0] rfl
    cases H
    exact At.ret1 rfl rfl ⟨_, rfl, rfl, HS⟩

/-! ### signalman/signalmanref6.RightCtl: function 9 -/
mutual
def signalmanref6_RightCtl.j3 (a0 : api_Ctl) (x4 : Bool) (x11 : Bool) : Option (Bool) := (if x11 = true then (if ((a0).Ns) = 0 then some (x4) else some (false)) else (if ((a0).Kind) ≥ 3 then (if ((a0).Kind) ≤ 7 then (if ((a0).Ns) = 0 then some (decide (((a0).Nr) = 0)) else some (false)) else some (false)) else some (false)))
def signalmanref6_RightCtl.j2 (a0 : api_Ctl) (x3 : Bool) (x4 : Bool) (x5 : Bool) : Option (Bool) := (if x5 = true then some (false) else (if ((a0).Kind) = 0 then (if x3 = true then some (x4) else some (false)) else (if ((a0).Kind) = 1 then (signalmanref6_RightCtl.j3 a0 x4 true) else (signalmanref6_RightCtl.j3 a0 x4 (decide (((a0).Kind) = 2))))))
def signalmanref6_RightCtl.j1 (a0 : api_Ctl) (a1 : Int) (x3 : Bool) (x4 : Bool) : Option (Bool) := (if a1 = 128 then (signalmanref6_RightCtl.j2 a0 x3 x4 false) else (signalmanref6_RightCtl.j2 a0 x3 x4 (!(decide (a1 = 32768)))))
def signalmanref6_RightCtl.j0 (a0 : api_Ctl) (a1 : Int) (x3 : Bool) : Option (Bool) := (if ((a0).Nr) ≥ 0 then (signalmanref6_RightCtl.j1 a0 a1 x3 (decide (((a0).Nr) < a1))) else (signalmanref6_RightCtl.j1 a0 a1 x3 false))
end
def signalmanref6_RightCtl.f (a0 : api_Ctl) (a1 : Int) : Option (Bool) := (if a0.Ns ≥ 0 then (signalmanref6_RightCtl.j0 a0 a1 (decide (a0.Ns < a1))) else (signalmanref6_RightCtl.j0 a0 a1 false))
set_option maxRecDepth 100000 in
set_option maxHeartbeats 4000000 in
theorem signalmanref6_RightCtl.calls (a0 : api_Ctl) (a1 : Int) (R : As) (w0 w : World)  (r : Bool)  (H : signalmanref6_RightCtl.f a0 a1 = some r) (HS : Sep.St [R] w0 w) : Calls Try.prog 9 #[Value.agg #[Value.int .i64 (a0.Kind), Value.int .i64 (a0.Ns), Value.int .i64 (a0.Nr), Value.bool (a0.Poll)], Value.int .i64 (a1)] w (Ret fun u w => u = Value.bool (r) ∧ Sep.St [R] w0 w) := by
  unfold signalmanref6_RightCtl.f at H
  refine calls_enter Try.func9 rfl rfl ?_
  have H : _ = some r := H
  refine V.seq ?_
  refine V.region ?_
  refine W.ev (Y.box HS rfl) rfl rfl rfl ?_
  rintro _ w ⟨nb1, rfl, HS⟩
  have HS : Sep.St [blk nb1 (#[Value.int .i64 (a0.Kind), Value.int .i64 (a0.Ns), Value.int .i64 (a0.Nr), Value.bool (a0.Poll)]) 23, R] w0 w := HS
  refine W.rd (X.assign rfl) rfl rfl rfl ?_
  refine W.nil ?_
  refine At.next ?_
  refine V.keep [(1, Value.int .i64 (a1)), (2, Value.pointer (some ⟨nb1, 0, none⟩))] ⟨rfl, rfl, trivial⟩ ?_
  refine V.meet (σ := Bool) (fun st w => match st with | x3 => Sep.St [api_Ctl.at nb1 (a0), R] w0 w ∧ signalmanref6_RightCtl.j0 a0 a1 x3 = some r) (fun st => match st with | x3 => [(1, Value.int .i64 (a1)), (2, Value.pointer (some ⟨nb1, 0, none⟩)), (5, Value.bool (x3))]) ?_ ?_
  · refine V.region ?_
    refine W.rd (X.fieldAddr 1 fo23_1 rfl) rfl rfl rfl ?_
    refine W.rd (X.loadAt 0 HS rfl Try.underlying3 rfl rfl rfl) rfl rfl rfl ?_
    refine W.rd (X.cmp (decide (a0.Ns ≥ 0)) rfl rfl rfl rfl) rfl rfl rfl ?_
    refine W.rd (X.move rfl) rfl rfl rfl ?_
    by_cases c26 : a0.Ns ≥ 0
    · replace H := ite_t c26 H
      refine W.want 10 rfl (sb (decide_eq_true c26)) ?_
      refine W.rd (X.fieldAddr 1 fo23_1 rfl) rfl rfl rfl ?_
      refine W.want 10 rfl (sb (decide_eq_true c26)) ?_
      refine W.rd (X.loadAt 0 HS rfl Try.underlying3 rfl rfl rfl) rfl rfl rfl ?_
      refine W.want 10 rfl (sb (decide_eq_true c26)) ?_
      refine W.rd (X.move rfl) rfl rfl rfl ?_
      refine W.want 10 rfl (sb (decide_eq_true c26)) ?_
      refine W.rd (X.cmp (decide (a0.Ns < a1)) rfl rfl rfl rfl) rfl rfl rfl ?_
      refine W.rd (X.pickT (sb (decide_eq_true c26)) rfl) rfl rfl rfl ?_
      refine W.rd (X.assign rfl) rfl rfl rfl ?_
      refine W.nil ?_
      replace HS := api_Ctl.close (a0) trivial HS
      have HS : Sep.St [api_Ctl.at nb1 (a0), R] w0 w := HS
      exact At.meet (decide (a0.Ns < a1)) ⟨rfl, rfl, rfl, trivial⟩ ⟨HS, H⟩
    · replace H := ite_f c26 H
      refine W.pass 10 rfl (sb (decide_eq_false c26)) rfl rfl ?_
      refine W.pass 10 rfl (sb (decide_eq_false c26)) rfl rfl ?_
      refine W.pass 10 rfl (sb (decide_eq_false c26)) rfl rfl ?_
      refine W.pass 10 rfl (sb (decide_eq_false c26)) rfl rfl ?_
      refine W.rd (X.pickF (sb (decide_eq_false c26)) rfl) rfl rfl rfl ?_
      refine W.rd (X.assign rfl) rfl rfl rfl ?_
      refine W.nil ?_
      replace HS := api_Ctl.close (a0) trivial HS
      have HS : Sep.St [api_Ctl.at nb1 (a0), R] w0 w := HS
      exact At.meet (false) ⟨rfl, rfl, rfl, trivial⟩ ⟨HS, H⟩
  · rintro x3 w ⟨HS, H⟩
    unfold signalmanref6_RightCtl.j0 at H
    have HS : Sep.St [api_Ctl.at nb1 (a0), R] w0 w := HS
    refine V.meet (σ := Bool) (fun st w => match st with | x4 => Sep.St [api_Ctl.at nb1 (a0), R] w0 w ∧ signalmanref6_RightCtl.j1 a0 a1 x3 x4 = some r) (fun st => match st with | x4 => [(1, Value.int .i64 (a1)), (2, Value.pointer (some ⟨nb1, 0, none⟩)), (5, Value.bool (x3)), (6, Value.bool (x4))]) ?_ ?_
    · refine V.region ?_
      obtain ⟨hi24, HS⟩ := api_Ctl.open HS
      have HS : Sep.St [blk nb1 (#[Value.int .i64 ((a0).Kind), Value.int .i64 ((a0).Ns), Value.int .i64 ((a0).Nr), Value.bool ((a0).Poll)]) 23, R] w0 w := HS
      refine W.rd (X.fieldAddr 2 fo23_2 rfl) rfl rfl rfl ?_
      refine W.rd (X.loadAt 0 HS rfl Try.underlying3 rfl rfl rfl) rfl rfl rfl ?_
      refine W.rd (X.cmp (decide (((a0).Nr) ≥ 0)) rfl rfl rfl rfl) rfl rfl rfl ?_
      refine W.rd (X.move rfl) rfl rfl rfl ?_
      by_cases c25 : ((a0).Nr) ≥ 0
      · replace H := ite_t c25 H
        refine W.want 19 rfl (sb (decide_eq_true c25)) ?_
        refine W.rd (X.fieldAddr 2 fo23_2 rfl) rfl rfl rfl ?_
        refine W.want 19 rfl (sb (decide_eq_true c25)) ?_
        refine W.rd (X.loadAt 0 HS rfl Try.underlying3 rfl rfl rfl) rfl rfl rfl ?_
        refine W.want 19 rfl (sb (decide_eq_true c25)) ?_
        refine W.rd (X.move rfl) rfl rfl rfl ?_
        refine W.want 19 rfl (sb (decide_eq_true c25)) ?_
        refine W.rd (X.cmp (decide (((a0).Nr) < a1)) rfl rfl rfl rfl) rfl rfl rfl ?_
        refine W.rd (X.pickT (sb (decide_eq_true c25)) rfl) rfl rfl rfl ?_
        refine W.rd (X.assign rfl) rfl rfl rfl ?_
        refine W.nil ?_
        replace HS := api_Ctl.close (a0) trivial HS
        have HS : Sep.St [api_Ctl.at nb1 (a0), R] w0 w := HS
        exact At.meet (decide (((a0).Nr) < a1)) ⟨rfl, rfl, rfl, rfl, trivial⟩ ⟨HS, H⟩
      · replace H := ite_f c25 H
        refine W.pass 19 rfl (sb (decide_eq_false c25)) rfl rfl ?_
        refine W.pass 19 rfl (sb (decide_eq_false c25)) rfl rfl ?_
        refine W.pass 19 rfl (sb (decide_eq_false c25)) rfl rfl ?_
        refine W.pass 19 rfl (sb (decide_eq_false c25)) rfl rfl ?_
        refine W.rd (X.pickF (sb (decide_eq_false c25)) rfl) rfl rfl rfl ?_
        refine W.rd (X.assign rfl) rfl rfl rfl ?_
        refine W.nil ?_
        replace HS := api_Ctl.close (a0) trivial HS
        have HS : Sep.St [api_Ctl.at nb1 (a0), R] w0 w := HS
        exact At.meet (false) ⟨rfl, rfl, rfl, rfl, trivial⟩ ⟨HS, H⟩
    · rintro x4 w ⟨HS, H⟩
      unfold signalmanref6_RightCtl.j1 at H
      have HS : Sep.St [api_Ctl.at nb1 (a0), R] w0 w := HS
      refine V.seq ?_
      refine V.meet (σ := Bool) (fun st w => match st with | x5 => Sep.St [api_Ctl.at nb1 (a0), R] w0 w ∧ signalmanref6_RightCtl.j2 a0 x3 x4 x5 = some r) (fun st => match st with | x5 => [(2, Value.pointer (some ⟨nb1, 0, none⟩)), (5, Value.bool (x3)), (6, Value.bool (x4)), (30, Value.bool (x5))]) ?_ ?_
      · refine V.region ?_
        refine W.rd (X.move rfl) rfl rfl rfl ?_
        refine W.rd (X.cmp (!(decide (a1 = 128))) rfl rfl rfl rfl) rfl rfl rfl ?_
        refine W.rd (X.move rfl) rfl rfl rfl ?_
        by_cases c22 : a1 = 128
        · replace H := ite_t c22 H
          refine W.pass 27 rfl (sb (n_t (decide_eq_true c22))) rfl rfl ?_
          refine W.pass 27 rfl (sb (n_t (decide_eq_true c22))) rfl rfl ?_
          refine W.rd (X.pickF (sb (n_t (decide_eq_true c22))) rfl) rfl rfl rfl ?_
          refine W.nil ?_
          exact At.meet (false) ⟨rfl, rfl, rfl, rfl, trivial⟩ ⟨HS, H⟩
        · replace H := ite_f c22 H
          refine W.want 27 rfl (sb (n_f (decide_eq_false c22))) ?_
          refine W.rd (X.move rfl) rfl rfl rfl ?_
          refine W.want 27 rfl (sb (n_f (decide_eq_false c22))) ?_
          refine W.rd (X.cmp (!(decide (a1 = 32768))) rfl rfl rfl rfl) rfl rfl rfl ?_
          refine W.rd (X.pickT (sb (n_f (decide_eq_false c22))) rfl) rfl rfl rfl ?_
          refine W.nil ?_
          exact At.meet (!(decide (a1 = 32768))) ⟨rfl, rfl, rfl, rfl, trivial⟩ ⟨HS, H⟩
      · rintro x5 w ⟨HS, H⟩
        unfold signalmanref6_RightCtl.j2 at H
        have HS : Sep.St [api_Ctl.at nb1 (a0), R] w0 w := HS
        by_cases c6 : x5 = true
        · replace H := ite_t c6 H
          refine V.condT (sb c6) ?_
          refine V.seq ?_
          refine V.region ?_
          refine W.rd (X.assign rfl) rfl rfl rfl ?_
          refine W.nil ?_
          refine At.next ?_
          refine V.keep [(4, Value.bool (false))] ⟨rfl, trivial⟩ ?_
          refine V.ret ?_
          refine At.thenRet ?_
          replace HS := HS.sel [1] [0] rfl
          cases H
          exact At.ret1 rfl rfl ⟨_, rfl, rfl, HS⟩
        · replace H := ite_f c6 H
          refine V.condF (sb (b_f c6)) ?_
          refine V.skip ?_
          refine At.next ?_
          refine V.keep [(2, Value.pointer (some ⟨nb1, 0, none⟩)), (5, Value.bool (x3)), (6, Value.bool (x4))] ⟨rfl, rfl, rfl, trivial⟩ ?_
          refine V.seq ?_
          refine V.block ?_
          refine V.seq ?_
          refine V.region ?_
          obtain ⟨hi8, HS⟩ := api_Ctl.open HS
          have HS : Sep.St [blk nb1 (#[Value.int .i64 ((a0).Kind), Value.int .i64 ((a0).Ns), Value.int .i64 ((a0).Nr), Value.bool ((a0).Poll)]) 23, R] w0 w := HS
          refine W.rd (X.fieldAddr 0 fo23_0 rfl) rfl rfl rfl ?_
          refine W.rd (X.loadAt 0 HS rfl Try.underlying3 rfl rfl rfl) rfl rfl rfl ?_
          refine W.rd (X.cmp (decide (((a0).Kind) = 0)) rfl rfl rfl rfl) rfl rfl rfl ?_
          refine W.rd (X.assign rfl) rfl rfl rfl ?_
          refine W.nil ?_
          refine At.next ?_
          refine V.keep [(2, Value.pointer (some ⟨nb1, 0, none⟩)), (5, Value.bool (x3)), (6, Value.bool (x4)), (31, Value.bool (decide (((a0).Kind) = 0)))] ⟨rfl, rfl, rfl, rfl, trivial⟩ ?_
          by_cases c9 : ((a0).Kind) = 0
          · replace H := ite_t c9 H
            refine V.condT (sb (decide_eq_true c9)) ?_
            refine V.seq ?_
            refine V.region ?_
            refine W.rd (X.move rfl) rfl rfl rfl ?_
            refine W.rd (X.move rfl) rfl rfl rfl ?_
            by_cases c10 : x3 = true
            · replace H := ite_t c10 H
              refine W.want 36 rfl (sb c10) ?_
              refine W.rd (X.move rfl) rfl rfl rfl ?_
              refine W.rd (X.pickT (sb c10) rfl) rfl rfl rfl ?_
              refine W.rd (X.assign rfl) rfl rfl rfl ?_
              refine W.nil ?_
              refine At.next ?_
              refine V.keep [(4, Value.bool (x4))] ⟨rfl, trivial⟩ ?_
              refine V.ret ?_
              refine At.blockRet ?_
              refine At.thenRet ?_
              replace HS := HS.sel [1] [0] rfl
              cases H
              exact At.ret1 rfl rfl ⟨_, rfl, rfl, HS⟩
            · replace H := ite_f c10 H
              refine W.pass 36 rfl (sb (b_f c10)) rfl rfl ?_
              refine W.rd (X.pickF (sb (b_f c10)) rfl) rfl rfl rfl ?_
              refine W.rd (X.assign rfl) rfl rfl rfl ?_
              refine W.nil ?_
              refine At.next ?_
              refine V.keep [(4, Value.bool (false))] ⟨rfl, trivial⟩ ?_
              refine V.ret ?_
              refine At.blockRet ?_
              refine At.thenRet ?_
              replace HS := HS.sel [1] [0] rfl
              cases H
              exact At.ret1 rfl rfl ⟨_, rfl, rfl, HS⟩
          · replace H := ite_f c9 H
            refine V.condF (sb (decide_eq_false c9)) ?_
            refine V.meet (σ := Bool) (fun st w => match st with | x11 => Sep.St [api_Ctl.at nb1 (a0), R] w0 w ∧ signalmanref6_RightCtl.j3 a0 x4 x11 = some r) (fun st => match st with | x11 => [(2, Value.pointer (some ⟨nb1, 0, none⟩)), (6, Value.bool (x4)), (39, Value.bool (x11))]) ?_ ?_
            · refine V.region ?_
              refine W.rd (X.fieldAddr 0 fo23_0 rfl) rfl rfl rfl ?_
              refine W.rd (X.loadAt 0 HS rfl Try.underlying3 rfl rfl rfl) rfl rfl rfl ?_
              refine W.rd (X.cmp (decide (((a0).Kind) = 1)) rfl rfl rfl rfl) rfl rfl rfl ?_
              refine W.rd (X.move rfl) rfl rfl rfl ?_
              by_cases c21 : ((a0).Kind) = 1
              · replace H := ite_t c21 H
                refine W.pass 43 rfl (sb (decide_eq_true c21)) rfl rfl ?_
                refine W.pass 43 rfl (sb (decide_eq_true c21)) rfl rfl ?_
                refine W.pass 43 rfl (sb (decide_eq_true c21)) rfl rfl ?_
                refine W.rd (X.pickT (sb (decide_eq_true c21)) rfl) rfl rfl rfl ?_
                refine W.rd (X.assign rfl) rfl rfl rfl ?_
                refine W.nil ?_
                replace HS := api_Ctl.close (a0) trivial HS
                have HS : Sep.St [api_Ctl.at nb1 (a0), R] w0 w := HS
                exact At.meet (true) ⟨rfl, rfl, rfl, trivial⟩ ⟨HS, H⟩
              · replace H := ite_f c21 H
                refine W.want 43 rfl (sb (decide_eq_false c21)) ?_
                refine W.rd (X.fieldAddr 0 fo23_0 rfl) rfl rfl rfl ?_
                refine W.want 43 rfl (sb (decide_eq_false c21)) ?_
                refine W.rd (X.loadAt 0 HS rfl Try.underlying3 rfl rfl rfl) rfl rfl rfl ?_
                refine W.want 43 rfl (sb (decide_eq_false c21)) ?_
                refine W.rd (X.cmp (decide (((a0).Kind) = 2)) rfl rfl rfl rfl) rfl rfl rfl ?_
                refine W.rd (X.pickF (sb (decide_eq_false c21)) rfl) rfl rfl rfl ?_
                refine W.rd (X.assign rfl) rfl rfl rfl ?_
                refine W.nil ?_
                replace HS := api_Ctl.close (a0) trivial HS
                have HS : Sep.St [api_Ctl.at nb1 (a0), R] w0 w := HS
                exact At.meet (decide (((a0).Kind) = 2)) ⟨rfl, rfl, rfl, trivial⟩ ⟨HS, H⟩
            · rintro x11 w ⟨HS, H⟩
              unfold signalmanref6_RightCtl.j3 at H
              have HS : Sep.St [api_Ctl.at nb1 (a0), R] w0 w := HS
              by_cases c12 : x11 = true
              · replace H := ite_t c12 H
                refine V.condT (sb c12) ?_
                refine V.seq ?_
                refine V.region ?_
                obtain ⟨hi14, HS⟩ := api_Ctl.open HS
                have HS : Sep.St [blk nb1 (#[Value.int .i64 ((a0).Kind), Value.int .i64 ((a0).Ns), Value.int .i64 ((a0).Nr), Value.bool ((a0).Poll)]) 23, R] w0 w := HS
                refine W.rd (X.fieldAddr 1 fo23_1 rfl) rfl rfl rfl ?_
                refine W.rd (X.loadAt 0 HS rfl Try.underlying3 rfl rfl rfl) rfl rfl rfl ?_
                refine W.rd (X.cmp (decide (((a0).Ns) = 0)) rfl rfl rfl rfl) rfl rfl rfl ?_
                refine W.rd (X.move rfl) rfl rfl rfl ?_
                by_cases c15 : ((a0).Ns) = 0
                · replace H := ite_t c15 H
                  refine W.want 51 rfl (sb (decide_eq_true c15)) ?_
                  refine W.rd (X.move rfl) rfl rfl rfl ?_
                  refine W.rd (X.pickT (sb (decide_eq_true c15)) rfl) rfl rfl rfl ?_
                  refine W.rd (X.assign rfl) rfl rfl rfl ?_
                  refine W.nil ?_
                  refine At.next ?_
                  refine V.keep [(4, Value.bool (x4))] ⟨rfl, trivial⟩ ?_
                  refine V.ret ?_
                  refine At.blockRet ?_
                  refine At.thenRet ?_
                  replace HS := HS.sel [1] [0] rfl
                  cases H
                  exact At.ret1 rfl rfl ⟨_, rfl, rfl, HS⟩
                · replace H := ite_f c15 H
                  refine W.pass 51 rfl (sb (decide_eq_false c15)) rfl rfl ?_
                  refine W.rd (X.pickF (sb (decide_eq_false c15)) rfl) rfl rfl rfl ?_
                  refine W.rd (X.assign rfl) rfl rfl rfl ?_
                  refine W.nil ?_
                  refine At.next ?_
                  refine V.keep [(4, Value.bool (false))] ⟨rfl, trivial⟩ ?_
                  refine V.ret ?_
                  refine At.blockRet ?_
                  refine At.thenRet ?_
                  replace HS := HS.sel [1] [0] rfl
                  cases H
                  exact At.ret1 rfl rfl ⟨_, rfl, rfl, HS⟩
              · replace H := ite_f c12 H
                refine V.condF (sb (b_f c12)) ?_
                refine V.skip ?_
                refine At.blockEnd ?_
                refine At.next ?_
                refine V.keep [(2, Value.pointer (some ⟨nb1, 0, none⟩))] ⟨rfl, trivial⟩ ?_
                refine V.seq ?_
                refine V.region ?_
                obtain ⟨hi17, HS⟩ := api_Ctl.open HS
                have HS : Sep.St [blk nb1 (#[Value.int .i64 ((a0).Kind), Value.int .i64 ((a0).Ns), Value.int .i64 ((a0).Nr), Value.bool ((a0).Poll)]) 23, R] w0 w := HS
                refine W.rd (X.fieldAddr 0 fo23_0 rfl) rfl rfl rfl ?_
                refine W.rd (X.loadAt 0 HS rfl Try.underlying3 rfl rfl rfl) rfl rfl rfl ?_
                refine W.rd (X.cmp (decide (((a0).Kind) ≥ 3)) rfl rfl rfl rfl) rfl rfl rfl ?_
                refine W.rd (X.move rfl) rfl rfl rfl ?_
                by_cases c18 : ((a0).Kind) ≥ 3
                · replace H := ite_t c18 H
                  refine W.want 57 rfl (sb (decide_eq_true c18)) ?_
                  refine W.rd (X.fieldAddr 0 fo23_0 rfl) rfl rfl rfl ?_
                  refine W.want 57 rfl (sb (decide_eq_true c18)) ?_
                  refine W.rd (X.loadAt 0 HS rfl Try.underlying3 rfl rfl rfl) rfl rfl rfl ?_
                  refine W.want 57 rfl (sb (decide_eq_true c18)) ?_
                  refine W.rd (X.cmp (decide (((a0).Kind) ≤ 7)) rfl rfl rfl rfl) rfl rfl rfl ?_
                  refine W.rd (X.pickT (sb (decide_eq_true c18)) rfl) rfl rfl rfl ?_
                  refine W.rd (X.move rfl) rfl rfl rfl ?_
                  by_cases c19 : ((a0).Kind) ≤ 7
                  · replace H := ite_t c19 H
                    refine W.want 62 rfl (sb (decide_eq_true c19)) ?_
                    refine W.rd (X.fieldAddr 1 fo23_1 rfl) rfl rfl rfl ?_
                    refine W.want 62 rfl (sb (decide_eq_true c19)) ?_
                    refine W.rd (X.loadAt 0 HS rfl Try.underlying3 rfl rfl rfl) rfl rfl rfl ?_
                    refine W.want 62 rfl (sb (decide_eq_true c19)) ?_
                    refine W.rd (X.cmp (decide (((a0).Ns) = 0)) rfl rfl rfl rfl) rfl rfl rfl ?_
                    refine W.rd (X.pickT (sb (decide_eq_true c19)) rfl) rfl rfl rfl ?_
                    refine W.rd (X.move rfl) rfl rfl rfl ?_
                    by_cases c20 : ((a0).Ns) = 0
                    · replace H := ite_t c20 H
                      refine W.want 67 rfl (sb (decide_eq_true c20)) ?_
                      refine W.rd (X.fieldAddr 2 fo23_2 rfl) rfl rfl rfl ?_
                      refine W.want 67 rfl (sb (decide_eq_true c20)) ?_
                      refine W.rd (X.loadAt 0 HS rfl Try.underlying3 rfl rfl rfl) rfl rfl rfl ?_
                      refine W.want 67 rfl (sb (decide_eq_true c20)) ?_
                      refine W.rd (X.cmp (decide (((a0).Nr) = 0)) rfl rfl rfl rfl) rfl rfl rfl ?_
                      refine W.rd (X.pickT (sb (decide_eq_true c20)) rfl) rfl rfl rfl ?_
                      refine W.rd (X.assign rfl) rfl rfl rfl ?_
                      refine W.nil ?_
                      refine At.next ?_
                      refine V.keep [(4, Value.bool (decide (((a0).Nr) = 0)))] ⟨rfl, trivial⟩ ?_
                      refine V.ret ?_
                      replace HS := HS.sel [1] [0] rfl
                      cases H
                      exact At.ret1 rfl rfl ⟨_, rfl, rfl, HS⟩
                    · replace H := ite_f c20 H
                      refine W.pass 67 rfl (sb (decide_eq_false c20)) rfl rfl ?_
                      refine W.pass 67 rfl (sb (decide_eq_false c20)) rfl rfl ?_
                      refine W.pass 67 rfl (sb (decide_eq_false c20)) rfl rfl ?_
                      refine W.rd (X.pickF (sb (decide_eq_false c20)) rfl) rfl rfl rfl ?_
                      refine W.rd (X.assign rfl) rfl rfl rfl ?_
                      refine W.nil ?_
                      refine At.next ?_
                      refine V.keep [(4, Value.bool (false))] ⟨rfl, trivial⟩ ?_
                      refine V.ret ?_
                      replace HS := HS.sel [1] [0] rfl
                      cases H
                      exact At.ret1 rfl rfl ⟨_, rfl, rfl, HS⟩
                  · replace H := ite_f c19 H
                    refine W.pass 62 rfl (sb (decide_eq_false c19)) rfl rfl ?_
                    refine W.pass 62 rfl (sb (decide_eq_false c19)) rfl rfl ?_
                    refine W.pass 62 rfl (sb (decide_eq_false c19)) rfl rfl ?_
                    refine W.rd (X.pickF (sb (decide_eq_false c19)) rfl) rfl rfl rfl ?_
                    refine W.rd (X.move rfl) rfl rfl rfl ?_
                    refine W.pass 67 rfl rfl rfl rfl ?_
                    refine W.pass 67 rfl rfl rfl rfl ?_
                    refine W.pass 67 rfl rfl rfl rfl ?_
                    refine W.rd (X.pickF rfl rfl) rfl rfl rfl ?_
                    refine W.rd (X.assign rfl) rfl rfl rfl ?_
                    refine W.nil ?_
                    refine At.next ?_
                    refine V.keep [(4, Value.bool (false))] ⟨rfl, trivial⟩ ?_
                    refine V.ret ?_
                    replace HS := HS.sel [1] [0] rfl
                    cases H
                    exact At.ret1 rfl rfl ⟨_, rfl, rfl, HS⟩
                · replace H := ite_f c18 H
                  refine W.pass 57 rfl (sb (decide_eq_false c18)) rfl rfl ?_
                  refine W.pass 57 rfl (sb (decide_eq_false c18)) rfl rfl ?_
                  refine W.pass 57 rfl (sb (decide_eq_false c18)) rfl rfl ?_
                  refine W.rd (X.pickF (sb (decide_eq_false c18)) rfl) rfl rfl rfl ?_
                  refine W.rd (X.move rfl) rfl rfl rfl ?_
                  refine W.pass 62 rfl rfl rfl rfl ?_
                  refine W.pass 62 rfl rfl rfl rfl ?_
                  refine W.pass 62 rfl rfl rfl rfl ?_
                  refine W.rd (X.pickF rfl rfl) rfl rfl rfl ?_
                  refine W.rd (X.move rfl) rfl rfl rfl ?_
                  refine W.pass 67 rfl rfl rfl rfl ?_
                  refine W.pass 67 rfl rfl rfl rfl ?_
                  refine W.pass 67 rfl rfl rfl rfl ?_
                  refine W.rd (X.pickF rfl rfl) rfl rfl rfl ?_
                  refine W.rd (X.assign rfl) rfl rfl rfl ?_
                  refine W.nil ?_
                  refine At.next ?_
                  refine V.keep [(4, Value.bool (false))] ⟨rfl, trivial⟩ ?_
                  refine V.ret ?_
                  replace HS := HS.sel [1] [0] rfl
                  cases H
                  exact At.ret1 rfl rfl ⟨_, rfl, rfl, HS⟩

/-! ### signalman/signalmanref6.field: function 21 -/
def signalmanref6_field.f (a0 : Int) (a1 : Int) (a2 : Int) : Option (List Int) := (if a2 = 128 then some (([IntKind.u8.wrap (w64 ((w64 (a0 * 2)) + a1))] : List Int)) else some (([IntKind.u8.wrap (iand .i64 (w64 ((w64 (a0 * 2)) + a1)) (255)), IntKind.u8.wrap ((w64 ((w64 (a0 * 2)) + a1)).fdiv (2 ^ (min ((8 : Int)).toNat IntKind.i64.bits)))] : List Int)))
set_option maxRecDepth 100000 in
set_option maxHeartbeats 4000000 in
theorem signalmanref6_field.calls (a0 : Int) (a1 : Int) (a2 : Int) (R : As) (w0 w : World)  (r : List Int)  (H : signalmanref6_field.f a0 a1 a2 = some r) (HS : Sep.St [R] w0 w) : Calls Try.prog 21 #[Value.int .i64 (a0), Value.int .i64 (a1), Value.int .i64 (a2)] w (Ret fun u w => ∃ (aq0 : Option Addr) (cq0 : Nat), u = Value.slice aq0 (r).length cq0 ∧ Sep.St [row 5 1 (.slice aq0 (r).length cq0) (r).length ((r).map (Value.int .u8)), R] w0 w) := by
  unfold signalmanref6_field.f at H
  refine calls_enter Try.func21 rfl rfl ?_
  have H : _ = some r := H
  refine V.seq ?_
  refine V.region ?_
  refine W.rd (X.assign rfl) rfl rfl rfl ?_
  refine W.nil ?_
  refine At.next ?_
  refine V.keep [(0, Value.int .i64 (a0)), (1, Value.int .i64 (a1)), (2, Value.int .i64 (a2))] ⟨rfl, rfl, rfl, trivial⟩ ?_
  refine V.seq ?_
  refine V.region ?_
  refine W.rd (X.move rfl) rfl rfl rfl ?_
  refine W.rd (X.mul rfl rfl) rfl rfl rfl ?_
  refine W.rd (X.move rfl) rfl rfl rfl ?_
  refine W.rd (X.add rfl rfl) rfl rfl rfl ?_
  refine W.rd (X.assign rfl) rfl rfl rfl ?_
  refine W.nil ?_
  refine At.next ?_
  refine V.keep [(2, Value.int .i64 (a2)), (7, Value.int .i64 (w64 ((w64 (a0 * 2)) + a1)))] ⟨rfl, rfl, trivial⟩ ?_
  refine V.seq ?_
  refine V.seq ?_
  refine V.region ?_
  refine W.rd (X.move rfl) rfl rfl rfl ?_
  refine W.rd (X.cmp (decide (a2 = 128)) rfl rfl rfl rfl) rfl rfl rfl ?_
  refine W.nil ?_
  refine At.next ?_
  refine V.keep [(7, Value.int .i64 (w64 ((w64 (a0 * 2)) + a1))), (13, Value.bool (decide (a2 = 128)))] ⟨rfl, rfl, trivial⟩ ?_
  by_cases c1 : a2 = 128
  · replace H := ite_t c1 H
    refine V.condT (sb (decide_eq_true c1)) ?_
    refine V.seq ?_
    refine V.region ?_
    refine W.rd (X.move rfl) rfl rfl rfl ?_
    refine W.rd (X.conv Try.underlying3 Try.underlying5 rfl) rfl rfl rfl ?_
    refine W.ev (Y.litB (e := 5) (sz := 1) (vs := #[(0, Value.int .u8 (IntKind.u8.wrap (w64 ((w64 (a0 * 2)) + a1))))]) [Value.int .u8 (IntKind.u8.wrap (w64 ((w64 (a0 * 2)) + a1)))] HS (fun a ha => by simp only [List.map_toArray, List.map_cons, List.map_nil]; rw [ha.ev (x := .tmp 15) (v := Value.int .u8 (IntKind.u8.wrap (w64 ((w64 (a0 * 2)) + a1)))) rfl]; try rfl) rfl (by decide) (fun _ => by kernel_rfl)) rfl rfl rfl ?_
    rintro _ w ⟨lb4, rfl, HS⟩
    have HS : Sep.St [row 5 1 (.slice (some ⟨lb4, 0, none⟩) (([IntKind.u8.wrap (w64 ((w64 (a0 * 2)) + a1))] : List Int)).length 1) (([IntKind.u8.wrap (w64 ((w64 (a0 * 2)) + a1))] : List Int)).length ((([IntKind.u8.wrap (w64 ((w64 (a0 * 2)) + a1))] : List Int)).map (Value.int .u8)), R] w0 w := HS
    refine W.rd (X.assign rfl) rfl rfl rfl ?_
    refine W.nil ?_
    refine At.next ?_
    refine V.keep [(6, Value.slice (some ⟨lb4, 0, none⟩) (([IntKind.u8.wrap (w64 ((w64 (a0 * 2)) + a1))] : List Int)).length 1)] ⟨rfl, trivial⟩ ?_
    refine V.ret ?_
    refine At.thenRet ?_
    cases H
    exact At.ret1 rfl rfl ⟨_, rfl, (some ⟨lb4, 0, none⟩), 1, rfl, HS⟩
  · replace H := ite_f c1 H
    refine V.condF (sb (decide_eq_false c1)) ?_
    refine V.skip ?_
    refine At.next ?_
    refine V.keep [(7, Value.int .i64 (w64 ((w64 (a0 * 2)) + a1)))] ⟨rfl, trivial⟩ ?_
    refine V.seq ?_
    refine V.region ?_
    refine W.rd (X.move rfl) rfl rfl rfl ?_
    refine W.rd (X.and rfl rfl) rfl rfl rfl ?_
    refine W.rd (X.conv Try.underlying3 Try.underlying5 rfl) rfl rfl rfl ?_
    refine W.rd (X.move rfl) rfl rfl rfl ?_
    refine W.rd (X.shr rfl rfl (by decide)) rfl rfl rfl ?_
    refine W.rd (X.conv Try.underlying3 Try.underlying5 rfl) rfl rfl rfl ?_
    refine W.ev (Y.litB (e := 5) (sz := 1) (vs := #[(0, Value.int .u8 (IntKind.u8.wrap (iand .i64 (w64 ((w64 (a0 * 2)) + a1)) (255)))), (1, Value.int .u8 (IntKind.u8.wrap ((w64 ((w64 (a0 * 2)) + a1)).fdiv (2 ^ (min ((8 : Int)).toNat IntKind.i64.bits)))))]) [Value.int .u8 (IntKind.u8.wrap (iand .i64 (w64 ((w64 (a0 * 2)) + a1)) (255))), Value.int .u8 (IntKind.u8.wrap ((w64 ((w64 (a0 * 2)) + a1)).fdiv (2 ^ (min ((8 : Int)).toNat IntKind.i64.bits))))] HS (fun a ha => by simp only [List.map_toArray, List.map_cons, List.map_nil]; rw [ha.ev (x := .tmp 19) (v := Value.int .u8 (IntKind.u8.wrap (iand .i64 (w64 ((w64 (a0 * 2)) + a1)) (255)))) rfl]; rw [ha.ev (x := .tmp 22) (v := Value.int .u8 (IntKind.u8.wrap ((w64 ((w64 (a0 * 2)) + a1)).fdiv (2 ^ (min ((8 : Int)).toNat IntKind.i64.bits))))) rfl]; try rfl) rfl (by decide) (fun _ => by kernel_rfl)) rfl rfl rfl ?_
    rintro _ w ⟨lb7, rfl, HS⟩
    have HS : Sep.St [row 5 1 (.slice (some ⟨lb7, 0, none⟩) (([IntKind.u8.wrap (iand .i64 (w64 ((w64 (a0 * 2)) + a1)) (255)), IntKind.u8.wrap ((w64 ((w64 (a0 * 2)) + a1)).fdiv (2 ^ (min ((8 : Int)).toNat IntKind.i64.bits)))] : List Int)).length 2) (([IntKind.u8.wrap (iand .i64 (w64 ((w64 (a0 * 2)) + a1)) (255)), IntKind.u8.wrap ((w64 ((w64 (a0 * 2)) + a1)).fdiv (2 ^ (min ((8 : Int)).toNat IntKind.i64.bits)))] : List Int)).length ((([IntKind.u8.wrap (iand .i64 (w64 ((w64 (a0 * 2)) + a1)) (255)), IntKind.u8.wrap ((w64 ((w64 (a0 * 2)) + a1)).fdiv (2 ^ (min ((8 : Int)).toNat IntKind.i64.bits)))] : List Int)).map (Value.int .u8)), R] w0 w := HS
    refine W.rd (X.assign rfl) rfl rfl rfl ?_
    refine W.nil ?_
    refine At.next ?_
    refine V.keep [(6, Value.slice (some ⟨lb7, 0, none⟩) (([IntKind.u8.wrap (iand .i64 (w64 ((w64 (a0 * 2)) + a1)) (255)), IntKind.u8.wrap ((w64 ((w64 (a0 * 2)) + a1)).fdiv (2 ^ (min ((8 : Int)).toNat IntKind.i64.bits)))] : List Int)).length 2)] ⟨rfl, trivial⟩ ?_
    refine V.ret ?_
    cases H
    exact At.ret1 rfl rfl ⟨_, rfl, (some ⟨lb7, 0, none⟩), 2, rfl, HS⟩

/-! ### signalman/signalmanref6.bit: function 22 -/
def signalmanref6_bit.f (a0 : Bool) : Option (Int) := (if a0 = true then some (1) else some (0))
set_option maxRecDepth 100000 in
set_option maxHeartbeats 4000000 in
theorem signalmanref6_bit.calls (a0 : Bool) (R : As) (w0 w : World)  (r : Int)  (H : signalmanref6_bit.f a0 = some r) (HS : Sep.St [R] w0 w) : Calls Try.prog 22 #[Value.bool (a0)] w (Ret fun u w => u = Value.int .i64 (r) ∧ Sep.St [R] w0 w) := by
  unfold signalmanref6_bit.f at H
  refine calls_enter Try.func22 rfl rfl ?_
  have H : _ = some r := H
  refine V.seq ?_
  refine V.region ?_
  refine W.rd (X.assign rfl) rfl rfl rfl ?_
  refine W.nil ?_
  refine At.next ?_
  refine V.keep [(0, Value.bool (a0))] ⟨rfl, trivial⟩ ?_
  refine V.seq ?_
  refine V.seq ?_
  refine V.region ?_
  refine W.rd (X.move rfl) rfl rfl rfl ?_
  refine W.nil ?_
  refine At.next ?_
  refine V.keep [(3, Value.bool (a0))] ⟨rfl, trivial⟩ ?_
  by_cases c1 : a0 = true
  · replace H := ite_t c1 H
    refine V.condT (sb c1) ?_
    refine V.seq ?_
    refine V.region ?_
    refine W.rd (X.assign rfl) rfl rfl rfl ?_
    refine W.nil ?_
    refine At.next ?_
    refine V.keep [(2, Value.int .i64 (1))] ⟨rfl, trivial⟩ ?_
    refine V.ret ?_
    refine At.thenRet ?_
    cases H
    exact At.ret1 rfl rfl ⟨_, rfl, rfl, HS⟩
  · replace H := ite_f c1 H
    refine V.condF (sb (b_f c1)) ?_
    refine V.skip ?_
    refine At.next ?_
    refine V.keep [] trivial ?_
    refine V.seq ?_
    refine V.region ?_
    refine W.rd (X.assign rfl) rfl rfl rfl ?_
    refine W.nil ?_
    refine At.next ?_
    refine V.keep [(2, Value.int .i64 (0))] ⟨rfl, trivial⟩ ?_
    refine V.ret ?_
    cases H
    exact At.ret1 rfl rfl ⟨_, rfl, rfl, HS⟩

/-! ### signalman/signalmanref6.bare: function 23 -/
def signalmanref6_bare.f (a0 : Int) : Option (Int) := (if 0 ≤ w64 (a0 - 3) ∧ w64 (a0 - 3) < ((([111, 99, 67, 15, 135] : List Int)).length : Int) then some ((([111, 99, 67, 15, 135] : List Int)).getD (w64 (a0 - 3)).toNat 0) else none)
set_option maxRecDepth 100000 in
set_option maxHeartbeats 4000000 in
theorem signalmanref6_bare.calls (a0 : Int) (R : As) (w0 w : World)  (r : Int)  (H : signalmanref6_bare.f a0 = some r) (HS : Sep.St [R] w0 w) : Calls Try.prog 23 #[Value.int .i64 (a0)] w (Ret fun u w => u = Value.int .i64 (r) ∧ Sep.St [R] w0 w) := by
  unfold signalmanref6_bare.f at H
  refine calls_enter Try.func23 rfl rfl ?_
  have H : _ = some r := H
  refine V.seq ?_
  refine V.region ?_
  refine W.rd (X.assign rfl) rfl rfl rfl ?_
  refine W.nil ?_
  refine At.next ?_
  refine V.keep [(0, Value.int .i64 (a0))] ⟨rfl, trivial⟩ ?_
  refine V.seq ?_
  refine V.region ?_
  refine W.ev (Y.litB (e := 3) (sz := 1) (vs := #[(0, Value.int .i64 (111)), (1, Value.int .i64 (99)), (2, Value.int .i64 (67)), (3, Value.int .i64 (15)), (4, Value.int .i64 (135))]) [Value.int .i64 (111), Value.int .i64 (99), Value.int .i64 (67), Value.int .i64 (15), Value.int .i64 (135)] HS (fun a ha => by simp only [List.map_toArray, List.map_cons, List.map_nil]; try rfl) rfl (by decide) (fun _ => by kernel_rfl)) rfl rfl rfl ?_
  rintro _ w ⟨lb3, rfl, HS⟩
  have HS : Sep.St [row 3 1 (.slice (some ⟨lb3, 0, none⟩) (([111, 99, 67, 15, 135] : List Int)).length 5) (([111, 99, 67, 15, 135] : List Int)).length ((([111, 99, 67, 15, 135] : List Int)).map (Value.int .i64)), R] w0 w := HS
  refine W.rd (X.move rfl) rfl rfl rfl ?_
  refine W.rd (X.sub rfl rfl) rfl rfl rfl ?_
  obtain ⟨c4, H⟩ := ite_n H
  refine W.rd (X.indexSl Try.underlying30 inf3 rfl rfl c4.1 c4.2) rfl rfl rfl ?_
  refine W.rd (X.load Try.underlying3 rfl rfl (((rdC.at 0 row_rd HS rfl)).cellI c4.1 c4.2)) rfl rfl rfl ?_
  refine W.rd (X.assign rfl) rfl rfl rfl ?_
  refine W.nil ?_
  refine At.next ?_
  refine V.keep [(2, Value.int .i64 ((([111, 99, 67, 15, 135] : List Int)).getD (w64 (a0 - 3)).toNat 0))] ⟨rfl, trivial⟩ ?_
  refine V.ret ?_
  replace HS := HS.sel [1] [0] rfl
  cases H
  exact At.ret1 rfl rfl ⟨_, rfl, rfl, HS⟩

/-! ### signalman/signalmanref6.CtlBytes: function 12 -/
mutual
def signalmanref6_CtlBytes.j0 (a0 : api_Ctl) (a1 : Int) (x23 : List Int) : Option (List Int) := ((signalmanref6_bit.f ((a0).Poll)).bind fun t26 => ((signalmanref6_field.f ((a0).Nr) t26 a1).bind fun t28 => (if ((x23).length : Int) + (t28).length ≤ 1099511627776 then some (x23 ++ t28) else none)))
end
def signalmanref6_CtlBytes.f (a0 : api_Ctl) (a1 : Int) : Option (List Int) := ((signalmanref6_RightCtl.f a0 a1).bind fun t3 => (if t3 = true then (if a0.Kind = 0 then ((signalmanref6_field.f a0.Ns 0 a1).bind fun t7 => ((signalmanref6_bit.f a0.Poll).bind fun t9 => ((signalmanref6_field.f a0.Nr t9 a1).bind fun t11 => (if ((t7).length : Int) + (t11).length ≤ 1099511627776 then some (t7 ++ t11) else none)))) else (if a0.Kind ≤ 2 then (if a1 = 128 then (signalmanref6_CtlBytes.j0 a0 a1 ([IntKind.u8.wrap (w64 (1 + (w64 (8 * (w64 (a0.Kind - 1))))))] : List Int)) else (if ((([IntKind.u8.wrap (w64 (1 + (w64 (8 * (w64 (a0.Kind - 1))))))] : List Int)).length : Int) + (([0] : List Int)).length ≤ 1099511627776 then (signalmanref6_CtlBytes.j0 a0 a1 (([IntKind.u8.wrap (w64 (1 + (w64 (8 * (w64 (a0.Kind - 1))))))] : List Int) ++ ([0] : List Int))) else none)) else ((signalmanref6_bare.f a0.Kind).bind fun t40 => ((signalmanref6_bit.f a0.Poll).bind fun t42 => some (([IntKind.u8.wrap (w64 (t40 + (w64 (16 * t42))))] : List Int)))))) else some (([] : List Int))))
set_option maxRecDepth 100000 in
set_option maxHeartbeats 4000000 in
theorem signalmanref6_CtlBytes.calls (a0 : api_Ctl) (a1 : Int) (R : As) (w0 w : World)  (r : List Int)  (H : signalmanref6_CtlBytes.f a0 a1 = some r) (HS : Sep.St [R] w0 w) : Calls Try.prog 12 #[Value.agg #[Value.int .i64 (a0.Kind), Value.int .i64 (a0.Ns), Value.int .i64 (a0.Nr), Value.bool (a0.Poll)], Value.int .i64 (a1)] w (Ret fun u w => ∃ (aq0 : Option Addr) (cq0 : Nat), u = Value.slice aq0 (r).length cq0 ∧ Sep.St [row 5 1 (.slice aq0 (r).length cq0) (r).length ((r).map (Value.int .u8)), R] w0 w) := by
  unfold signalmanref6_CtlBytes.f at H
  refine calls_enter Try.func12 rfl rfl ?_
  have H : _ = some r := H
  refine V.seq ?_
  refine V.region ?_
  refine W.ev (Y.box HS rfl) rfl rfl rfl ?_
  rintro _ w ⟨nb1, rfl, HS⟩
  have HS : Sep.St [blk nb1 (#[Value.int .i64 (a0.Kind), Value.int .i64 (a0.Ns), Value.int .i64 (a0.Nr), Value.bool (a0.Poll)]) 23, R] w0 w := HS
  refine W.rd (X.assign rfl) rfl rfl rfl ?_
  refine W.nil ?_
  refine At.next ?_
  refine V.keep [(1, Value.int .i64 (a1)), (2, Value.pointer (some ⟨nb1, 0, none⟩))] ⟨rfl, rfl, trivial⟩ ?_
  refine V.seq ?_
  refine V.seq ?_
  refine V.region ?_
  refine W.rd (X.loadSt 0 [Value.int .i64 (a0.Kind), Value.int .i64 (a0.Ns), Value.int .i64 (a0.Nr), Value.bool (a0.Poll)] HS rfl Try.underlying23 rfl inf23 rfl rfl) rfl rfl rfl ?_
  refine W.rd (X.move rfl) rfl rfl rfl ?_
  obtain ⟨t3, A4, H⟩ := bind_s H
  refine W.ev (Y.call Try.func9 (by kernel_rfl) rfl (vs := [Value.agg #[Value.int .i64 (a0.Kind), Value.int .i64 (a0.Ns), Value.int .i64 (a0.Nr), Value.bool (a0.Poll)], Value.int .i64 (a1)]) rfl (signalmanref6_RightCtl.calls a0 a1 _ w0 _  t3  A4 (Sep.St.tailJoin (m := []) (r := [blk nb1 (#[Value.int .i64 (a0.Kind), Value.int .i64 (a0.Ns), Value.int .i64 (a0.Nr), Value.bool (a0.Poll)]) 23, R]) HS))) rfl rfl rfl ?_
  rintro _ w ⟨rfl, HS⟩
  replace HS := Sep.St.tailOpen (m := []) (r := [blk nb1 (#[Value.int .i64 (a0.Kind), Value.int .i64 (a0.Ns), Value.int .i64 (a0.Nr), Value.bool (a0.Poll)]) 23, R]) HS
  have HS : Sep.St [blk nb1 (#[Value.int .i64 (a0.Kind), Value.int .i64 (a0.Ns), Value.int .i64 (a0.Nr), Value.bool (a0.Poll)]) 23, R] w0 w := HS
  refine W.rd (X.not rfl) rfl rfl rfl ?_
  refine W.nil ?_
  refine At.next ?_
  refine V.keep [(1, Value.int .i64 (a1)), (2, Value.pointer (some ⟨nb1, 0, none⟩)), (9, Value.bool (!(t3)))] ⟨rfl, rfl, rfl, trivial⟩ ?_
  by_cases c5 : t3 = true
  · replace H := ite_t c5 H
    refine V.condF (sb (n_t c5)) ?_
    refine V.skip ?_
    refine At.next ?_
    refine V.keep [(1, Value.int .i64 (a1)), (2, Value.pointer (some ⟨nb1, 0, none⟩))] ⟨rfl, rfl, trivial⟩ ?_
    refine V.seq ?_
    refine V.block ?_
    refine V.seq ?_
    refine V.region ?_
    refine W.rd (X.fieldAddr 0 fo23_0 rfl) rfl rfl rfl ?_
    refine W.rd (X.loadAt 0 HS rfl Try.underlying3 rfl rfl rfl) rfl rfl rfl ?_
    refine W.rd (X.cmp (decide (a0.Kind = 0)) rfl rfl rfl rfl) rfl rfl rfl ?_
    refine W.rd (X.assign rfl) rfl rfl rfl ?_
    refine W.nil ?_
    refine At.next ?_
    refine V.keep [(1, Value.int .i64 (a1)), (2, Value.pointer (some ⟨nb1, 0, none⟩)), (10, Value.bool (decide (a0.Kind = 0)))] ⟨rfl, rfl, rfl, trivial⟩ ?_
    by_cases c6 : a0.Kind = 0
    · replace H := ite_t c6 H
      refine V.condT (sb (decide_eq_true c6)) ?_
      refine V.seq ?_
      refine V.draw (es := [3, 8, 10, 11]) (bl := [12]) (f := [(14, Value.pointer (some ⟨nb1, 0 + 1, none⟩)), (15, Value.int .i64 (a0.Ns)), (16, Value.int .i64 (a1)), (18, Value.pointer (some ⟨nb1, 0 + 2, none⟩)), (19, Value.int .i64 (a0.Nr)), (20, Value.pointer (some ⟨nb1, 0 + 3, none⟩)), (21, Value.bool (a0.Poll)), (23, Value.int .i64 (a1))]) (fun w => Sep.St [blk nb1 (#[Value.int .i64 (a0.Kind), Value.int .i64 (a0.Ns), Value.int .i64 (a0.Nr), Value.bool (a0.Poll)]) 23, R] w0 w) mo HS.drew rfl ?_
      refine T.event _ [(15, Value.int .i64 (a0.Ns)), (16, Value.int .i64 (a1))] rfl rfl ⟨⟨_, Value.pointer (some ⟨nb1, 0 + 1, none⟩), [(2, Value.pointer (some ⟨nb1, 0, none⟩))], 14, rfl, rfl, ⟨.inl ⟨rfl, rfl⟩, trivial⟩, .run rfl (fun w HS => X.fieldAddr 1 fo23_1 rfl), rfl, rfl, rfl⟩, ⟨_, Value.int .i64 (a0.Ns), [(14, Value.pointer (some ⟨nb1, 0 + 1, none⟩))], 15, rfl, rfl, ⟨.inr ⟨rfl, rfl⟩, trivial⟩, .run rfl (fun w HS => X.loadAt 0 HS rfl Try.underlying3 rfl rfl rfl), rfl, rfl, rfl⟩, ⟨_, Value.int .i64 (a1), [(1, Value.int .i64 (a1))], 16, rfl, rfl, ⟨.inl ⟨rfl, rfl⟩, trivial⟩, .run rfl (fun w HS => X.move rfl), rfl, rfl, rfl⟩, ⟨_, Value.pointer (some ⟨nb1, 0 + 2, none⟩), [(2, Value.pointer (some ⟨nb1, 0, none⟩))], 18, rfl, rfl, ⟨.inl ⟨rfl, rfl⟩, trivial⟩, .run rfl (fun w HS => X.fieldAddr 2 fo23_2 rfl), rfl, rfl, rfl⟩, ⟨_, Value.int .i64 (a0.Nr), [(18, Value.pointer (some ⟨nb1, 0 + 2, none⟩))], 19, rfl, rfl, ⟨.inr ⟨rfl, rfl⟩, trivial⟩, .run rfl (fun w HS => X.loadAt 0 HS rfl Try.underlying3 rfl rfl rfl), rfl, rfl, rfl⟩, ⟨_, Value.pointer (some ⟨nb1, 0 + 3, none⟩), [(2, Value.pointer (some ⟨nb1, 0, none⟩))], 20, rfl, rfl, ⟨.inl ⟨rfl, rfl⟩, trivial⟩, .run rfl (fun w HS => X.fieldAddr 3 fo23_3 rfl), rfl, rfl, rfl⟩, ⟨_, Value.bool (a0.Poll), [(20, Value.pointer (some ⟨nb1, 0 + 3, none⟩))], 21, rfl, rfl, ⟨.inr ⟨rfl, rfl⟩, trivial⟩, .run rfl (fun w HS => X.loadAt 0 HS rfl Try.underlying4 rfl rfl rfl), rfl, rfl, rfl⟩, ⟨_, Value.int .i64 (a1), [(1, Value.int .i64 (a1))], 23, rfl, rfl, ⟨.inl ⟨rfl, rfl⟩, trivial⟩, .run rfl (fun w HS => X.move rfl), rfl, rfl, rfl⟩, trivial⟩ rfl ⟨.inr ⟨rfl, rfl⟩, ⟨.inr ⟨rfl, rfl⟩, trivial⟩⟩ (Or.inl rfl) (by intro d hd; cases hd; exact ⟨by decide, rfl, rfl⟩) [12] [0, 1, 2] rfl rfl (fun w HS => ?_)
      have HS : Sep.St [blk nb1 (#[Value.int .i64 (a0.Kind), Value.int .i64 (a0.Ns), Value.int .i64 (a0.Nr), Value.bool (a0.Poll)]) 23, R] w0 w := HS
      obtain ⟨t7, A8, H⟩ := bind_s H
      refine ⟨_, Y.call Try.func21 (by kernel_rfl) rfl (vs := [Value.int .i64 (a0.Ns), Value.int .i64 (0), Value.int .i64 (a1)]) rfl (signalmanref6_field.calls a0.Ns 0 a1 _ w0 _  t7  A8 (Sep.St.tailJoin (m := []) (r := [blk nb1 (#[Value.int .i64 (a0.Kind), Value.int .i64 (a0.Ns), Value.int .i64 (a0.Nr), Value.bool (a0.Poll)]) 23, R]) HS)), ?_⟩
      rintro _ w ⟨at7_0, ct7_0, rfl, HS⟩
      replace HS := Sep.St.tailOpen (m := [row 5 1 (.slice at7_0 (t7).length ct7_0) (t7).length ((t7).map (Value.int .u8))]) (r := [blk nb1 (#[Value.int .i64 (a0.Kind), Value.int .i64 (a0.Ns), Value.int .i64 (a0.Nr), Value.bool (a0.Poll)]) 23, R]) HS
      have HS : Sep.St [row 5 1 (.slice at7_0 (t7).length ct7_0) (t7).length ((t7).map (Value.int .u8)), blk nb1 (#[Value.int .i64 (a0.Kind), Value.int .i64 (a0.Ns), Value.int .i64 (a0.Nr), Value.bool (a0.Poll)]) 23, R] w0 w := HS
      refine ⟨[(17, Value.slice at7_0 (t7).length ct7_0)], fun w => Sep.St [row 5 1 (.slice at7_0 (t7).length ct7_0) (t7).length ((t7).map (Value.int .u8)), blk nb1 (#[Value.int .i64 (a0.Kind), Value.int .i64 (a0.Ns), Value.int .i64 (a0.Nr), Value.bool (a0.Poll)]) 23, R] w0 w, ⟨.inl ⟨rfl, rfl⟩, trivial⟩, ?_, HS⟩
      refine T.event _ [(21, Value.bool (a0.Poll))] rfl rfl ⟨⟨_, Value.pointer (some ⟨nb1, 0 + 2, none⟩), [(2, Value.pointer (some ⟨nb1, 0, none⟩))], 18, rfl, rfl, ⟨.inl ⟨rfl, rfl⟩, trivial⟩, .run rfl (fun w HS => X.fieldAddr 2 fo23_2 rfl), rfl, rfl, rfl⟩, ⟨_, Value.int .i64 (a0.Nr), [(18, Value.pointer (some ⟨nb1, 0 + 2, none⟩))], 19, rfl, rfl, ⟨.inr ⟨rfl, rfl⟩, trivial⟩, .run rfl (fun w HS => X.loadAt 1 HS rfl Try.underlying3 rfl rfl rfl), rfl, rfl, rfl⟩, ⟨_, Value.pointer (some ⟨nb1, 0 + 3, none⟩), [(2, Value.pointer (some ⟨nb1, 0, none⟩))], 20, rfl, rfl, ⟨.inl ⟨rfl, rfl⟩, trivial⟩, .run rfl (fun w HS => X.fieldAddr 3 fo23_3 rfl), rfl, rfl, rfl⟩, ⟨_, Value.bool (a0.Poll), [(20, Value.pointer (some ⟨nb1, 0 + 3, none⟩))], 21, rfl, rfl, ⟨.inr ⟨rfl, rfl⟩, trivial⟩, .run rfl (fun w HS => X.loadAt 1 HS rfl Try.underlying4 rfl rfl rfl), rfl, rfl, rfl⟩, ⟨_, Value.int .i64 (a1), [(1, Value.int .i64 (a1))], 23, rfl, rfl, ⟨.inl ⟨rfl, rfl⟩, trivial⟩, .run rfl (fun w HS => X.move rfl), rfl, rfl, rfl⟩, trivial⟩ rfl ⟨.inr ⟨rfl, rfl⟩, trivial⟩ (Or.inl rfl) (by intro d hd; cases hd; exact ⟨by decide, rfl, rfl⟩) [12] [6, 7] rfl rfl (fun w HS => ?_)
      have HS : Sep.St [row 5 1 (.slice at7_0 (t7).length ct7_0) (t7).length ((t7).map (Value.int .u8)), blk nb1 (#[Value.int .i64 (a0.Kind), Value.int .i64 (a0.Ns), Value.int .i64 (a0.Nr), Value.bool (a0.Poll)]) 23, R] w0 w := HS
      obtain ⟨t9, A10, H⟩ := bind_s H
      refine ⟨_, Y.call Try.func22 (by kernel_rfl) rfl (vs := [Value.bool (a0.Poll)]) rfl (signalmanref6_bit.calls a0.Poll _ w0 _  t9  A10 (Sep.St.tailJoin (m := []) (r := [row 5 1 (.slice at7_0 (t7).length ct7_0) (t7).length ((t7).map (Value.int .u8)), blk nb1 (#[Value.int .i64 (a0.Kind), Value.int .i64 (a0.Ns), Value.int .i64 (a0.Nr), Value.bool (a0.Poll)]) 23, R]) HS)), ?_⟩
      rintro _ w ⟨rfl, HS⟩
      replace HS := Sep.St.tailOpen (m := []) (r := [row 5 1 (.slice at7_0 (t7).length ct7_0) (t7).length ((t7).map (Value.int .u8)), blk nb1 (#[Value.int .i64 (a0.Kind), Value.int .i64 (a0.Ns), Value.int .i64 (a0.Nr), Value.bool (a0.Poll)]) 23, R]) HS
      have HS : Sep.St [row 5 1 (.slice at7_0 (t7).length ct7_0) (t7).length ((t7).map (Value.int .u8)), blk nb1 (#[Value.int .i64 (a0.Kind), Value.int .i64 (a0.Ns), Value.int .i64 (a0.Nr), Value.bool (a0.Poll)]) 23, R] w0 w := HS
      refine ⟨[(22, Value.int .i64 (t9))], fun w => Sep.St [row 5 1 (.slice at7_0 (t7).length ct7_0) (t7).length ((t7).map (Value.int .u8)), blk nb1 (#[Value.int .i64 (a0.Kind), Value.int .i64 (a0.Ns), Value.int .i64 (a0.Nr), Value.bool (a0.Poll)]) 23, R] w0 w, ⟨.inl ⟨rfl, rfl⟩, trivial⟩, ?_, HS⟩
      refine T.event _ [(19, Value.int .i64 (a0.Nr)), (22, Value.int .i64 (t9)), (23, Value.int .i64 (a1))] rfl rfl ⟨⟨_, Value.pointer (some ⟨nb1, 0 + 2, none⟩), [(2, Value.pointer (some ⟨nb1, 0, none⟩))], 18, rfl, rfl, ⟨.inl ⟨rfl, rfl⟩, trivial⟩, .run rfl (fun w HS => X.fieldAddr 2 fo23_2 rfl), rfl, rfl, rfl⟩, ⟨_, Value.int .i64 (a0.Nr), [(18, Value.pointer (some ⟨nb1, 0 + 2, none⟩))], 19, rfl, rfl, ⟨.inr ⟨rfl, rfl⟩, trivial⟩, .run rfl (fun w HS => X.loadAt 1 HS rfl Try.underlying3 rfl rfl rfl), rfl, rfl, rfl⟩, ⟨_, Value.int .i64 (a1), [(1, Value.int .i64 (a1))], 23, rfl, rfl, ⟨.inl ⟨rfl, rfl⟩, trivial⟩, .run rfl (fun w HS => X.move rfl), rfl, rfl, rfl⟩, trivial⟩ rfl ⟨.inr ⟨rfl, rfl⟩, ⟨.inr ⟨rfl, rfl⟩, ⟨.inr ⟨rfl, rfl⟩, trivial⟩⟩⟩ (Or.inl rfl) (by intro d hd; cases hd; exact ⟨by decide, rfl, rfl⟩) [12] [4, 5, 9] rfl rfl (fun w HS => ?_)
      have HS : Sep.St [row 5 1 (.slice at7_0 (t7).length ct7_0) (t7).length ((t7).map (Value.int .u8)), blk nb1 (#[Value.int .i64 (a0.Kind), Value.int .i64 (a0.Ns), Value.int .i64 (a0.Nr), Value.bool (a0.Poll)]) 23, R] w0 w := HS
      obtain ⟨t11, A12, H⟩ := bind_s H
      refine ⟨_, Y.call Try.func21 (by kernel_rfl) rfl (vs := [Value.int .i64 (a0.Nr), Value.int .i64 (t9), Value.int .i64 (a1)]) rfl (signalmanref6_field.calls a0.Nr t9 a1 _ w0 _  t11  A12 (Sep.St.tailJoin (m := []) (r := [row 5 1 (.slice at7_0 (t7).length ct7_0) (t7).length ((t7).map (Value.int .u8)), blk nb1 (#[Value.int .i64 (a0.Kind), Value.int .i64 (a0.Ns), Value.int .i64 (a0.Nr), Value.bool (a0.Poll)]) 23, R]) HS)), ?_⟩
      rintro _ w ⟨at11_0, ct11_0, rfl, HS⟩
      replace HS := Sep.St.tailOpen (m := [row 5 1 (.slice at11_0 (t11).length ct11_0) (t11).length ((t11).map (Value.int .u8))]) (r := [row 5 1 (.slice at7_0 (t7).length ct7_0) (t7).length ((t7).map (Value.int .u8)), blk nb1 (#[Value.int .i64 (a0.Kind), Value.int .i64 (a0.Ns), Value.int .i64 (a0.Nr), Value.bool (a0.Poll)]) 23, R]) HS
      have HS : Sep.St [row 5 1 (.slice at11_0 (t11).length ct11_0) (t11).length ((t11).map (Value.int .u8)), row 5 1 (.slice at7_0 (t7).length ct7_0) (t7).length ((t7).map (Value.int .u8)), blk nb1 (#[Value.int .i64 (a0.Kind), Value.int .i64 (a0.Ns), Value.int .i64 (a0.Nr), Value.bool (a0.Poll)]) 23, R] w0 w := HS
      refine ⟨[(24, Value.slice at11_0 (t11).length ct11_0)], fun w => Sep.St [row 5 1 (.slice at11_0 (t11).length ct11_0) (t11).length ((t11).map (Value.int .u8)), row 5 1 (.slice at7_0 (t7).length ct7_0) (t7).length ((t7).map (Value.int .u8)), blk nb1 (#[Value.int .i64 (a0.Kind), Value.int .i64 (a0.Ns), Value.int .i64 (a0.Nr), Value.bool (a0.Poll)]) 23, R] w0 w, ⟨.inl ⟨rfl, rfl⟩, trivial⟩, ?_, HS⟩
      refine T.event _ [(17, Value.slice at7_0 (t7).length ct7_0), (24, Value.slice at11_0 (t11).length ct11_0)] rfl rfl trivial rfl ⟨.inr ⟨rfl, rfl⟩, ⟨.inr ⟨rfl, rfl⟩, trivial⟩⟩ (Or.inl rfl) (by intro d hd; cases hd; exact ⟨by decide, rfl, rfl⟩) [] [] rfl rfl (fun w HS => ?_)
      have HS : Sep.St [row 5 1 (.slice at11_0 (t11).length ct11_0) (t11).length ((t11).map (Value.int .u8)), row 5 1 (.slice at7_0 (t7).length ct7_0) (t7).length ((t7).map (Value.int .u8)), blk nb1 (#[Value.int .i64 (a0.Kind), Value.int .i64 (a0.Ns), Value.int .i64 (a0.Nr), Value.bool (a0.Poll)]) 23, R] w0 w := HS
      obtain ⟨c13, H⟩ := ite_n H
      refine ⟨_, Y.appF (Value.int .u8) (fun _ => rfl) 1 Try.underlying26 ap5 rfl HS rfl rfl rfl (rdC.at 0 row_rd HS rfl) (by omega) (by omega), ?_⟩
      rintro _ w ⟨ra14, rc15, rfl, HS⟩
      have HS : Sep.St [row 5 1 (.slice at11_0 (t11).length ct11_0) (t11).length ((t11).map (Value.int .u8)), row 5 1 (.slice ra14 (t7 ++ t11).length rc15) (t7 ++ t11).length ((t7 ++ t11).map (Value.int .u8)), blk nb1 (#[Value.int .i64 (a0.Kind), Value.int .i64 (a0.Ns), Value.int .i64 (a0.Nr), Value.bool (a0.Poll)]) 23, R] w0 w := HS
      refine ⟨[(25, Value.slice ra14 (t7 ++ t11).length rc15), (4, Value.slice ra14 (t7 ++ t11).length rc15)], fun w => Sep.St [row 5 1 (.slice at11_0 (t11).length ct11_0) (t11).length ((t11).map (Value.int .u8)), row 5 1 (.slice ra14 (t7 ++ t11).length rc15) (t7 ++ t11).length ((t7 ++ t11).map (Value.int .u8)), blk nb1 (#[Value.int .i64 (a0.Kind), Value.int .i64 (a0.Ns), Value.int .i64 (a0.Nr), Value.bool (a0.Poll)]) 23, R] w0 w, ⟨.inl ⟨rfl, rfl⟩, ⟨.inr ⟨by decide, rfl⟩, trivial⟩⟩, ?_, HS⟩
      refine T.fin [(4, Value.slice ra14 (t7 ++ t11).length rc15)] rfl ⟨⟨_, Value.slice ra14 (t7 ++ t11).length rc15, [(25, Value.slice ra14 (t7 ++ t11).length rc15)], 4, rfl, rfl, ⟨.inr ⟨rfl, rfl⟩, trivial⟩, .run rfl (fun w HS => X.assign rfl), rfl, rfl, rfl⟩, trivial⟩ ⟨.inr ⟨rfl, rfl⟩, trivial⟩ (fun w HS => ?_)
      have HS : Sep.St [row 5 1 (.slice at11_0 (t11).length ct11_0) (t11).length ((t11).map (Value.int .u8)), row 5 1 (.slice ra14 (t7 ++ t11).length rc15) (t7 ++ t11).length ((t7 ++ t11).map (Value.int .u8)), blk nb1 (#[Value.int .i64 (a0.Kind), Value.int .i64 (a0.Ns), Value.int .i64 (a0.Nr), Value.bool (a0.Poll)]) 23, R] w0 w := HS
      refine At.next ?_
      refine V.keep [(4, Value.slice ra14 (t7 ++ t11).length rc15)] ⟨rfl, trivial⟩ ?_
      refine V.ret ?_
      refine At.blockRet ?_
      refine At.thenRet ?_
      replace HS := HS.sel [1, 3] [0, 2] rfl
      cases H
      exact At.ret1 rfl rfl ⟨_, rfl, ra14, rc15, rfl, HS⟩
    · replace H := ite_f c6 H
      refine V.condF (sb (decide_eq_false c6)) ?_
      refine V.seq ?_
      refine V.region ?_
      refine W.rd (X.fieldAddr 0 fo23_0 rfl) rfl rfl rfl ?_
      refine W.rd (X.loadAt 0 HS rfl Try.underlying3 rfl rfl rfl) rfl rfl rfl ?_
      refine W.rd (X.cmp (decide (a0.Kind ≤ 2)) rfl rfl rfl rfl) rfl rfl rfl ?_
      refine W.rd (X.assign rfl) rfl rfl rfl ?_
      refine W.nil ?_
      refine At.next ?_
      refine V.keep [(1, Value.int .i64 (a1)), (2, Value.pointer (some ⟨nb1, 0, none⟩)), (26, Value.bool (decide (a0.Kind ≤ 2)))] ⟨rfl, rfl, rfl, trivial⟩ ?_
      by_cases c16 : a0.Kind ≤ 2
      · replace H := ite_t c16 H
        refine V.condT (sb (decide_eq_true c16)) ?_
        refine V.seq ?_
        refine V.region ?_
        refine W.rd (X.fieldAddr 0 fo23_0 rfl) rfl rfl rfl ?_
        refine W.rd (X.loadAt 0 HS rfl Try.underlying3 rfl rfl rfl) rfl rfl rfl ?_
        refine W.rd (X.sub rfl rfl) rfl rfl rfl ?_
        refine W.rd (X.mul rfl rfl) rfl rfl rfl ?_
        refine W.rd (X.add rfl rfl) rfl rfl rfl ?_
        refine W.rd (X.conv Try.underlying3 Try.underlying5 rfl) rfl rfl rfl ?_
        refine W.ev (Y.litB (e := 5) (sz := 1) (vs := #[(0, Value.int .u8 (IntKind.u8.wrap (w64 (1 + (w64 (8 * (w64 (a0.Kind - 1))))))))]) [Value.int .u8 (IntKind.u8.wrap (w64 (1 + (w64 (8 * (w64 (a0.Kind - 1)))))))] HS (fun a ha => by simp only [List.map_toArray, List.map_cons, List.map_nil]; rw [ha.ev (x := .tmp 35) (v := Value.int .u8 (IntKind.u8.wrap (w64 (1 + (w64 (8 * (w64 (a0.Kind - 1)))))))) rfl]; try rfl) rfl (by decide) (fun _ => by kernel_rfl)) rfl rfl rfl ?_
        rintro _ w ⟨lb19, rfl, HS⟩
        have HS : Sep.St [row 5 1 (.slice (some ⟨lb19, 0, none⟩) (([IntKind.u8.wrap (w64 (1 + (w64 (8 * (w64 (a0.Kind - 1))))))] : List Int)).length 1) (([IntKind.u8.wrap (w64 (1 + (w64 (8 * (w64 (a0.Kind - 1))))))] : List Int)).length ((([IntKind.u8.wrap (w64 (1 + (w64 (8 * (w64 (a0.Kind - 1))))))] : List Int)).map (Value.int .u8)), blk nb1 (#[Value.int .i64 (a0.Kind), Value.int .i64 (a0.Ns), Value.int .i64 (a0.Nr), Value.bool (a0.Poll)]) 23, R] w0 w := HS
        refine W.rd (X.assign rfl) rfl rfl rfl ?_
        refine W.nil ?_
        refine At.next ?_
        refine V.keep [(1, Value.int .i64 (a1)), (2, Value.pointer (some ⟨nb1, 0, none⟩)), (5, Value.slice (some ⟨lb19, 0, none⟩) (([IntKind.u8.wrap (w64 (1 + (w64 (8 * (w64 (a0.Kind - 1))))))] : List Int)).length 1)] ⟨rfl, rfl, rfl, trivial⟩ ?_
        refine V.meet (σ := Option Addr × Nat × List Int) (fun st w => match st with | (ra21, rc22, x23) => Sep.St [api_Ctl.at nb1 (a0), row 5 1 (.slice ra21 (x23).length rc22) (x23).length ((x23).map (Value.int .u8)), R] w0 w ∧ signalmanref6_CtlBytes.j0 a0 a1 x23 = some r) (fun st => match st with | (ra21, rc22, x23) => [(1, Value.int .i64 (a1)), (2, Value.pointer (some ⟨nb1, 0, none⟩)), (5, Value.slice ra21 (x23).length rc22)]) ?_ ?_
        · refine V.seq ?_
          refine V.region ?_
          refine W.rd (X.move rfl) rfl rfl rfl ?_
          refine W.rd (X.cmp (!(decide (a1 = 128))) rfl rfl rfl rfl) rfl rfl rfl ?_
          refine W.nil ?_
          refine At.next ?_
          refine V.keep [(1, Value.int .i64 (a1)), (2, Value.pointer (some ⟨nb1, 0, none⟩)), (5, Value.slice (some ⟨lb19, 0, none⟩) (([IntKind.u8.wrap (w64 (1 + (w64 (8 * (w64 (a0.Kind - 1))))))] : List Int)).length 1), (38, Value.bool (!(decide (a1 = 128))))] ⟨rfl, rfl, rfl, rfl, trivial⟩ ?_
          by_cases c33 : a1 = 128
          · replace H := ite_t c33 H
            refine V.condF (sb (n_t (decide_eq_true c33))) ?_
            refine V.skip ?_
            replace HS := HS.re [1, 0, 2] rfl
            have HS : Sep.St [blk nb1 (#[Value.int .i64 (a0.Kind), Value.int .i64 (a0.Ns), Value.int .i64 (a0.Nr), Value.bool (a0.Poll)]) 23, row 5 1 (.slice (some ⟨lb19, 0, none⟩) (([IntKind.u8.wrap (w64 (1 + (w64 (8 * (w64 (a0.Kind - 1))))))] : List Int)).length 1) (([IntKind.u8.wrap (w64 (1 + (w64 (8 * (w64 (a0.Kind - 1))))))] : List Int)).length ((([IntKind.u8.wrap (w64 (1 + (w64 (8 * (w64 (a0.Kind - 1))))))] : List Int)).map (Value.int .u8)), R] w0 w := HS
            replace HS := api_Ctl.close (a0) trivial HS
            have HS : Sep.St [api_Ctl.at nb1 (a0), row 5 1 (.slice (some ⟨lb19, 0, none⟩) (([IntKind.u8.wrap (w64 (1 + (w64 (8 * (w64 (a0.Kind - 1))))))] : List Int)).length 1) (([IntKind.u8.wrap (w64 (1 + (w64 (8 * (w64 (a0.Kind - 1))))))] : List Int)).length ((([IntKind.u8.wrap (w64 (1 + (w64 (8 * (w64 (a0.Kind - 1))))))] : List Int)).map (Value.int .u8)), R] w0 w := HS
            exact At.meet ((some ⟨lb19, 0, none⟩), 1, ([IntKind.u8.wrap (w64 (1 + (w64 (8 * (w64 (a0.Kind - 1))))))] : List Int)) ⟨rfl, rfl, rfl, trivial⟩ ⟨HS, H⟩
          · replace H := ite_f c33 H
            refine V.condT (sb (n_f (decide_eq_false c33))) ?_
            refine V.region ?_
            refine W.rd (X.move rfl) rfl rfl rfl ?_
            refine W.ev (Y.litB (e := 5) (sz := 1) (vs := #[(0, Value.int .u8 (0))]) [Value.int .u8 (0)] HS (fun a ha => by simp only [List.map_toArray, List.map_cons, List.map_nil]; try rfl) rfl (by decide) (fun _ => by kernel_rfl)) rfl rfl rfl ?_
            rintro _ w ⟨lb36, rfl, HS⟩
            have HS : Sep.St [row 5 1 (.slice (some ⟨lb36, 0, none⟩) (([0] : List Int)).length 1) (([0] : List Int)).length ((([0] : List Int)).map (Value.int .u8)), row 5 1 (.slice (some ⟨lb19, 0, none⟩) (([IntKind.u8.wrap (w64 (1 + (w64 (8 * (w64 (a0.Kind - 1))))))] : List Int)).length 1) (([IntKind.u8.wrap (w64 (1 + (w64 (8 * (w64 (a0.Kind - 1))))))] : List Int)).length ((([IntKind.u8.wrap (w64 (1 + (w64 (8 * (w64 (a0.Kind - 1))))))] : List Int)).map (Value.int .u8)), blk nb1 (#[Value.int .i64 (a0.Kind), Value.int .i64 (a0.Ns), Value.int .i64 (a0.Nr), Value.bool (a0.Poll)]) 23, R] w0 w := HS
            obtain ⟨c37, H⟩ := ite_n H
            refine W.ev (Y.appF (Value.int .u8) (fun _ => rfl) 1 Try.underlying26 ap5 rfl HS rfl rfl rfl (rdC.at 0 row_rd HS rfl) (by omega) (by omega)) rfl rfl rfl ?_
            rintro _ w ⟨ra38, rc39, rfl, HS⟩
            have HS : Sep.St [row 5 1 (.slice (some ⟨lb36, 0, none⟩) (([0] : List Int)).length 1) (([0] : List Int)).length ((([0] : List Int)).map (Value.int .u8)), row 5 1 (.slice ra38 (([IntKind.u8.wrap (w64 (1 + (w64 (8 * (w64 (a0.Kind - 1))))))] : List Int) ++ ([0] : List Int)).length rc39) (([IntKind.u8.wrap (w64 (1 + (w64 (8 * (w64 (a0.Kind - 1))))))] : List Int) ++ ([0] : List Int)).length ((([IntKind.u8.wrap (w64 (1 + (w64 (8 * (w64 (a0.Kind - 1))))))] : List Int) ++ ([0] : List Int)).map (Value.int .u8)), blk nb1 (#[Value.int .i64 (a0.Kind), Value.int .i64 (a0.Ns), Value.int .i64 (a0.Nr), Value.bool (a0.Poll)]) 23, R] w0 w := HS
            refine W.rd (X.assign rfl) rfl rfl rfl ?_
            refine W.nil ?_
            replace HS := HS.re [2, 0, 1, 3] rfl
            have HS : Sep.St [blk nb1 (#[Value.int .i64 (a0.Kind), Value.int .i64 (a0.Ns), Value.int .i64 (a0.Nr), Value.bool (a0.Poll)]) 23, row 5 1 (.slice (some ⟨lb36, 0, none⟩) (([0] : List Int)).length 1) (([0] : List Int)).length ((([0] : List Int)).map (Value.int .u8)), row 5 1 (.slice ra38 (([IntKind.u8.wrap (w64 (1 + (w64 (8 * (w64 (a0.Kind - 1))))))] : List Int) ++ ([0] : List Int)).length rc39) (([IntKind.u8.wrap (w64 (1 + (w64 (8 * (w64 (a0.Kind - 1))))))] : List Int) ++ ([0] : List Int)).length ((([IntKind.u8.wrap (w64 (1 + (w64 (8 * (w64 (a0.Kind - 1))))))] : List Int) ++ ([0] : List Int)).map (Value.int .u8)), R] w0 w := HS
            replace HS := api_Ctl.close (a0) trivial HS
            have HS : Sep.St [api_Ctl.at nb1 (a0), row 5 1 (.slice (some ⟨lb36, 0, none⟩) (([0] : List Int)).length 1) (([0] : List Int)).length ((([0] : List Int)).map (Value.int .u8)), row 5 1 (.slice ra38 (([IntKind.u8.wrap (w64 (1 + (w64 (8 * (w64 (a0.Kind - 1))))))] : List Int) ++ ([0] : List Int)).length rc39) (([IntKind.u8.wrap (w64 (1 + (w64 (8 * (w64 (a0.Kind - 1))))))] : List Int) ++ ([0] : List Int)).length ((([IntKind.u8.wrap (w64 (1 + (w64 (8 * (w64 (a0.Kind - 1))))))] : List Int) ++ ([0] : List Int)).map (Value.int .u8)), R] w0 w := HS
            replace HS := HS.sel [0, 2, 3] [1] rfl
            exact At.meet (ra38, rc39, ([IntKind.u8.wrap (w64 (1 + (w64 (8 * (w64 (a0.Kind - 1))))))] : List Int) ++ ([0] : List Int)) ⟨rfl, rfl, rfl, trivial⟩ ⟨HS, H⟩
        · rintro ⟨ra21, rc22, x23⟩ w ⟨HS, H⟩
          unfold signalmanref6_CtlBytes.j0 at H
          have HS : Sep.St [api_Ctl.at nb1 (a0), row 5 1 (.slice ra21 (x23).length rc22) (x23).length ((x23).map (Value.int .u8)), R] w0 w := HS
          refine V.seq ?_
          obtain ⟨hi25, HS⟩ := api_Ctl.open HS
          have HS : Sep.St [blk nb1 (#[Value.int .i64 ((a0).Kind), Value.int .i64 ((a0).Ns), Value.int .i64 ((a0).Nr), Value.bool ((a0).Poll)]) 23, row 5 1 (.slice ra21 (x23).length rc22) (x23).length ((x23).map (Value.int .u8)), R] w0 w := HS
          refine V.draw (es := [5, 7, 8]) (bl := [9]) (f := [(42, Value.slice ra21 (x23).length rc22), (43, Value.pointer (some ⟨nb1, 0 + 2, none⟩)), (44, Value.int .i64 ((a0).Nr)), (45, Value.pointer (some ⟨nb1, 0 + 3, none⟩)), (46, Value.bool ((a0).Poll)), (48, Value.int .i64 (a1))]) (fun w => Sep.St [blk nb1 (#[Value.int .i64 ((a0).Kind), Value.int .i64 ((a0).Ns), Value.int .i64 ((a0).Nr), Value.bool ((a0).Poll)]) 23, row 5 1 (.slice ra21 (x23).length rc22) (x23).length ((x23).map (Value.int .u8)), R] w0 w) mo HS.drew rfl ?_
          refine T.event _ [(46, Value.bool ((a0).Poll))] rfl rfl ⟨⟨_, Value.slice ra21 (x23).length rc22, [(5, Value.slice ra21 (x23).length rc22)], 42, rfl, rfl, ⟨.inl ⟨rfl, rfl⟩, trivial⟩, .run rfl (fun w HS => X.move rfl), rfl, rfl, rfl⟩, ⟨_, Value.pointer (some ⟨nb1, 0 + 2, none⟩), [(2, Value.pointer (some ⟨nb1, 0, none⟩))], 43, rfl, rfl, ⟨.inl ⟨rfl, rfl⟩, trivial⟩, .run rfl (fun w HS => X.fieldAddr 2 fo23_2 rfl), rfl, rfl, rfl⟩, ⟨_, Value.int .i64 ((a0).Nr), [(43, Value.pointer (some ⟨nb1, 0 + 2, none⟩))], 44, rfl, rfl, ⟨.inr ⟨rfl, rfl⟩, trivial⟩, .run rfl (fun w HS => X.loadAt 0 HS rfl Try.underlying3 rfl rfl rfl), rfl, rfl, rfl⟩, ⟨_, Value.pointer (some ⟨nb1, 0 + 3, none⟩), [(2, Value.pointer (some ⟨nb1, 0, none⟩))], 45, rfl, rfl, ⟨.inl ⟨rfl, rfl⟩, trivial⟩, .run rfl (fun w HS => X.fieldAddr 3 fo23_3 rfl), rfl, rfl, rfl⟩, ⟨_, Value.bool ((a0).Poll), [(45, Value.pointer (some ⟨nb1, 0 + 3, none⟩))], 46, rfl, rfl, ⟨.inr ⟨rfl, rfl⟩, trivial⟩, .run rfl (fun w HS => X.loadAt 0 HS rfl Try.underlying4 rfl rfl rfl), rfl, rfl, rfl⟩, ⟨_, Value.int .i64 (a1), [(1, Value.int .i64 (a1))], 48, rfl, rfl, ⟨.inl ⟨rfl, rfl⟩, trivial⟩, .run rfl (fun w HS => X.move rfl), rfl, rfl, rfl⟩, trivial⟩ rfl ⟨.inr ⟨rfl, rfl⟩, trivial⟩ (Or.inl rfl) (by intro d hd; cases hd; exact ⟨by decide, rfl, rfl⟩) [9] [3, 4] rfl rfl (fun w HS => ?_)
          have HS : Sep.St [blk nb1 (#[Value.int .i64 ((a0).Kind), Value.int .i64 ((a0).Ns), Value.int .i64 ((a0).Nr), Value.bool ((a0).Poll)]) 23, row 5 1 (.slice ra21 (x23).length rc22) (x23).length ((x23).map (Value.int .u8)), R] w0 w := HS
          obtain ⟨t26, A27, H⟩ := bind_s H
          refine ⟨_, Y.call Try.func22 (by kernel_rfl) rfl (vs := [Value.bool ((a0).Poll)]) rfl (signalmanref6_bit.calls ((a0).Poll) _ w0 _  t26  A27 (Sep.St.tailJoin (m := []) (r := [blk nb1 (#[Value.int .i64 ((a0).Kind), Value.int .i64 ((a0).Ns), Value.int .i64 ((a0).Nr), Value.bool ((a0).Poll)]) 23, row 5 1 (.slice ra21 (x23).length rc22) (x23).length ((x23).map (Value.int .u8)), R]) HS)), ?_⟩
          rintro _ w ⟨rfl, HS⟩
          replace HS := Sep.St.tailOpen (m := []) (r := [blk nb1 (#[Value.int .i64 ((a0).Kind), Value.int .i64 ((a0).Ns), Value.int .i64 ((a0).Nr), Value.bool ((a0).Poll)]) 23, row 5 1 (.slice ra21 (x23).length rc22) (x23).length ((x23).map (Value.int .u8)), R]) HS
          have HS : Sep.St [blk nb1 (#[Value.int .i64 ((a0).Kind), Value.int .i64 ((a0).Ns), Value.int .i64 ((a0).Nr), Value.bool ((a0).Poll)]) 23, row 5 1 (.slice ra21 (x23).length rc22) (x23).length ((x23).map (Value.int .u8)), R] w0 w := HS
          refine ⟨[(47, Value.int .i64 (t26))], fun w => Sep.St [blk nb1 (#[Value.int .i64 ((a0).Kind), Value.int .i64 ((a0).Ns), Value.int .i64 ((a0).Nr), Value.bool ((a0).Poll)]) 23, row 5 1 (.slice ra21 (x23).length rc22) (x23).length ((x23).map (Value.int .u8)), R] w0 w, ⟨.inl ⟨rfl, rfl⟩, trivial⟩, ?_, HS⟩
          refine T.event _ [(44, Value.int .i64 ((a0).Nr)), (47, Value.int .i64 (t26)), (48, Value.int .i64 (a1))] rfl rfl ⟨⟨_, Value.slice ra21 (x23).length rc22, [(5, Value.slice ra21 (x23).length rc22)], 42, rfl, rfl, ⟨.inl ⟨rfl, rfl⟩, trivial⟩, .run rfl (fun w HS => X.move rfl), rfl, rfl, rfl⟩, ⟨_, Value.pointer (some ⟨nb1, 0 + 2, none⟩), [(2, Value.pointer (some ⟨nb1, 0, none⟩))], 43, rfl, rfl, ⟨.inl ⟨rfl, rfl⟩, trivial⟩, .run rfl (fun w HS => X.fieldAddr 2 fo23_2 rfl), rfl, rfl, rfl⟩, ⟨_, Value.int .i64 ((a0).Nr), [(43, Value.pointer (some ⟨nb1, 0 + 2, none⟩))], 44, rfl, rfl, ⟨.inr ⟨rfl, rfl⟩, trivial⟩, .run rfl (fun w HS => X.loadAt 0 HS rfl Try.underlying3 rfl rfl rfl), rfl, rfl, rfl⟩, ⟨_, Value.int .i64 (a1), [(1, Value.int .i64 (a1))], 48, rfl, rfl, ⟨.inl ⟨rfl, rfl⟩, trivial⟩, .run rfl (fun w HS => X.move rfl), rfl, rfl, rfl⟩, trivial⟩ rfl ⟨.inr ⟨rfl, rfl⟩, ⟨.inr ⟨rfl, rfl⟩, ⟨.inr ⟨rfl, rfl⟩, trivial⟩⟩⟩ (Or.inl rfl) (by intro d hd; cases hd; exact ⟨by decide, rfl, rfl⟩) [9] [1, 2, 6] rfl rfl (fun w HS => ?_)
          have HS : Sep.St [blk nb1 (#[Value.int .i64 ((a0).Kind), Value.int .i64 ((a0).Ns), Value.int .i64 ((a0).Nr), Value.bool ((a0).Poll)]) 23, row 5 1 (.slice ra21 (x23).length rc22) (x23).length ((x23).map (Value.int .u8)), R] w0 w := HS
          obtain ⟨t28, A29, H⟩ := bind_s H
          refine ⟨_, Y.call Try.func21 (by kernel_rfl) rfl (vs := [Value.int .i64 ((a0).Nr), Value.int .i64 (t26), Value.int .i64 (a1)]) rfl (signalmanref6_field.calls ((a0).Nr) t26 a1 _ w0 _  t28  A29 (Sep.St.tailJoin (m := []) (r := [blk nb1 (#[Value.int .i64 ((a0).Kind), Value.int .i64 ((a0).Ns), Value.int .i64 ((a0).Nr), Value.bool ((a0).Poll)]) 23, row 5 1 (.slice ra21 (x23).length rc22) (x23).length ((x23).map (Value.int .u8)), R]) HS)), ?_⟩
          rintro _ w ⟨at28_0, ct28_0, rfl, HS⟩
          replace HS := Sep.St.tailOpen (m := [row 5 1 (.slice at28_0 (t28).length ct28_0) (t28).length ((t28).map (Value.int .u8))]) (r := [blk nb1 (#[Value.int .i64 ((a0).Kind), Value.int .i64 ((a0).Ns), Value.int .i64 ((a0).Nr), Value.bool ((a0).Poll)]) 23, row 5 1 (.slice ra21 (x23).length rc22) (x23).length ((x23).map (Value.int .u8)), R]) HS
          have HS : Sep.St [row 5 1 (.slice at28_0 (t28).length ct28_0) (t28).length ((t28).map (Value.int .u8)), blk nb1 (#[Value.int .i64 ((a0).Kind), Value.int .i64 ((a0).Ns), Value.int .i64 ((a0).Nr), Value.bool ((a0).Poll)]) 23, row 5 1 (.slice ra21 (x23).length rc22) (x23).length ((x23).map (Value.int .u8)), R] w0 w := HS
          refine ⟨[(49, Value.slice at28_0 (t28).length ct28_0)], fun w => Sep.St [row 5 1 (.slice at28_0 (t28).length ct28_0) (t28).length ((t28).map (Value.int .u8)), blk nb1 (#[Value.int .i64 ((a0).Kind), Value.int .i64 ((a0).Ns), Value.int .i64 ((a0).Nr), Value.bool ((a0).Poll)]) 23, row 5 1 (.slice ra21 (x23).length rc22) (x23).length ((x23).map (Value.int .u8)), R] w0 w, ⟨.inl ⟨rfl, rfl⟩, trivial⟩, ?_, HS⟩
          refine T.event _ [(42, Value.slice ra21 (x23).length rc22), (49, Value.slice at28_0 (t28).length ct28_0)] rfl rfl ⟨⟨_, Value.slice ra21 (x23).length rc22, [(5, Value.slice ra21 (x23).length rc22)], 42, rfl, rfl, ⟨.inl ⟨rfl, rfl⟩, trivial⟩, .run rfl (fun w HS => X.move rfl), rfl, rfl, rfl⟩, trivial⟩ rfl ⟨.inr ⟨rfl, rfl⟩, ⟨.inr ⟨rfl, rfl⟩, trivial⟩⟩ (Or.inl rfl) (by intro d hd; cases hd; exact ⟨by decide, rfl, rfl⟩) [] [0] rfl rfl (fun w HS => ?_)
          have HS : Sep.St [row 5 1 (.slice at28_0 (t28).length ct28_0) (t28).length ((t28).map (Value.int .u8)), blk nb1 (#[Value.int .i64 ((a0).Kind), Value.int .i64 ((a0).Ns), Value.int .i64 ((a0).Nr), Value.bool ((a0).Poll)]) 23, row 5 1 (.slice ra21 (x23).length rc22) (x23).length ((x23).map (Value.int .u8)), R] w0 w := HS
          obtain ⟨c30, H⟩ := ite_n H
          refine ⟨_, Y.appF (Value.int .u8) (fun _ => rfl) 2 Try.underlying26 ap5 rfl HS rfl rfl rfl (rdC.at 0 row_rd HS rfl) (by omega) (by omega), ?_⟩
          rintro _ w ⟨ra31, rc32, rfl, HS⟩
          have HS : Sep.St [row 5 1 (.slice at28_0 (t28).length ct28_0) (t28).length ((t28).map (Value.int .u8)), blk nb1 (#[Value.int .i64 ((a0).Kind), Value.int .i64 ((a0).Ns), Value.int .i64 ((a0).Nr), Value.bool ((a0).Poll)]) 23, row 5 1 (.slice ra31 (x23 ++ t28).length rc32) (x23 ++ t28).length ((x23 ++ t28).map (Value.int .u8)), R] w0 w := HS
          refine ⟨[(50, Value.slice ra31 (x23 ++ t28).length rc32), (4, Value.slice ra31 (x23 ++ t28).length rc32)], fun w => Sep.St [row 5 1 (.slice at28_0 (t28).length ct28_0) (t28).length ((t28).map (Value.int .u8)), blk nb1 (#[Value.int .i64 ((a0).Kind), Value.int .i64 ((a0).Ns), Value.int .i64 ((a0).Nr), Value.bool ((a0).Poll)]) 23, row 5 1 (.slice ra31 (x23 ++ t28).length rc32) (x23 ++ t28).length ((x23 ++ t28).map (Value.int .u8)), R] w0 w, ⟨.inl ⟨rfl, rfl⟩, ⟨.inr ⟨by decide, rfl⟩, trivial⟩⟩, ?_, HS⟩
          refine T.fin [(4, Value.slice ra31 (x23 ++ t28).length rc32)] rfl ⟨⟨_, Value.slice ra31 (x23 ++ t28).length rc32, [(50, Value.slice ra31 (x23 ++ t28).length rc32)], 4, rfl, rfl, ⟨.inr ⟨rfl, rfl⟩, trivial⟩, .run rfl (fun w HS => X.assign rfl), rfl, rfl, rfl⟩, trivial⟩ ⟨.inr ⟨rfl, rfl⟩, trivial⟩ (fun w HS => ?_)
          have HS : Sep.St [row 5 1 (.slice at28_0 (t28).length ct28_0) (t28).length ((t28).map (Value.int .u8)), blk nb1 (#[Value.int .i64 ((a0).Kind), Value.int .i64 ((a0).Ns), Value.int .i64 ((a0).Nr), Value.bool ((a0).Poll)]) 23, row 5 1 (.slice ra31 (x23 ++ t28).length rc32) (x23 ++ t28).length ((x23 ++ t28).map (Value.int .u8)), R] w0 w := HS
          refine At.next ?_
          refine V.keep [(4, Value.slice ra31 (x23 ++ t28).length rc32)] ⟨rfl, trivial⟩ ?_
          refine V.ret ?_
          refine At.blockRet ?_
          refine At.thenRet ?_
          replace HS := HS.sel [2, 3] [0, 1] rfl
          cases H
          exact At.ret1 rfl rfl ⟨_, rfl, ra31, rc32, rfl, HS⟩
      · replace H := ite_f c16 H
        refine V.condF (sb (decide_eq_false c16)) ?_
        refine V.skip ?_
        refine At.blockEnd ?_
        refine At.next ?_
        refine V.keep [(2, Value.pointer (some ⟨nb1, 0, none⟩))] ⟨rfl, trivial⟩ ?_
        refine V.seq ?_
        refine V.draw (es := [2, 5, 9]) (bl := [6, 7, 8, 10]) (f := [(51, Value.pointer (some ⟨nb1, 0 + 0, none⟩)), (52, Value.int .i64 (a0.Kind)), (54, Value.pointer (some ⟨nb1, 0 + 3, none⟩)), (55, Value.bool (a0.Poll))]) (fun w => Sep.St [blk nb1 (#[Value.int .i64 (a0.Kind), Value.int .i64 (a0.Ns), Value.int .i64 (a0.Nr), Value.bool (a0.Poll)]) 23, R] w0 w) mo HS.drew rfl ?_
        refine T.event _ [(52, Value.int .i64 (a0.Kind))] rfl rfl ⟨⟨_, Value.pointer (some ⟨nb1, 0 + 0, none⟩), [(2, Value.pointer (some ⟨nb1, 0, none⟩))], 51, rfl, rfl, ⟨.inl ⟨rfl, rfl⟩, trivial⟩, .run rfl (fun w HS => X.fieldAddr 0 fo23_0 rfl), rfl, rfl, rfl⟩, ⟨_, Value.int .i64 (a0.Kind), [(51, Value.pointer (some ⟨nb1, 0 + 0, none⟩))], 52, rfl, rfl, ⟨.inr ⟨rfl, rfl⟩, trivial⟩, .run rfl (fun w HS => X.loadAt 0 HS rfl Try.underlying3 rfl rfl rfl), rfl, rfl, rfl⟩, ⟨_, Value.pointer (some ⟨nb1, 0 + 3, none⟩), [(2, Value.pointer (some ⟨nb1, 0, none⟩))], 54, rfl, rfl, ⟨.inl ⟨rfl, rfl⟩, trivial⟩, .run rfl (fun w HS => X.fieldAddr 3 fo23_3 rfl), rfl, rfl, rfl⟩, ⟨_, Value.bool (a0.Poll), [(54, Value.pointer (some ⟨nb1, 0 + 3, none⟩))], 55, rfl, rfl, ⟨.inr ⟨rfl, rfl⟩, trivial⟩, .run rfl (fun w HS => X.loadAt 0 HS rfl Try.underlying4 rfl rfl rfl), rfl, rfl, rfl⟩, trivial⟩ rfl ⟨.inr ⟨rfl, rfl⟩, trivial⟩ (Or.inl rfl) (by intro d hd; cases hd; exact ⟨by decide, rfl, rfl⟩) [6, 7, 8, 10] [0, 1] rfl rfl (fun w HS => ?_)
        have HS : Sep.St [blk nb1 (#[Value.int .i64 (a0.Kind), Value.int .i64 (a0.Ns), Value.int .i64 (a0.Nr), Value.bool (a0.Poll)]) 23, R] w0 w := HS
        obtain ⟨t40, A41, H⟩ := bind_s H
        refine ⟨_, Y.call Try.func23 (by kernel_rfl) rfl (vs := [Value.int .i64 (a0.Kind)]) rfl (signalmanref6_bare.calls a0.Kind _ w0 _  t40  A41 (Sep.St.tailJoin (m := []) (r := [blk nb1 (#[Value.int .i64 (a0.Kind), Value.int .i64 (a0.Ns), Value.int .i64 (a0.Nr), Value.bool (a0.Poll)]) 23, R]) HS)), ?_⟩
        rintro _ w ⟨rfl, HS⟩
        replace HS := Sep.St.tailOpen (m := []) (r := [blk nb1 (#[Value.int .i64 (a0.Kind), Value.int .i64 (a0.Ns), Value.int .i64 (a0.Nr), Value.bool (a0.Poll)]) 23, R]) HS
        have HS : Sep.St [blk nb1 (#[Value.int .i64 (a0.Kind), Value.int .i64 (a0.Ns), Value.int .i64 (a0.Nr), Value.bool (a0.Poll)]) 23, R] w0 w := HS
        refine ⟨[(53, Value.int .i64 (t40))], fun w => Sep.St [blk nb1 (#[Value.int .i64 (a0.Kind), Value.int .i64 (a0.Ns), Value.int .i64 (a0.Nr), Value.bool (a0.Poll)]) 23, R] w0 w, ⟨.inl ⟨rfl, rfl⟩, trivial⟩, ?_, HS⟩
        refine T.event _ [(55, Value.bool (a0.Poll))] rfl rfl ⟨⟨_, Value.pointer (some ⟨nb1, 0 + 3, none⟩), [(2, Value.pointer (some ⟨nb1, 0, none⟩))], 54, rfl, rfl, ⟨.inl ⟨rfl, rfl⟩, trivial⟩, .run rfl (fun w HS => X.fieldAddr 3 fo23_3 rfl), rfl, rfl, rfl⟩, ⟨_, Value.bool (a0.Poll), [(54, Value.pointer (some ⟨nb1, 0 + 3, none⟩))], 55, rfl, rfl, ⟨.inr ⟨rfl, rfl⟩, trivial⟩, .run rfl (fun w HS => X.loadAt 0 HS rfl Try.underlying4 rfl rfl rfl), rfl, rfl, rfl⟩, trivial⟩ rfl ⟨.inr ⟨rfl, rfl⟩, trivial⟩ (Or.inl rfl) (by intro d hd; cases hd; exact ⟨by decide, rfl, rfl⟩) [10] [3, 4] rfl rfl (fun w HS => ?_)
        have HS : Sep.St [blk nb1 (#[Value.int .i64 (a0.Kind), Value.int .i64 (a0.Ns), Value.int .i64 (a0.Nr), Value.bool (a0.Poll)]) 23, R] w0 w := HS
        obtain ⟨t42, A43, H⟩ := bind_s H
        refine ⟨_, Y.call Try.func22 (by kernel_rfl) rfl (vs := [Value.bool (a0.Poll)]) rfl (signalmanref6_bit.calls a0.Poll _ w0 _  t42  A43 (Sep.St.tailJoin (m := []) (r := [blk nb1 (#[Value.int .i64 (a0.Kind), Value.int .i64 (a0.Ns), Value.int .i64 (a0.Nr), Value.bool (a0.Poll)]) 23, R]) HS)), ?_⟩
        rintro _ w ⟨rfl, HS⟩
        replace HS := Sep.St.tailOpen (m := []) (r := [blk nb1 (#[Value.int .i64 (a0.Kind), Value.int .i64 (a0.Ns), Value.int .i64 (a0.Nr), Value.bool (a0.Poll)]) 23, R]) HS
        have HS : Sep.St [blk nb1 (#[Value.int .i64 (a0.Kind), Value.int .i64 (a0.Ns), Value.int .i64 (a0.Nr), Value.bool (a0.Poll)]) 23, R] w0 w := HS
        refine ⟨[(56, Value.int .i64 (t42)), (57, Value.int .i64 (w64 (16 * t42))), (58, Value.int .i64 (w64 (t40 + (w64 (16 * t42))))), (59, Value.int .u8 (IntKind.u8.wrap (w64 (t40 + (w64 (16 * t42))))))], fun w => Sep.St [blk nb1 (#[Value.int .i64 (a0.Kind), Value.int .i64 (a0.Ns), Value.int .i64 (a0.Nr), Value.bool (a0.Poll)]) 23, R] w0 w, ⟨.inl ⟨rfl, rfl⟩, ⟨.inr ⟨by decide, rfl⟩, ⟨.inr ⟨by decide, rfl⟩, ⟨.inr ⟨by decide, rfl⟩, trivial⟩⟩⟩⟩, ?_, HS⟩
        refine T.event _ [(59, Value.int .u8 (IntKind.u8.wrap (w64 (t40 + (w64 (16 * t42))))))] rfl rfl ⟨⟨_, Value.int .i64 (w64 (16 * t42)), [(56, Value.int .i64 (t42))], 57, rfl, rfl, ⟨.inr ⟨rfl, rfl⟩, trivial⟩, .run rfl (fun w HS => X.mul rfl rfl), rfl, rfl, rfl⟩, ⟨_, Value.int .i64 (w64 (t40 + (w64 (16 * t42)))), [(53, Value.int .i64 (t40)), (57, Value.int .i64 (w64 (16 * t42)))], 58, rfl, rfl, ⟨.inr ⟨rfl, rfl⟩, ⟨.inr ⟨rfl, rfl⟩, trivial⟩⟩, .run rfl (fun w HS => X.add rfl rfl), rfl, rfl, rfl⟩, ⟨_, Value.int .u8 (IntKind.u8.wrap (w64 (t40 + (w64 (16 * t42))))), [(58, Value.int .i64 (w64 (t40 + (w64 (16 * t42)))))], 59, rfl, rfl, ⟨.inr ⟨rfl, rfl⟩, trivial⟩, .run rfl (fun w HS => X.conv Try.underlying3 Try.underlying5 rfl), rfl, rfl, rfl⟩, trivial⟩ rfl ⟨.inr ⟨rfl, rfl⟩, trivial⟩ (Or.inl rfl) (by intro d hd; cases hd; exact ⟨by decide, rfl, rfl⟩) [] [6, 7, 8] rfl rfl (fun w HS => ?_)
        have HS : Sep.St [blk nb1 (#[Value.int .i64 (a0.Kind), Value.int .i64 (a0.Ns), Value.int .i64 (a0.Nr), Value.bool (a0.Poll)]) 23, R] w0 w := HS
        refine ⟨_, Y.litB (e := 5) (sz := 1) (vs := #[(0, Value.int .u8 (IntKind.u8.wrap (w64 (t40 + (w64 (16 * t42))))))]) [Value.int .u8 (IntKind.u8.wrap (w64 (t40 + (w64 (16 * t42)))))] HS (fun a ha => by simp only [List.map_toArray, List.map_cons, List.map_nil]; rw [ha.ev (x := .tmp 59) (v := Value.int .u8 (IntKind.u8.wrap (w64 (t40 + (w64 (16 * t42)))))) rfl]; try rfl) rfl (by decide) (fun _ => by kernel_rfl), ?_⟩
        rintro _ w ⟨lb46, rfl, HS⟩
        have HS : Sep.St [row 5 1 (.slice (some ⟨lb46, 0, none⟩) (([IntKind.u8.wrap (w64 (t40 + (w64 (16 * t42))))] : List Int)).length 1) (([IntKind.u8.wrap (w64 (t40 + (w64 (16 * t42))))] : List Int)).length ((([IntKind.u8.wrap (w64 (t40 + (w64 (16 * t42))))] : List Int)).map (Value.int .u8)), blk nb1 (#[Value.int .i64 (a0.Kind), Value.int .i64 (a0.Ns), Value.int .i64 (a0.Nr), Value.bool (a0.Poll)]) 23, R] w0 w := HS
        refine ⟨[(60, Value.slice (some ⟨lb46, 0, none⟩) (([IntKind.u8.wrap (w64 (t40 + (w64 (16 * t42))))] : List Int)).length 1), (4, Value.slice (some ⟨lb46, 0, none⟩) (([IntKind.u8.wrap (w64 (t40 + (w64 (16 * t42))))] : List Int)).length 1)], fun w => Sep.St [row 5 1 (.slice (some ⟨lb46, 0, none⟩) (([IntKind.u8.wrap (w64 (t40 + (w64 (16 * t42))))] : List Int)).length 1) (([IntKind.u8.wrap (w64 (t40 + (w64 (16 * t42))))] : List Int)).length ((([IntKind.u8.wrap (w64 (t40 + (w64 (16 * t42))))] : List Int)).map (Value.int .u8)), blk nb1 (#[Value.int .i64 (a0.Kind), Value.int .i64 (a0.Ns), Value.int .i64 (a0.Nr), Value.bool (a0.Poll)]) 23, R] w0 w, ⟨.inl ⟨rfl, rfl⟩, ⟨.inr ⟨by decide, rfl⟩, trivial⟩⟩, ?_, HS⟩
        refine T.fin [(4, Value.slice (some ⟨lb46, 0, none⟩) (([IntKind.u8.wrap (w64 (t40 + (w64 (16 * t42))))] : List Int)).length 1)] rfl ⟨⟨_, Value.slice (some ⟨lb46, 0, none⟩) (([IntKind.u8.wrap (w64 (t40 + (w64 (16 * t42))))] : List Int)).length 1, [(60, Value.slice (some ⟨lb46, 0, none⟩) (([IntKind.u8.wrap (w64 (t40 + (w64 (16 * t42))))] : List Int)).length 1)], 4, rfl, rfl, ⟨.inr ⟨rfl, rfl⟩, trivial⟩, .run rfl (fun w HS => X.assign rfl), rfl, rfl, rfl⟩, trivial⟩ ⟨.inr ⟨rfl, rfl⟩, trivial⟩ (fun w HS => ?_)
        have HS : Sep.St [row 5 1 (.slice (some ⟨lb46, 0, none⟩) (([IntKind.u8.wrap (w64 (t40 + (w64 (16 * t42))))] : List Int)).length 1) (([IntKind.u8.wrap (w64 (t40 + (w64 (16 * t42))))] : List Int)).length ((([IntKind.u8.wrap (w64 (t40 + (w64 (16 * t42))))] : List Int)).map (Value.int .u8)), blk nb1 (#[Value.int .i64 (a0.Kind), Value.int .i64 (a0.Ns), Value.int .i64 (a0.Nr), Value.bool (a0.Poll)]) 23, R] w0 w := HS
        refine At.next ?_
        refine V.keep [(4, Value.slice (some ⟨lb46, 0, none⟩) (([IntKind.u8.wrap (w64 (t40 + (w64 (16 * t42))))] : List Int)).length 1)] ⟨rfl, trivial⟩ ?_
        refine V.ret ?_
        replace HS := HS.sel [0, 2] [1] rfl
        cases H
        exact At.ret1 rfl rfl ⟨_, rfl, (some ⟨lb46, 0, none⟩), 1, rfl, HS⟩
  · replace H := ite_f c5 H
    refine V.condT (sb (n_f (b_f c5))) ?_
    refine V.seq ?_
    refine V.region ?_
    refine W.rd (X.assign rfl) rfl rfl rfl ?_
    refine W.nil ?_
    refine At.next ?_
    refine V.keep [(4, Value.slice none 0 0)] ⟨rfl, trivial⟩ ?_
    refine V.ret ?_
    refine At.thenRet ?_
    replace HS := row_nil' (e := 5) 1 none HS
    have HS : Sep.St [row 5 1 (.slice none (([] : List Int)).length 0) (([] : List Int)).length ((([] : List Int)).map (Value.int .u8)), blk nb1 (#[Value.int .i64 (a0.Kind), Value.int .i64 (a0.Ns), Value.int .i64 (a0.Nr), Value.bool (a0.Poll)]) 23, R] w0 w := HS
    replace HS := HS.sel [0, 2] [1] rfl
    cases H
    exact At.ret1 rfl rfl ⟨_, rfl, none, 0, rfl, HS⟩

/-! ### slices.Index[[]byte,byte]: function 24 -/
mutual
def slices_Index_Sbytebyte.l0 : Nat → (List Int) → Int → Int → Option (Int)
  | 0, _, _, _ => none
  | k + 1, a0, a1, x1 => (if x1 < ((a0).length : Int) then (if 0 ≤ x1 ∧ x1 < ((a0).length : Int) then (if a1 = ((a0).getD (x1).toNat 0) then some (x1) else (slices_Index_Sbytebyte.l0 k a0 a1 (w64 (x1 + 1)))) else none) else some ((-1)))
end
def slices_Index_Sbytebyte.f (k : Nat) (a0 : List Int) (a1 : Int) : Option (Int) := (slices_Index_Sbytebyte.l0 k a0 a1 0)
set_option maxRecDepth 100000 in
set_option maxHeartbeats 4000000 in
theorem slices_Index_Sbytebyte.calls (k : Nat) (a0 : List Int) (a1 : Int) (R : As) (w0 w : World) (sa0 : Option Addr) (sc0 : Nat) (r : Int) (hr0 : rdC R 1 (.slice sa0 (a0).length sc0) (a0).length ((a0).map (Value.int .u8))) (H : slices_Index_Sbytebyte.f k a0 a1 = some r) (HS : Sep.St [R] w0 w) : Calls Try.prog 24 #[Value.slice sa0 (a0).length sc0, Value.int .u8 (a1)] w (Ret fun u w => u = Value.int .i64 (r) ∧ Sep.St [R] w0 w) := by
  unfold slices_Index_Sbytebyte.f at H
  refine calls_enter Try.func24 rfl rfl ?_
  have H : _ = some r := H
  refine V.seq ?_
  refine V.region ?_
  refine W.rd (X.assign rfl) rfl rfl rfl ?_
  refine W.nil ?_
  refine At.next ?_
  refine V.keep [(0, Value.slice sa0 (a0).length sc0), (1, Value.int .u8 (a1))] ⟨rfl, rfl, trivial⟩ ?_
  refine V.seq ?_
  refine V.seq ?_
  refine V.region ?_
  refine W.rd (X.move rfl) rfl rfl rfl ?_
  refine W.rd (X.lenSl Try.underlying26 rfl) rfl rfl rfl ?_
  refine W.rd (X.move rfl) rfl rfl rfl ?_
  refine W.nil ?_
  refine At.next ?_
  refine V.keep [(0, Value.slice sa0 (a0).length sc0), (1, Value.int .u8 (a1)), (7, Value.int .i64 (((a0).length : Int))), (8, Value.int .i64 (0))] ⟨rfl, rfl, rfl, rfl, trivial⟩ ?_
  refine V.block ?_
  refine V.loop (σ := Int) (fun kq (st : Int) w => match st with | x1 => Sep.St [R] w0 w ∧ slices_Index_Sbytebyte.l0 kq a0 a1 x1 = some r ∧ kq ≤ k) (fun st => match st with | x1 => [(0, Value.slice sa0 (a0).length sc0), (1, Value.int .u8 (a1)), (7, Value.int .i64 (((a0).length : Int))), (8, Value.int .i64 (x1))]) k (0) ⟨rfl, rfl, rfl, rfl, trivial⟩ ⟨HS, H, Nat.le_refl _⟩ ?_
  rintro kq2 x1 w ⟨HS, H, hk3⟩
  cases kq2 with
  | zero => exact absurd H (by simp [slices_Index_Sbytebyte.l0])
  | succ kq2 =>
    simp only [slices_Index_Sbytebyte.l0] at H
    have HS : Sep.St [R] w0 w := HS
    refine V.seq ?_
    refine V.region ?_
    refine W.rd (X.cmp (decide (x1 < ((a0).length : Int))) rfl rfl rfl rfl) rfl rfl rfl ?_
    refine W.nil ?_
    refine At.next ?_
    refine V.keep [(0, Value.slice sa0 (a0).length sc0), (1, Value.int .u8 (a1)), (7, Value.int .i64 (((a0).length : Int))), (8, Value.int .i64 (x1)), (9, Value.bool (decide (x1 < ((a0).length : Int))))] ⟨rfl, rfl, rfl, rfl, rfl, trivial⟩ ?_
    refine V.seq ?_
    by_cases c4 : x1 < ((a0).length : Int)
    · replace H := ite_t c4 H
      refine V.condT (sb (decide_eq_true c4)) ?_
      refine V.skip ?_
      refine At.next ?_
      refine V.keep [(0, Value.slice sa0 (a0).length sc0), (1, Value.int .u8 (a1)), (7, Value.int .i64 (((a0).length : Int))), (8, Value.int .i64 (x1))] ⟨rfl, rfl, rfl, rfl, trivial⟩ ?_
      refine V.seq ?_
      refine V.block ?_
      refine V.seq ?_
      refine V.region ?_
      refine W.rd (X.move rfl) rfl rfl rfl ?_
      refine W.rd (X.assign rfl) rfl rfl rfl ?_
      refine W.nil ?_
      refine At.next ?_
      refine V.keep [(0, Value.slice sa0 (a0).length sc0), (1, Value.int .u8 (a1)), (5, Value.int .i64 (x1)), (7, Value.int .i64 (((a0).length : Int))), (8, Value.int .i64 (x1))] ⟨rfl, rfl, rfl, rfl, rfl, trivial⟩ ?_
      refine V.seq ?_
      refine V.region ?_
      refine W.rd (X.move rfl) rfl rfl rfl ?_
      refine W.rd (X.move rfl) rfl rfl rfl ?_
      refine W.rd (X.move rfl) rfl rfl rfl ?_
      obtain ⟨c5, H⟩ := ite_n H
      obtain ⟨eb6, eo7, hh⟩ := ((rdC.at 0 hr0 HS rfl)).some (by decide) c5.1 c5.2; subst hh
      refine W.rd (X.indexSl Try.underlying26 inf5 rfl rfl c5.1 c5.2) rfl rfl rfl ?_
      refine W.rd (X.load Try.underlying5 rfl rfl (((rdC.at 0 hr0 HS rfl)).cellI c5.1 c5.2)) rfl rfl rfl ?_
      refine W.rd (X.cmp (decide (a1 = ((a0).getD (x1).toNat 0))) rfl rfl rfl rfl) rfl rfl rfl ?_
      refine W.nil ?_
      refine At.next ?_
      refine V.keep [(0, Value.slice (some ⟨eb6, eo7, none⟩) (a0).length sc0), (1, Value.int .u8 (a1)), (5, Value.int .i64 (x1)), (7, Value.int .i64 (((a0).length : Int))), (8, Value.int .i64 (x1)), (16, Value.bool (decide (a1 = ((a0).getD (x1).toNat 0))))] ⟨rfl, rfl, rfl, rfl, rfl, rfl, trivial⟩ ?_
      by_cases c8 : a1 = ((a0).getD (x1).toNat 0)
      · replace H := ite_t c8 H
        refine V.condT (sb (decide_eq_true c8)) ?_
        refine V.seq ?_
        refine V.region ?_
        refine W.rd (X.move rfl) rfl rfl rfl ?_
        refine W.rd (X.assign rfl) rfl rfl rfl ?_
        refine W.nil ?_
        refine At.next ?_
        refine V.keep [(4, Value.int .i64 (x1))] ⟨rfl, trivial⟩ ?_
        refine V.ret ?_
        refine At.blockRet ?_
        refine At.thenRet ?_
        refine At.thenRet ?_
        refine At.blockRet ?_
        refine At.thenRet ?_
        cases H
        exact At.ret1 rfl rfl ⟨_, rfl, rfl, HS⟩
      · replace H := ite_f c8 H
        refine V.condF (sb (decide_eq_false c8)) ?_
        refine V.skip ?_
        refine At.blockEnd ?_
        refine At.next ?_
        refine V.keep [(0, Value.slice (some ⟨eb6, eo7, none⟩) (a0).length sc0), (1, Value.int .u8 (a1)), (7, Value.int .i64 (((a0).length : Int))), (8, Value.int .i64 (x1))] ⟨rfl, rfl, rfl, rfl, trivial⟩ ?_
        refine V.region ?_
        refine W.rd (X.add rfl rfl) rfl rfl rfl ?_
        refine W.rd (X.move rfl) rfl rfl rfl ?_
        refine W.nil ?_
        exact At.round kq2 (by omega) (w64 (x1 + 1)) ⟨rfl, rfl, rfl, rfl, trivial⟩ ⟨HS, H, by omega⟩
    · replace H := ite_f c4 H
      refine V.condF (sb (decide_eq_false c4)) ?_
      refine V.exit ?_
      refine At.thenExit ?_
      refine At.thenExit ?_
      refine At.blockExit ?_
      refine At.next ?_
      refine V.keep [] trivial ?_
      refine V.seq ?_
      refine V.region ?_
      refine W.rd (X.assign rfl) rfl rfl rfl ?_
      refine W.nil ?_
      refine At.next ?_
      refine V.keep [(4, Value.int .i64 ((-1)))] ⟨rfl, trivial⟩ ?_
      refine V.ret ?_
      cases H
      exact At.ret1 rfl rfl ⟨_, rfl, rfl, HS⟩

/-! ### signalman/control.number: function 25 -/
mutual
def control_number.l0 : Nat → (List Int) → Int → Int → Option (Int)
  | 0, _, _, _ => none
  | k + 1, a0, x1, x2 => (if x2 < ((a0).length : Int) then (if 0 ≤ x2 ∧ x2 < ((a0).length : Int) then (if ¬ (w64 (8 * x2) < 0) then (control_number.l0 k a0 (ior .i64 (x1) (w64 ((w64 ((a0).getD (x2).toNat 0)) * 2 ^ (min (w64 (8 * x2)).toNat IntKind.i64.bits)))) (w64 (x2 + 1))) else none) else none) else some (x1))
end
def control_number.f (k : Nat) (a0 : List Int) : Option (Int) := (control_number.l0 k a0 0 0)
set_option maxRecDepth 100000 in
set_option maxHeartbeats 4000000 in
theorem control_number.calls (k : Nat) (a0 : List Int) (R : As) (w0 w : World) (sa0 : Option Addr) (sc0 : Nat) (r : Int) (hr0 : rdC R 1 (.slice sa0 (a0).length sc0) (a0).length ((a0).map (Value.int .u8))) (H : control_number.f k a0 = some r) (HS : Sep.St [R] w0 w) : Calls Try.prog 25 #[Value.slice sa0 (a0).length sc0] w (Ret fun u w => u = Value.int .i64 (r) ∧ Sep.St [R] w0 w) := by
  unfold control_number.f at H
  refine calls_enter Try.func25 rfl rfl ?_
  have H : _ = some r := H
  refine V.seq ?_
  refine V.region ?_
  refine W.rd (X.assign rfl) rfl rfl rfl ?_
  refine W.nil ?_
  refine At.next ?_
  refine V.keep [(0, Value.slice sa0 (a0).length sc0)] ⟨rfl, trivial⟩ ?_
  refine V.seq ?_
  refine V.region ?_
  refine W.rd (X.assign rfl) rfl rfl rfl ?_
  refine W.nil ?_
  refine At.next ?_
  refine V.keep [(0, Value.slice sa0 (a0).length sc0), (3, Value.int .i64 (0))] ⟨rfl, rfl, trivial⟩ ?_
  refine V.seq ?_
  refine V.seq ?_
  refine V.region ?_
  refine W.rd (X.move rfl) rfl rfl rfl ?_
  refine W.rd (X.lenSl Try.underlying26 rfl) rfl rfl rfl ?_
  refine W.rd (X.move rfl) rfl rfl rfl ?_
  refine W.nil ?_
  refine At.next ?_
  refine V.keep [(3, Value.int .i64 (0)), (6, Value.slice sa0 (a0).length sc0), (7, Value.int .i64 (((a0).length : Int))), (8, Value.int .i64 (0))] ⟨rfl, rfl, rfl, rfl, trivial⟩ ?_
  refine V.block ?_
  refine V.loop (σ := Int × Int) (fun kq (st : Int × Int) w => match st with | (x1, x2) => Sep.St [R] w0 w ∧ control_number.l0 kq a0 x1 x2 = some r ∧ kq ≤ k) (fun st => match st with | (x1, x2) => [(3, Value.int .i64 (x1)), (6, Value.slice sa0 (a0).length sc0), (7, Value.int .i64 (((a0).length : Int))), (8, Value.int .i64 (x2))]) k (0, 0) ⟨rfl, rfl, rfl, rfl, trivial⟩ ⟨HS, H, Nat.le_refl _⟩ ?_
  rintro kq3 ⟨x1, x2⟩ w ⟨HS, H, hk4⟩
  cases kq3 with
  | zero => exact absurd H (by simp [control_number.l0])
  | succ kq3 =>
    simp only [control_number.l0] at H
    have HS : Sep.St [R] w0 w := HS
    refine V.seq ?_
    refine V.region ?_
    refine W.rd (X.cmp (decide (x2 < ((a0).length : Int))) rfl rfl rfl rfl) rfl rfl rfl ?_
    refine W.nil ?_
    refine At.next ?_
    refine V.keep [(3, Value.int .i64 (x1)), (6, Value.slice sa0 (a0).length sc0), (7, Value.int .i64 (((a0).length : Int))), (8, Value.int .i64 (x2)), (9, Value.bool (decide (x2 < ((a0).length : Int))))] ⟨rfl, rfl, rfl, rfl, rfl, trivial⟩ ?_
    refine V.seq ?_
    by_cases c5 : x2 < ((a0).length : Int)
    · replace H := ite_t c5 H
      refine V.condT (sb (decide_eq_true c5)) ?_
      refine V.skip ?_
      refine At.next ?_
      refine V.keep [(3, Value.int .i64 (x1)), (6, Value.slice sa0 (a0).length sc0), (7, Value.int .i64 (((a0).length : Int))), (8, Value.int .i64 (x2))] ⟨rfl, rfl, rfl, rfl, trivial⟩ ?_
      refine V.seq ?_
      refine V.block ?_
      refine V.seq ?_
      refine V.region ?_
      refine W.rd (X.move rfl) rfl rfl rfl ?_
      obtain ⟨c6, H⟩ := ite_n H
      obtain ⟨eb7, eo8, hh⟩ := ((rdC.at 0 hr0 HS rfl)).some (by decide) c6.1 c6.2; subst hh
      refine W.rd (X.indexSl Try.underlying26 inf5 rfl rfl c6.1 c6.2) rfl rfl rfl ?_
      refine W.rd (X.load Try.underlying5 rfl rfl (((rdC.at 0 hr0 HS rfl)).cellI c6.1 c6.2)) rfl rfl rfl ?_
      refine W.rd (X.assign rfl) rfl rfl rfl ?_
      refine W.rd (X.assign rfl) rfl rfl rfl ?_
      refine W.nil ?_
      refine At.next ?_
      refine V.keep [(3, Value.int .i64 (x1)), (4, Value.int .i64 (x2)), (5, Value.int .u8 ((a0).getD (x2).toNat 0)), (6, Value.slice (some ⟨eb7, eo8, none⟩) (a0).length sc0), (7, Value.int .i64 (((a0).length : Int))), (8, Value.int .i64 (x2))] ⟨rfl, rfl, rfl, rfl, rfl, rfl, trivial⟩ ?_
      refine V.region ?_
      refine W.rd (X.move rfl) rfl rfl rfl ?_
      refine W.rd (X.move rfl) rfl rfl rfl ?_
      refine W.rd (X.conv Try.underlying5 Try.underlying3 rfl) rfl rfl rfl ?_
      refine W.rd (X.move rfl) rfl rfl rfl ?_
      refine W.rd (X.mul rfl rfl) rfl rfl rfl ?_
      obtain ⟨c9, H⟩ := ite_n H
      refine W.rd (X.shl rfl rfl c9) rfl rfl rfl ?_
      refine W.rd (X.or rfl rfl) rfl rfl rfl ?_
      refine W.rd (X.assign rfl) rfl rfl rfl ?_
      refine W.nil ?_
      refine At.blockEnd ?_
      refine At.next ?_
      refine V.keep [(3, Value.int .i64 (ior .i64 (x1) (w64 ((w64 ((a0).getD (x2).toNat 0)) * 2 ^ (min (w64 (8 * x2)).toNat IntKind.i64.bits))))), (6, Value.slice (some ⟨eb7, eo8, none⟩) (a0).length sc0), (7, Value.int .i64 (((a0).length : Int))), (8, Value.int .i64 (x2))] ⟨rfl, rfl, rfl, rfl, trivial⟩ ?_
      refine V.region ?_
      refine W.rd (X.add rfl rfl) rfl rfl rfl ?_
      refine W.rd (X.move rfl) rfl rfl rfl ?_
      refine W.nil ?_
      exact At.round kq3 (by omega) (ior .i64 (x1) (w64 ((w64 ((a0).getD (x2).toNat 0)) * 2 ^ (min (w64 (8 * x2)).toNat IntKind.i64.bits))), w64 (x2 + 1)) ⟨rfl, rfl, rfl, rfl, trivial⟩ ⟨HS, H, by omega⟩
    · replace H := ite_f c5 H
      refine V.condF (sb (decide_eq_false c5)) ?_
      refine V.exit ?_
      refine At.thenExit ?_
      refine At.thenExit ?_
      refine At.blockExit ?_
      refine At.next ?_
      refine V.keep [(3, Value.int .i64 (x1))] ⟨rfl, trivial⟩ ?_
      refine V.seq ?_
      refine V.region ?_
      refine W.rd (X.move rfl) rfl rfl rfl ?_
      refine W.rd (X.assign rfl) rfl rfl rfl ?_
      refine W.nil ?_
      refine At.next ?_
      refine V.keep [(2, Value.int .i64 (x1))] ⟨rfl, trivial⟩ ?_
      refine V.ret ?_
      cases H
      exact At.ret1 rfl rfl ⟨_, rfl, rfl, HS⟩
end Go.Proofs.Ytmodmkbjbndfpaa

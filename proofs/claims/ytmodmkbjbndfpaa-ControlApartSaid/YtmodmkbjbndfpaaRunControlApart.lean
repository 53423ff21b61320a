/- ControlApart: the functions that its law reaches, as plain functions, and that the machine's calls come to what these say. Conditions: those that stand at each. -/
import Derived.Test.YtmodmkbjbndfpaaProg
import Derived.Test.YtmodmkbjbndfpaaMore
set_option linter.all false
namespace Go.Proofs.Ytmodmkbjbndfpaa
open Go.RowKit Go.Proofs.Ytmodmkbjbndfpaa.Sep Go.Proofs.Ytmodmkbjbndfpaa.Walk
theorem inf5 : (Try.prog.info? 5).map (·.size) = some 1 := by kernel_rfl
theorem inf23 : (Try.prog.info? 23).map (·.size) = some 4 := by kernel_rfl
theorem fo23_0 : fieldOff Try.prog 23 0 = some 0 := by kernel_rfl
theorem fo23_1 : fieldOff Try.prog 23 1 = some 1 := by kernel_rfl
theorem fo23_2 : fieldOff Try.prog 23 2 = some 2 := by kernel_rfl
theorem fo23_3 : fieldOff Try.prog 23 3 = some 3 := by kernel_rfl
theorem ap5 : (Try.prog.info? 5).map (fun i => (i.zero, i.size, i.bytes)) = some (some (.int .u8 0), 1, 1) := by kernel_rfl
theorem mo : Try.prog.follows .mixedOrders = true := by kernel_rfl

/-! ### signalman/control.modulus: function 19 -/
def control_modulus.f (a0 : Int) : Option (Bool) := (if a0 = 128 then some (true) else some (decide (a0 = 32768)))
set_option maxRecDepth 100000 in
set_option maxHeartbeats 4000000 in
theorem control_modulus.calls (a0 : Int) (R : As) (w0 w : World)  (r : Bool)  (H : control_modulus.f a0 = some r) (HS : Sep.St [R] w0 w) : Calls Try.prog 19 #[Value.int .i64 (a0)] w (Ret fun u w => u = Value.bool (r) ∧ Sep.St [R] w0 w) := by
  unfold control_modulus.f at H
  refine calls_enter Try.func19 rfl rfl ?_
  have H : _ = some r := H
  refine V.seq ?_
  refine V.region ?_
  refine W.rd (X.assign rfl) rfl rfl rfl ?_
  refine W.nil ?_
  refine At.next ?_
  refine V.keep [(0, Value.int .i64 (a0))] ⟨rfl, trivial⟩ ?_
  refine V.seq ?_
  refine V.region ?_
  refine W.rd (X.move rfl) rfl rfl rfl ?_
  refine W.rd (X.cmp (decide (a0 = 128)) rfl rfl rfl rfl) rfl rfl rfl ?_
  refine W.rd (X.move rfl) rfl rfl rfl ?_
  by_cases c1 : a0 = 128
  · replace H := ite_t c1 H
    refine W.pass 5 rfl (sb (decide_eq_true c1)) rfl rfl ?_
    refine W.pass 5 rfl (sb (decide_eq_true c1)) rfl rfl ?_
    refine W.rd (X.pickT (sb (decide_eq_true c1)) rfl) rfl rfl rfl ?_
    refine W.rd (X.assign rfl) rfl rfl rfl ?_
    refine W.nil ?_
    refine At.next ?_
    refine V.keep [(2, Value.bool (true))] ⟨rfl, trivial⟩ ?_
    refine V.ret ?_
    cases H
    exact At.ret1 rfl rfl ⟨_, rfl, rfl, HS⟩
  · replace H := ite_f c1 H
    refine W.want 5 rfl (sb (decide_eq_false c1)) ?_
    refine W.rd (X.move rfl) rfl rfl rfl ?_
    refine W.want 5 rfl (sb (decide_eq_false c1)) ?_
    refine W.rd (X.cmp (decide (a0 = 32768)) rfl rfl rfl rfl) rfl rfl rfl ?_
    refine W.rd (X.pickF (sb (decide_eq_false c1)) rfl) rfl rfl rfl ?_
    refine W.rd (X.assign rfl) rfl rfl rfl ?_
    refine W.nil ?_
    refine At.next ?_
    refine V.keep [(2, Value.bool (decide (a0 = 32768)))] ⟨rfl, trivial⟩ ?_
    refine V.ret ?_
    cases H
    exact At.ret1 rfl rfl ⟨_, rfl, rfl, HS⟩

/-! ### signalman/control.of: function 20 -/
def control_of.f (a0 : Int) (a1 : Int) : Option (Bool) := (if a0 ≥ 0 then some (decide (a0 < a1)) else some (false))
set_option maxRecDepth 100000 in
set_option maxHeartbeats 4000000 in
theorem control_of.calls (a0 : Int) (a1 : Int) (R : As) (w0 w : World)  (r : Bool)  (H : control_of.f a0 a1 = some r) (HS : Sep.St [R] w0 w) : Calls Try.prog 20 #[Value.int .i64 (a0), Value.int .i64 (a1)] w (Ret fun u w => u = Value.bool (r) ∧ Sep.St [R] w0 w) := by
  unfold control_of.f at H
  refine calls_enter Try.func20 rfl rfl ?_
  have H : _ = some r := H
  refine V.seq ?_
  refine V.region ?_
  refine W.rd (X.assign rfl) rfl rfl rfl ?_
  refine W.nil ?_
  refine At.next ?_
  refine V.keep [(0, Value.int .i64 (a0)), (1, Value.int .i64 (a1))] ⟨rfl, rfl, trivial⟩ ?_
  refine V.seq ?_
  refine V.region ?_
  refine W.rd (X.move rfl) rfl rfl rfl ?_
  refine W.rd (X.cmp (decide (a0 ≥ 0)) rfl rfl rfl rfl) rfl rfl rfl ?_
  refine W.rd (X.move rfl) rfl rfl rfl ?_
  by_cases c1 : a0 ≥ 0
  · replace H := ite_t c1 H
    refine W.want 7 rfl (sb (decide_eq_true c1)) ?_
    refine W.rd (X.move rfl) rfl rfl rfl ?_
    refine W.want 7 rfl (sb (decide_eq_true c1)) ?_
    refine W.rd (X.move rfl) rfl rfl rfl ?_
    refine W.want 7 rfl (sb (decide_eq_true c1)) ?_
    refine W.rd (X.cmp (decide (a0 < a1)) rfl rfl rfl rfl) rfl rfl rfl ?_
    refine W.rd (X.pickT (sb (decide_eq_true c1)) rfl) rfl rfl rfl ?_
    refine W.rd (X.assign rfl) rfl rfl rfl ?_
    refine W.nil ?_
    refine At.next ?_
    refine V.keep [(4, Value.bool (decide (a0 < a1)))] ⟨rfl, trivial⟩ ?_
    refine V.ret ?_
    cases H
    exact At.ret1 rfl rfl ⟨_, rfl, rfl, HS⟩
  · replace H := ite_f c1 H
    refine W.pass 7 rfl (sb (decide_eq_false c1)) rfl rfl ?_
    refine W.pass 7 rfl (sb (decide_eq_false c1)) rfl rfl ?_
    refine W.pass 7 rfl (sb (decide_eq_false c1)) rfl rfl ?_
    refine W.rd (X.pickF (sb (decide_eq_false c1)) rfl) rfl rfl rfl ?_
    refine W.rd (X.assign rfl) rfl rfl rfl ?_
    refine W.nil ?_
    refine At.next ?_
    refine V.keep [(4, Value.bool (false))] ⟨rfl, trivial⟩ ?_
    refine V.ret ?_
    cases H
    exact At.ret1 rfl rfl ⟨_, rfl, rfl, HS⟩

structure api_Ctl where
  Kind : Int
  Ns : Int
  Nr : Int
  Poll : Bool
deriving DecidableEq, Inhabited

def api_Ctl.at (b : Nat) (x : api_Ctl) : As := fun h => (True) ∧ Sp [blk b (#[Value.int .i64 ((x.Kind)), Value.int .i64 ((x.Ns)), Value.int .i64 ((x.Nr)), Value.bool ((x.Poll))]) 23] h
theorem api_Ctl.open {b : Nat} {x : api_Ctl} {L : List As} {w0 w : World} (hs : Sep.St (api_Ctl.at b x :: L) w0 w) : (True) ∧ Sep.St (blk b (#[Value.int .i64 ((x.Kind)), Value.int .i64 ((x.Ns)), Value.int .i64 ((x.Nr)), Value.bool ((x.Poll))]) 23 :: L) w0 w := by
  have h1 := St.pure.1 (show St ((fun h => (True) ∧ (fun h => Sp [blk b (#[Value.int .i64 ((x.Kind)), Value.int .i64 ((x.Ns)), Value.int .i64 ((x.Nr)), Value.bool ((x.Poll))]) 23] h) h) :: L) w0 w from hs)
  obtain ⟨hi, hs⟩ := h1
  exact ⟨hi, St.open (m := [blk b (#[Value.int .i64 ((x.Kind)), Value.int .i64 ((x.Ns)), Value.int .i64 ((x.Nr)), Value.bool ((x.Poll))]) 23]) hs⟩
theorem api_Ctl.close {b : Nat} (x : api_Ctl)  {L : List As} {w0 w : World} (hi : True) (hs : Sep.St (blk b (#[Value.int .i64 ((x.Kind)), Value.int .i64 ((x.Ns)), Value.int .i64 ((x.Nr)), Value.bool ((x.Poll))]) 23 :: L) w0 w) : Sep.St (api_Ctl.at b x :: L) w0 w := by
  have h2 := St.join (m := [blk b (#[Value.int .i64 ((x.Kind)), Value.int .i64 ((x.Ns)), Value.int .i64 ((x.Nr)), Value.bool ((x.Poll))]) 23]) hs
  exact h2.mono fun h hh => ⟨hi, hh⟩

/-! ### signalman/control.Right: function 11 -/
mutual
def control_Right.j0 (a0 : api_Ctl) (a1 : Int) (x12 : Bool) : Option (Bool) := (if x12 = true then (if ((a0).Ns) = 0 then ((control_of.f ((a0).Nr) a1).bind fun t17 => some (t17)) else some (false)) else (if ((a0).Kind) ≥ 3 then (if ((a0).Kind) ≤ 7 then (if ((a0).Ns) = 0 then some (decide (((a0).Nr) = 0)) else some (false)) else some (false)) else some (false)))
end
def control_Right.f (a0 : api_Ctl) (a1 : Int) : Option (Bool) := ((control_modulus.f a1).bind fun t2 => (if t2 = true then (if a0.Kind = 0 then ((control_of.f a0.Ns a1).bind fun t6 => (if t6 = true then ((control_of.f a0.Nr a1).bind fun t9 => some (t9)) else some (false))) else (if a0.Kind = 1 then (control_Right.j0 a0 a1 true) else (control_Right.j0 a0 a1 (decide (a0.Kind = 2))))) else some (false)))
set_option maxRecDepth 100000 in
set_option maxHeartbeats 4000000 in
theorem control_Right.calls (a0 : api_Ctl) (a1 : Int) (R : As) (w0 w : World)  (r : Bool)  (H : control_Right.f a0 a1 = some r) (HS : Sep.St [R] w0 w) : Calls Try.prog 11 #[Value.agg #[Value.int .i64 (a0.Kind), Value.int .i64 (a0.Ns), Value.int .i64 (a0.Nr), Value.bool (a0.Poll)], Value.int .i64 (a1)] w (Ret fun u w => u = Value.bool (r) ∧ Sep.St [R] w0 w) := by
  unfold control_Right.f at H
  refine calls_enter Try.func11 rfl rfl ?_
  have H : _ = some r := H
  refine V.seq ?_
  refine V.region ?_
  refine W.ev (Y.box HS rfl) rfl rfl rfl ?_
  rintro _ w ⟨nb1, rfl, HS⟩
  have HS : Sep.St [blk nb1 (#[Value.int .i64 (a0.Kind), Value.int .i64 (a0.Ns), Value.int .i64 (a0.Nr), Value.bool (a0.Poll)]) 23, R] w0 w := HS
  refine W.rd (X.assign rfl) rfl rfl rfl ?_
  refine W.nil ?_
  refine At.next ?_
  refine V.keep [(1, Value.int .i64 (a1)), (2, Value.pointer (some ⟨nb1, 0, none⟩))] ⟨rfl, rfl, trivial⟩ ?_
  refine V.seq ?_
  refine V.block ?_
  refine V.seq ?_
  refine V.region ?_
  refine W.rd (X.move rfl) rfl rfl rfl ?_
  obtain ⟨t2, A3, H⟩ := bind_s H
  refine W.ev (Y.call Try.func19 (by kernel_rfl) rfl (vs := [Value.int .i64 (a1)]) rfl (control_modulus.calls a1 _ w0 _  t2  A3 (Sep.St.tailJoin (m := []) (r := [blk nb1 (#[Value.int .i64 (a0.Kind), Value.int .i64 (a0.Ns), Value.int .i64 (a0.Nr), Value.bool (a0.Poll)]) 23, R]) HS))) rfl rfl rfl ?_
  rintro _ w ⟨rfl, HS⟩
  replace HS := Sep.St.tailOpen (m := []) (r := [blk nb1 (#[Value.int .i64 (a0.Kind), Value.int .i64 (a0.Ns), Value.int .i64 (a0.Nr), Value.bool (a0.Poll)]) 23, R]) HS
  have HS : Sep.St [blk nb1 (#[Value.int .i64 (a0.Kind), Value.int .i64 (a0.Ns), Value.int .i64 (a0.Nr), Value.bool (a0.Poll)]) 23, R] w0 w := HS
  refine W.rd (X.not rfl) rfl rfl rfl ?_
  refine W.rd (X.assign rfl) rfl rfl rfl ?_
  refine W.nil ?_
  refine At.next ?_
  refine V.keep [(1, Value.int .i64 (a1)), (2, Value.pointer (some ⟨nb1, 0, none⟩)), (5, Value.bool (!(t2)))] ⟨rfl, rfl, rfl, trivial⟩ ?_
  by_cases c4 : t2 = true
  · replace H := ite_t c4 H
    refine V.condF (sb (n_t c4)) ?_
    refine V.seq ?_
    refine V.region ?_
    refine W.rd (X.fieldAddr 0 fo23_0 rfl) rfl rfl rfl ?_
    refine W.rd (X.loadAt 0 HS rfl Try.underlying3 rfl rfl rfl) rfl rfl rfl ?_
    refine W.rd (X.cmp (decide (a0.Kind = 0)) rfl rfl rfl rfl) rfl rfl rfl ?_
    refine W.rd (X.assign rfl) rfl rfl rfl ?_
    refine W.nil ?_
    refine At.next ?_
    refine V.keep [(1, Value.int .i64 (a1)), (2, Value.pointer (some ⟨nb1, 0, none⟩)), (9, Value.bool (decide (a0.Kind = 0)))] ⟨rfl, rfl, rfl, trivial⟩ ?_
    by_cases c5 : a0.Kind = 0
    · replace H := ite_t c5 H
      refine V.condT (sb (decide_eq_true c5)) ?_
      refine V.seq ?_
      refine V.region ?_
      refine W.rd (X.fieldAddr 1 fo23_1 rfl) rfl rfl rfl ?_
      refine W.rd (X.loadAt 0 HS rfl Try.underlying3 rfl rfl rfl) rfl rfl rfl ?_
      refine W.rd (X.move rfl) rfl rfl rfl ?_
      obtain ⟨t6, A7, H⟩ := bind_s H
      refine W.ev (Y.call Try.func20 (by kernel_rfl) rfl (vs := [Value.int .i64 (a0.Ns), Value.int .i64 (a1)]) rfl (control_of.calls a0.Ns a1 _ w0 _  t6  A7 (Sep.St.tailJoin (m := []) (r := [blk nb1 (#[Value.int .i64 (a0.Kind), Value.int .i64 (a0.Ns), Value.int .i64 (a0.Nr), Value.bool (a0.Poll)]) 23, R]) HS))) rfl rfl rfl ?_
      rintro _ w ⟨rfl, HS⟩
      replace HS := Sep.St.tailOpen (m := []) (r := [blk nb1 (#[Value.int .i64 (a0.Kind), Value.int .i64 (a0.Ns), Value.int .i64 (a0.Nr), Value.bool (a0.Poll)]) 23, R]) HS
      have HS : Sep.St [blk nb1 (#[Value.int .i64 (a0.Kind), Value.int .i64 (a0.Ns), Value.int .i64 (a0.Nr), Value.bool (a0.Poll)]) 23, R] w0 w := HS
      refine W.rd (X.move rfl) rfl rfl rfl ?_
      by_cases c8 : t6 = true
      · replace H := ite_t c8 H
        refine W.want 17 rfl (sb c8) ?_
        refine W.rd (X.fieldAddr 2 fo23_2 rfl) rfl rfl rfl ?_
        refine W.want 17 rfl (sb c8) ?_
        refine W.rd (X.loadAt 0 HS rfl Try.underlying3 rfl rfl rfl) rfl rfl rfl ?_
        refine W.want 17 rfl (sb c8) ?_
        refine W.rd (X.move rfl) rfl rfl rfl ?_
        refine W.want 17 rfl (sb c8) ?_
        obtain ⟨t9, A10, H⟩ := bind_s H
        refine W.ev (Y.call Try.func20 (by kernel_rfl) rfl (vs := [Value.int .i64 (a0.Nr), Value.int .i64 (a1)]) rfl (control_of.calls a0.Nr a1 _ w0 _  t9  A10 (Sep.St.tailJoin (m := []) (r := [blk nb1 (#[Value.int .i64 (a0.Kind), Value.int .i64 (a0.Ns), Value.int .i64 (a0.Nr), Value.bool (a0.Poll)]) 23, R]) HS))) rfl rfl rfl ?_
        rintro _ w ⟨rfl, HS⟩
        replace HS := Sep.St.tailOpen (m := []) (r := [blk nb1 (#[Value.int .i64 (a0.Kind), Value.int .i64 (a0.Ns), Value.int .i64 (a0.Nr), Value.bool (a0.Poll)]) 23, R]) HS
        have HS : Sep.St [blk nb1 (#[Value.int .i64 (a0.Kind), Value.int .i64 (a0.Ns), Value.int .i64 (a0.Nr), Value.bool (a0.Poll)]) 23, R] w0 w := HS
        refine W.rd (X.pickT (sb c8) rfl) rfl rfl rfl ?_
        refine W.rd (X.assign rfl) rfl rfl rfl ?_
        refine W.nil ?_
        refine At.next ?_
        refine V.keep [(4, Value.bool (t9))] ⟨rfl, trivial⟩ ?_
        refine V.ret ?_
        refine At.blockRet ?_
        refine At.thenRet ?_
        replace HS := HS.sel [1] [0] rfl
        cases H
        exact At.ret1 rfl rfl ⟨_, rfl, rfl, HS⟩
      · replace H := ite_f c8 H
        refine W.pass 17 rfl (sb (b_f c8)) rfl rfl ?_
        refine W.pass 17 rfl (sb (b_f c8)) rfl rfl ?_
        refine W.pass 17 rfl (sb (b_f c8)) rfl rfl ?_
        refine W.pass 17 rfl (sb (b_f c8)) rfl rfl ?_
        refine W.rd (X.pickF (sb (b_f c8)) rfl) rfl rfl rfl ?_
        refine W.rd (X.assign rfl) rfl rfl rfl ?_
        refine W.nil ?_
        refine At.next ?_
        refine V.keep [(4, Value.bool (false))] ⟨rfl, trivial⟩ ?_
        refine V.ret ?_
        refine At.blockRet ?_
        refine At.thenRet ?_
        replace HS := HS.sel [1] [0] rfl
        cases H
        exact At.ret1 rfl rfl ⟨_, rfl, rfl, HS⟩
    · replace H := ite_f c5 H
      refine V.condF (sb (decide_eq_false c5)) ?_
      refine V.meet (σ := Bool) (fun st w => match st with | x12 => Sep.St [api_Ctl.at nb1 (a0), R] w0 w ∧ control_Right.j0 a0 a1 x12 = some r) (fun st => match st with | x12 => [(1, Value.int .i64 (a1)), (2, Value.pointer (some ⟨nb1, 0, none⟩)), (23, Value.bool (x12))]) ?_ ?_
      · refine V.region ?_
        refine W.rd (X.fieldAddr 0 fo23_0 rfl) rfl rfl rfl ?_
        refine W.rd (X.loadAt 0 HS rfl Try.underlying3 rfl rfl rfl) rfl rfl rfl ?_
        refine W.rd (X.cmp (decide (a0.Kind = 1)) rfl rfl rfl rfl) rfl rfl rfl ?_
        refine W.rd (X.move rfl) rfl rfl rfl ?_
        by_cases c24 : a0.Kind = 1
        · replace H := ite_t c24 H
          refine W.pass 27 rfl (sb (decide_eq_true c24)) rfl rfl ?_
          refine W.pass 27 rfl (sb (decide_eq_true c24)) rfl rfl ?_
          refine W.pass 27 rfl (sb (decide_eq_true c24)) rfl rfl ?_
          refine W.rd (X.pickT (sb (decide_eq_true c24)) rfl) rfl rfl rfl ?_
          refine W.rd (X.assign rfl) rfl rfl rfl ?_
          refine W.nil ?_
          replace HS := api_Ctl.close (a0) trivial HS
          have HS : Sep.St [api_Ctl.at nb1 (a0), R] w0 w := HS
          exact At.meet (true) ⟨rfl, rfl, rfl, trivial⟩ ⟨HS, H⟩
        · replace H := ite_f c24 H
          refine W.want 27 rfl (sb (decide_eq_false c24)) ?_
          refine W.rd (X.fieldAddr 0 fo23_0 rfl) rfl rfl rfl ?_
          refine W.want 27 rfl (sb (decide_eq_false c24)) ?_
          refine W.rd (X.loadAt 0 HS rfl Try.underlying3 rfl rfl rfl) rfl rfl rfl ?_
          refine W.want 27 rfl (sb (decide_eq_false c24)) ?_
          refine W.rd (X.cmp (decide (a0.Kind = 2)) rfl rfl rfl rfl) rfl rfl rfl ?_
          refine W.rd (X.pickF (sb (decide_eq_false c24)) rfl) rfl rfl rfl ?_
          refine W.rd (X.assign rfl) rfl rfl rfl ?_
          refine W.nil ?_
          replace HS := api_Ctl.close (a0) trivial HS
          have HS : Sep.St [api_Ctl.at nb1 (a0), R] w0 w := HS
          exact At.meet (decide (a0.Kind = 2)) ⟨rfl, rfl, rfl, trivial⟩ ⟨HS, H⟩
      · rintro x12 w ⟨HS, H⟩
        unfold control_Right.j0 at H
        have HS : Sep.St [api_Ctl.at nb1 (a0), R] w0 w := HS
        by_cases c13 : x12 = true
        · replace H := ite_t c13 H
          refine V.condT (sb c13) ?_
          refine V.seq ?_
          refine V.region ?_
          obtain ⟨hi15, HS⟩ := api_Ctl.open HS
          have HS : Sep.St [blk nb1 (#[Value.int .i64 ((a0).Kind), Value.int .i64 ((a0).Ns), Value.int .i64 ((a0).Nr), Value.bool ((a0).Poll)]) 23, R] w0 w := HS
          refine W.rd (X.fieldAddr 1 fo23_1 rfl) rfl rfl rfl ?_
          refine W.rd (X.loadAt 0 HS rfl Try.underlying3 rfl rfl rfl) rfl rfl rfl ?_
          refine W.rd (X.cmp (decide (((a0).Ns) = 0)) rfl rfl rfl rfl) rfl rfl rfl ?_
          refine W.rd (X.move rfl) rfl rfl rfl ?_
          by_cases c16 : ((a0).Ns) = 0
          · replace H := ite_t c16 H
            refine W.want 35 rfl (sb (decide_eq_true c16)) ?_
            refine W.rd (X.fieldAddr 2 fo23_2 rfl) rfl rfl rfl ?_
            refine W.want 35 rfl (sb (decide_eq_true c16)) ?_
            refine W.rd (X.loadAt 0 HS rfl Try.underlying3 rfl rfl rfl) rfl rfl rfl ?_
            refine W.want 35 rfl (sb (decide_eq_true c16)) ?_
            refine W.rd (X.move rfl) rfl rfl rfl ?_
            refine W.want 35 rfl (sb (decide_eq_true c16)) ?_
            obtain ⟨t17, A18, H⟩ := bind_s H
            refine W.ev (Y.call Try.func20 (by kernel_rfl) rfl (vs := [Value.int .i64 ((a0).Nr), Value.int .i64 (a1)]) rfl (control_of.calls ((a0).Nr) a1 _ w0 _  t17  A18 (Sep.St.tailJoin (m := []) (r := [blk nb1 (#[Value.int .i64 ((a0).Kind), Value.int .i64 ((a0).Ns), Value.int .i64 ((a0).Nr), Value.bool ((a0).Poll)]) 23, R]) HS))) rfl rfl rfl ?_
            rintro _ w ⟨rfl, HS⟩
            replace HS := Sep.St.tailOpen (m := []) (r := [blk nb1 (#[Value.int .i64 ((a0).Kind), Value.int .i64 ((a0).Ns), Value.int .i64 ((a0).Nr), Value.bool ((a0).Poll)]) 23, R]) HS
            have HS : Sep.St [blk nb1 (#[Value.int .i64 ((a0).Kind), Value.int .i64 ((a0).Ns), Value.int .i64 ((a0).Nr), Value.bool ((a0).Poll)]) 23, R] w0 w := HS
            refine W.rd (X.pickT (sb (decide_eq_true c16)) rfl) rfl rfl rfl ?_
            refine W.rd (X.assign rfl) rfl rfl rfl ?_
            refine W.nil ?_
            refine At.next ?_
            refine V.keep [(4, Value.bool (t17))] ⟨rfl, trivial⟩ ?_
            refine V.ret ?_
            refine At.blockRet ?_
            refine At.thenRet ?_
            replace HS := HS.sel [1] [0] rfl
            cases H
            exact At.ret1 rfl rfl ⟨_, rfl, rfl, HS⟩
          · replace H := ite_f c16 H
            refine W.pass 35 rfl (sb (decide_eq_false c16)) rfl rfl ?_
            refine W.pass 35 rfl (sb (decide_eq_false c16)) rfl rfl ?_
            refine W.pass 35 rfl (sb (decide_eq_false c16)) rfl rfl ?_
            refine W.pass 35 rfl (sb (decide_eq_false c16)) rfl rfl ?_
            refine W.rd (X.pickF (sb (decide_eq_false c16)) rfl) rfl rfl rfl ?_
            refine W.rd (X.assign rfl) rfl rfl rfl ?_
            refine W.nil ?_
            refine At.next ?_
            refine V.keep [(4, Value.bool (false))] ⟨rfl, trivial⟩ ?_
            refine V.ret ?_
            refine At.blockRet ?_
            refine At.thenRet ?_
            replace HS := HS.sel [1] [0] rfl
            cases H
            exact At.ret1 rfl rfl ⟨_, rfl, rfl, HS⟩
        · replace H := ite_f c13 H
          refine V.condF (sb (b_f c13)) ?_
          refine V.skip ?_
          refine At.blockEnd ?_
          refine At.next ?_
          refine V.keep [(2, Value.pointer (some ⟨nb1, 0, none⟩))] ⟨rfl, trivial⟩ ?_
          refine V.seq ?_
          refine V.region ?_
          obtain ⟨hi20, HS⟩ := api_Ctl.open HS
          have HS : Sep.St [blk nb1 (#[Value.int .i64 ((a0).Kind), Value.int .i64 ((a0).Ns), Value.int .i64 ((a0).Nr), Value.bool ((a0).Poll)]) 23, R] w0 w := HS
          refine W.rd (X.fieldAddr 0 fo23_0 rfl) rfl rfl rfl ?_
          refine W.rd (X.loadAt 0 HS rfl Try.underlying3 rfl rfl rfl) rfl rfl rfl ?_
          refine W.rd (X.cmp (decide (((a0).Kind) ≥ 3)) rfl rfl rfl rfl) rfl rfl rfl ?_
          refine W.rd (X.move rfl) rfl rfl rfl ?_
          by_cases c21 : ((a0).Kind) ≥ 3
          · replace H := ite_t c21 H
            refine W.want 44 rfl (sb (decide_eq_true c21)) ?_
            refine W.rd (X.fieldAddr 0 fo23_0 rfl) rfl rfl rfl ?_
            refine W.want 44 rfl (sb (decide_eq_true c21)) ?_
            refine W.rd (X.loadAt 0 HS rfl Try.underlying3 rfl rfl rfl) rfl rfl rfl ?_
            refine W.want 44 rfl (sb (decide_eq_true c21)) ?_
            refine W.rd (X.cmp (decide (((a0).Kind) ≤ 7)) rfl rfl rfl rfl) rfl rfl rfl ?_
            refine W.rd (X.pickT (sb (decide_eq_true c21)) rfl) rfl rfl rfl ?_
            refine W.rd (X.move rfl) rfl rfl rfl ?_
            by_cases c22 : ((a0).Kind) ≤ 7
            · replace H := ite_t c22 H
              refine W.want 49 rfl (sb (decide_eq_true c22)) ?_
              refine W.rd (X.fieldAddr 1 fo23_1 rfl) rfl rfl rfl ?_
              refine W.want 49 rfl (sb (decide_eq_true c22)) ?_
              refine W.rd (X.loadAt 0 HS rfl Try.underlying3 rfl rfl rfl) rfl rfl rfl ?_
              refine W.want 49 rfl (sb (decide_eq_true c22)) ?_
              refine W.rd (X.cmp (decide (((a0).Ns) = 0)) rfl rfl rfl rfl) rfl rfl rfl ?_
              refine W.rd (X.pickT (sb (decide_eq_true c22)) rfl) rfl rfl rfl ?_
              refine W.rd (X.move rfl) rfl rfl rfl ?_
              by_cases c23 : ((a0).Ns) = 0
              · replace H := ite_t c23 H
                refine W.want 54 rfl (sb (decide_eq_true c23)) ?_
                refine W.rd (X.fieldAddr 2 fo23_2 rfl) rfl rfl rfl ?_
                refine W.want 54 rfl (sb (decide_eq_true c23)) ?_
                refine W.rd (X.loadAt 0 HS rfl Try.underlying3 rfl rfl rfl) rfl rfl rfl ?_
                refine W.want 54 rfl (sb (decide_eq_true c23)) ?_
                refine W.rd (X.cmp (decide (((a0).Nr) = 0)) rfl rfl rfl rfl) rfl rfl rfl ?_
                refine W.rd (X.pickT (sb (decide_eq_true c23)) rfl) rfl rfl rfl ?_
                refine W.rd (X.assign rfl) rfl rfl rfl ?_
                refine W.nil ?_
                refine At.next ?_
                refine V.keep [(4, Value.bool (decide (((a0).Nr) = 0)))] ⟨rfl, trivial⟩ ?_
                refine V.ret ?_
                replace HS := HS.sel [1] [0] rfl
                cases H
                exact At.ret1 rfl rfl ⟨_, rfl, rfl, HS⟩
              · replace H := ite_f c23 H
                refine W.pass 54 rfl (sb (decide_eq_false c23)) rfl rfl ?_
                refine W.pass 54 rfl (sb (decide_eq_false c23)) rfl rfl ?_
                refine W.pass 54 rfl (sb (decide_eq_false c23)) rfl rfl ?_
                refine W.rd (X.pickF (sb (decide_eq_false c23)) rfl) rfl rfl rfl ?_
                refine W.rd (X.assign rfl) rfl rfl rfl ?_
                refine W.nil ?_
                refine At.next ?_
                refine V.keep [(4, Value.bool (false))] ⟨rfl, trivial⟩ ?_
                refine V.ret ?_
                replace HS := HS.sel [1] [0] rfl
                cases H
                exact At.ret1 rfl rfl ⟨_, rfl, rfl, HS⟩
            · replace H := ite_f c22 H
              refine W.pass 49 rfl (sb (decide_eq_false c22)) rfl rfl ?_
              refine W.pass 49 rfl (sb (decide_eq_false c22)) rfl rfl ?_
              refine W.pass 49 rfl (sb (decide_eq_false c22)) rfl rfl ?_
              refine W.rd (X.pickF (sb (decide_eq_false c22)) rfl) rfl rfl rfl ?_
              refine W.rd (X.move rfl) rfl rfl rfl ?_
              refine W.pass 54 rfl rfl rfl rfl ?_
              refine W.pass 54 rfl rfl rfl rfl ?_
              refine W.pass 54 rfl rfl rfl rfl ?_
              refine W.rd (X.pickF rfl rfl) rfl rfl rfl ?_
              refine W.rd (X.assign rfl) rfl rfl rfl ?_
              refine W.nil ?_
              refine At.next ?_
              refine V.keep [(4, Value.bool (false))] ⟨rfl, trivial⟩ ?_
              refine V.ret ?_
              replace HS := HS.sel [1] [0] rfl
              cases H
              exact At.ret1 rfl rfl ⟨_, rfl, rfl, HS⟩
          · replace H := ite_f c21 H
            refine W.pass 44 rfl (sb (decide_eq_false c21)) rfl rfl ?_
            refine W.pass 44 rfl (sb (decide_eq_false c21)) rfl rfl ?_
            refine W.pass 44 rfl (sb (decide_eq_false c21)) rfl rfl ?_
            refine W.rd (X.pickF (sb (decide_eq_false c21)) rfl) rfl rfl rfl ?_
            refine W.rd (X.move rfl) rfl rfl rfl ?_
            refine W.pass 49 rfl rfl rfl rfl ?_
            refine W.pass 49 rfl rfl rfl rfl ?_
            refine W.pass 49 rfl rfl rfl rfl ?_
            refine W.rd (X.pickF rfl rfl) rfl rfl rfl ?_
            refine W.rd (X.move rfl) rfl rfl rfl ?_
            refine W.pass 54 rfl rfl rfl rfl ?_
            refine W.pass 54 rfl rfl rfl rfl ?_
            refine W.pass 54 rfl rfl rfl rfl ?_
            refine W.rd (X.pickF rfl rfl) rfl rfl rfl ?_
            refine W.rd (X.assign rfl) rfl rfl rfl ?_
            refine W.nil ?_
            refine At.next ?_
            refine V.keep [(4, Value.bool (false))] ⟨rfl, trivial⟩ ?_
            refine V.ret ?_
            replace HS := HS.sel [1] [0] rfl
            cases H
            exact At.ret1 rfl rfl ⟨_, rfl, rfl, HS⟩
  · replace H := ite_f c4 H
    refine V.condT (sb (n_f (b_f c4))) ?_
    refine V.seq ?_
    refine V.region ?_
    refine W.rd (X.assign rfl) rfl rfl rfl ?_
    refine W.nil ?_
    refine At.next ?_
    refine V.keep [(4, Value.bool (false))] ⟨rfl, trivial⟩ ?_
    refine V.ret ?_
    refine At.blockRet ?_
    refine At.thenRet ?_
    replace HS := HS.sel [1] [0] rfl
    cases H
    exact At.ret1 rfl rfl ⟨_, rfl, rfl, HS⟩

/-! ### signalman/control.bit: function 16 -/
def control_bit.f (a0 : Bool) : Option (Int) := (if a0 = true then some (1) else some (0))
set_option maxRecDepth 100000 in
set_option maxHeartbeats 4000000 in
theorem control_bit.calls (a0 : Bool) (R : As) (w0 w : World)  (r : Int)  (H : control_bit.f a0 = some r) (HS : Sep.St [R] w0 w) : Calls Try.prog 16 #[Value.bool (a0)] w (Ret fun u w => u = Value.int .i64 (r) ∧ Sep.St [R] w0 w) := by
  unfold control_bit.f at H
  refine calls_enter Try.func16 rfl rfl ?_
  have H : _ = some r := H
  refine V.seq ?_
  refine V.region ?_
  refine W.rd (X.assign rfl) rfl rfl rfl ?_
  refine W.nil ?_
  refine At.next ?_
  refine V.keep [(0, Value.bool (a0))] ⟨rfl, trivial⟩ ?_
  refine V.seq ?_
  refine V.seq ?_
  refine V.region ?_
  refine W.rd (X.move rfl) rfl rfl rfl ?_
  refine W.nil ?_
  refine At.next ?_
  refine V.keep [(3, Value.bool (a0))] ⟨rfl, trivial⟩ ?_
  by_cases c1 : a0 = true
  · replace H := ite_t c1 H
    refine V.condT (sb c1) ?_
    refine V.seq ?_
    refine V.region ?_
    refine W.rd (X.assign rfl) rfl rfl rfl ?_
    refine W.nil ?_
    refine At.next ?_
    refine V.keep [(2, Value.int .i64 (1))] ⟨rfl, trivial⟩ ?_
    refine V.ret ?_
    refine At.thenRet ?_
    cases H
    exact At.ret1 rfl rfl ⟨_, rfl, rfl, HS⟩
  · replace H := ite_f c1 H
    refine V.condF (sb (b_f c1)) ?_
    refine V.skip ?_
    refine At.next ?_
    refine V.keep [] trivial ?_
    refine V.seq ?_
    refine V.region ?_
    refine W.rd (X.assign rfl) rfl rfl rfl ?_
    refine W.nil ?_
    refine At.next ?_
    refine V.keep [(2, Value.int .i64 (0))] ⟨rfl, trivial⟩ ?_
    refine V.ret ?_
    cases H
    exact At.ret1 rfl rfl ⟨_, rfl, rfl, HS⟩

/-! ### signalman/control.put: function 17 -/
def control_put.f (a0 : List Int) (a1 : Int) (a2 : Int) : Option (List Int) := (if ((a0).length : Int) + (([IntKind.u8.wrap (a1)] : List Int)).length ≤ 1099511627776 then (if a2 = 32768 then (if ((a0 ++ ([IntKind.u8.wrap (a1)] : List Int)).length : Int) + (([IntKind.u8.wrap ((a1).fdiv (2 ^ (min ((8 : Int)).toNat IntKind.i64.bits)))] : List Int)).length ≤ 1099511627776 then some ((a0 ++ ([IntKind.u8.wrap (a1)] : List Int)) ++ ([IntKind.u8.wrap ((a1).fdiv (2 ^ (min ((8 : Int)).toNat IntKind.i64.bits)))] : List Int)) else none) else some (a0 ++ ([IntKind.u8.wrap (a1)] : List Int))) else none)
set_option maxRecDepth 100000 in
set_option maxHeartbeats 4000000 in
theorem control_put.calls (a0 : List Int) (a1 : Int) (a2 : Int) (R : As) (w0 w : World) (sa0 : Option Addr) (sc0 : Nat) (r : List Int)  (H : control_put.f a0 a1 a2 = some r) (HS : Sep.St [row 5 1 (.slice sa0 (a0).length sc0) (a0).length ((a0).map (Value.int .u8)), R] w0 w) : Calls Try.prog 17 #[Value.slice sa0 (a0).length sc0, Value.int .i64 (a1), Value.int .i64 (a2)] w (Ret fun u w => ∃ (aq0 : Option Addr) (cq0 : Nat), u = Value.slice aq0 (r).length cq0 ∧ Sep.St [row 5 1 (.slice aq0 (r).length cq0) (r).length ((r).map (Value.int .u8)), R] w0 w) := by
  unfold control_put.f at H
  refine calls_enter Try.func17 rfl rfl ?_
  have H : _ = some r := H
  refine V.seq ?_
  refine V.region ?_
  refine W.rd (X.assign rfl) rfl rfl rfl ?_
  refine W.nil ?_
  refine At.next ?_
  refine V.keep [(0, Value.slice sa0 (a0).length sc0), (1, Value.int .i64 (a1)), (2, Value.int .i64 (a2))] ⟨rfl, rfl, rfl, trivial⟩ ?_
  refine V.seq ?_
  refine V.region ?_
  refine W.rd (X.move rfl) rfl rfl rfl ?_
  refine W.rd (X.move rfl) rfl rfl rfl ?_
  refine W.rd (X.conv Try.underlying3 Try.underlying5 rfl) rfl rfl rfl ?_
  refine W.ev (Y.litB (e := 5) (sz := 1) (vs := #[(0, Value.int .u8 (IntKind.u8.wrap (a1)))]) [Value.int .u8 (IntKind.u8.wrap (a1))] HS (fun a ha => by simp only [List.map_toArray, List.map_cons, List.map_nil]; rw [ha.ev (x := .tmp 9) (v := Value.int .u8 (IntKind.u8.wrap (a1))) rfl]; try rfl) rfl (by decide) (fun _ => by kernel_rfl)) rfl rfl rfl ?_
  rintro _ w ⟨lb3, rfl, HS⟩
  have HS : Sep.St [row 5 1 (.slice (some ⟨lb3, 0, none⟩) (([IntKind.u8.wrap (a1)] : List Int)).length 1) (([IntKind.u8.wrap (a1)] : List Int)).length ((([IntKind.u8.wrap (a1)] : List Int)).map (Value.int .u8)), row 5 1 (.slice sa0 (a0).length sc0) (a0).length ((a0).map (Value.int .u8)), R] w0 w := HS
  obtain ⟨c4, H⟩ := ite_n H
  refine W.ev (Y.appF (Value.int .u8) (fun _ => rfl) 1 Try.underlying26 ap5 rfl HS rfl rfl rfl (rdC.at 0 row_rd HS rfl) (by omega) (by omega)) rfl rfl rfl ?_
  rintro _ w ⟨ra5, rc6, rfl, HS⟩
  have HS : Sep.St [row 5 1 (.slice (some ⟨lb3, 0, none⟩) (([IntKind.u8.wrap (a1)] : List Int)).length 1) (([IntKind.u8.wrap (a1)] : List Int)).length ((([IntKind.u8.wrap (a1)] : List Int)).map (Value.int .u8)), row 5 1 (.slice ra5 (a0 ++ ([IntKind.u8.wrap (a1)] : List Int)).length rc6) (a0 ++ ([IntKind.u8.wrap (a1)] : List Int)).length ((a0 ++ ([IntKind.u8.wrap (a1)] : List Int)).map (Value.int .u8)), R] w0 w := HS
  refine W.rd (X.assign rfl) rfl rfl rfl ?_
  refine W.nil ?_
  refine At.next ?_
  refine V.keep [(0, Value.slice ra5 (a0 ++ ([IntKind.u8.wrap (a1)] : List Int)).length rc6), (1, Value.int .i64 (a1)), (2, Value.int .i64 (a2))] ⟨rfl, rfl, rfl, trivial⟩ ?_
  refine V.seq ?_
  refine V.seq ?_
  refine V.region ?_
  refine W.rd (X.move rfl) rfl rfl rfl ?_
  refine W.rd (X.cmp (decide (a2 = 32768)) rfl rfl rfl rfl) rfl rfl rfl ?_
  refine W.nil ?_
  refine At.next ?_
  refine V.keep [(0, Value.slice ra5 (a0 ++ ([IntKind.u8.wrap (a1)] : List Int)).length rc6), (1, Value.int .i64 (a1)), (13, Value.bool (decide (a2 = 32768)))] ⟨rfl, rfl, rfl, trivial⟩ ?_
  by_cases c7 : a2 = 32768
  · replace H := ite_t c7 H
    refine V.condT (sb (decide_eq_true c7)) ?_
    refine V.region ?_
    refine W.rd (X.move rfl) rfl rfl rfl ?_
    refine W.rd (X.move rfl) rfl rfl rfl ?_
    refine W.rd (X.shr rfl rfl (by decide)) rfl rfl rfl ?_
    refine W.rd (X.conv Try.underlying3 Try.underlying5 rfl) rfl rfl rfl ?_
    refine W.ev (Y.litB (e := 5) (sz := 1) (vs := #[(0, Value.int .u8 (IntKind.u8.wrap ((a1).fdiv (2 ^ (min ((8 : Int)).toNat IntKind.i64.bits)))))]) [Value.int .u8 (IntKind.u8.wrap ((a1).fdiv (2 ^ (min ((8 : Int)).toNat IntKind.i64.bits))))] HS (fun a ha => by simp only [List.map_toArray, List.map_cons, List.map_nil]; rw [ha.ev (x := .tmp 17) (v := Value.int .u8 (IntKind.u8.wrap ((a1).fdiv (2 ^ (min ((8 : Int)).toNat IntKind.i64.bits))))) rfl]; try rfl) rfl (by decide) (fun _ => by kernel_rfl)) rfl rfl rfl ?_
    rintro _ w ⟨lb10, rfl, HS⟩
    have HS : Sep.St [row 5 1 (.slice (some ⟨lb10, 0, none⟩) (([IntKind.u8.wrap ((a1).fdiv (2 ^ (min ((8 : Int)).toNat IntKind.i64.bits)))] : List Int)).length 1) (([IntKind.u8.wrap ((a1).fdiv (2 ^ (min ((8 : Int)).toNat IntKind.i64.bits)))] : List Int)).length ((([IntKind.u8.wrap ((a1).fdiv (2 ^ (min ((8 : Int)).toNat IntKind.i64.bits)))] : List Int)).map (Value.int .u8)), row 5 1 (.slice (some ⟨lb3, 0, none⟩) (([IntKind.u8.wrap (a1)] : List Int)).length 1) (([IntKind.u8.wrap (a1)] : List Int)).length ((([IntKind.u8.wrap (a1)] : List Int)).map (Value.int .u8)), row 5 1 (.slice ra5 (a0 ++ ([IntKind.u8.wrap (a1)] : List Int)).length rc6) (a0 ++ ([IntKind.u8.wrap (a1)] : List Int)).length ((a0 ++ ([IntKind.u8.wrap (a1)] : List Int)).map (Value.int .u8)), R] w0 w := HS
    obtain ⟨c11, H⟩ := ite_n H
    refine W.ev (Y.appF (Value.int .u8) (fun _ => rfl) 2 Try.underlying26 ap5 rfl HS rfl rfl rfl (rdC.at 0 row_rd HS rfl) (by omega) (by omega)) rfl rfl rfl ?_
    rintro _ w ⟨ra12, rc13, rfl, HS⟩
    have HS : Sep.St [row 5 1 (.slice (some ⟨lb10, 0, none⟩) (([IntKind.u8.wrap ((a1).fdiv (2 ^ (min ((8 : Int)).toNat IntKind.i64.bits)))] : List Int)).length 1) (([IntKind.u8.wrap ((a1).fdiv (2 ^ (min ((8 : Int)).toNat IntKind.i64.bits)))] : List Int)).length ((([IntKind.u8.wrap ((a1).fdiv (2 ^ (min ((8 : Int)).toNat IntKind.i64.bits)))] : List Int)).map (Value.int .u8)), row 5 1 (.slice (some ⟨lb3, 0, none⟩) (([IntKind.u8.wrap (a1)] : List Int)).length 1) (([IntKind.u8.wrap (a1)] : List Int)).length ((([IntKind.u8.wrap (a1)] : List Int)).map (Value.int .u8)), row 5 1 (.slice ra12 ((a0 ++ ([IntKind.u8.wrap (a1)] : List Int)) ++ ([IntKind.u8.wrap ((a1).fdiv (2 ^ (min ((8 : Int)).toNat IntKind.i64.bits)))] : List Int)).length rc13) ((a0 ++ ([IntKind.u8.wrap (a1)] : List Int)) ++ ([IntKind.u8.wrap ((a1).fdiv (2 ^ (min ((8 : Int)).toNat IntKind.i64.bits)))] : List Int)).length (((a0 ++ ([IntKind.u8.wrap (a1)] : List Int)) ++ ([IntKind.u8.wrap ((a1).fdiv (2 ^ (min ((8 : Int)).toNat IntKind.i64.bits)))] : List Int)).map (Value.int .u8)), R] w0 w := HS
    refine W.rd (X.assign rfl) rfl rfl rfl ?_
    refine W.nil ?_
    refine At.next ?_
    refine V.keep [(0, Value.slice ra12 ((a0 ++ ([IntKind.u8.wrap (a1)] : List Int)) ++ ([IntKind.u8.wrap ((a1).fdiv (2 ^ (min ((8 : Int)).toNat IntKind.i64.bits)))] : List Int)).length rc13)] ⟨rfl, trivial⟩ ?_
    refine V.seq ?_
    refine V.region ?_
    refine W.rd (X.move rfl) rfl rfl rfl ?_
    refine W.rd (X.assign rfl) rfl rfl rfl ?_
    refine W.nil ?_
    refine At.next ?_
    refine V.keep [(6, Value.slice ra12 ((a0 ++ ([IntKind.u8.wrap (a1)] : List Int)) ++ ([IntKind.u8.wrap ((a1).fdiv (2 ^ (min ((8 : Int)).toNat IntKind.i64.bits)))] : List Int)).length rc13)] ⟨rfl, trivial⟩ ?_
    refine V.ret ?_
    replace HS := HS.sel [2, 3] [0, 1] rfl
    cases H
    exact At.ret1 rfl rfl ⟨_, rfl, ra12, rc13, rfl, HS⟩
  · replace H := ite_f c7 H
    refine V.condF (sb (decide_eq_false c7)) ?_
    refine V.skip ?_
    refine At.next ?_
    refine V.keep [(0, Value.slice ra5 (a0 ++ ([IntKind.u8.wrap (a1)] : List Int)).length rc6)] ⟨rfl, trivial⟩ ?_
    refine V.seq ?_
    refine V.region ?_
    refine W.rd (X.move rfl) rfl rfl rfl ?_
    refine W.rd (X.assign rfl) rfl rfl rfl ?_
    refine W.nil ?_
    refine At.next ?_
    refine V.keep [(6, Value.slice ra5 (a0 ++ ([IntKind.u8.wrap (a1)] : List Int)).length rc6)] ⟨rfl, trivial⟩ ?_
    refine V.ret ?_
    replace HS := HS.sel [1, 2] [0] rfl
    cases H
    exact At.ret1 rfl rfl ⟨_, rfl, ra5, rc6, rfl, HS⟩

/-! ### signalman/control.plain: function 18 -/
def control_plain.f  : Option (List Int) := some (([111, 99, 67, 15, 135] : List Int))
set_option maxRecDepth 100000 in
set_option maxHeartbeats 4000000 in
theorem control_plain.calls  (R : As) (w0 w : World)  (r : List Int)  (H : control_plain.f  = some r) (HS : Sep.St [R] w0 w) : Calls Try.prog 18 #[] w (Ret fun u w => ∃ (aq0 : Option Addr) (cq0 : Nat), u = Value.slice aq0 (r).length cq0 ∧ Sep.St [row 5 1 (.slice aq0 (r).length cq0) (r).length ((r).map (Value.int .u8)), R] w0 w) := by
  unfold control_plain.f at H
  refine calls_enter Try.func18 rfl rfl ?_
  have H : _ = some r := H
  refine V.seq ?_
  refine V.region ?_
  refine W.rd (X.assign rfl) rfl rfl rfl ?_
  refine W.nil ?_
  refine At.next ?_
  refine V.keep [] trivial ?_
  refine V.seq ?_
  refine V.region ?_
  refine W.ev (Y.litB (e := 5) (sz := 1) (vs := #[(0, Value.int .u8 (111)), (1, Value.int .u8 (99)), (2, Value.int .u8 (67)), (3, Value.int .u8 (15)), (4, Value.int .u8 (135))]) [Value.int .u8 (111), Value.int .u8 (99), Value.int .u8 (67), Value.int .u8 (15), Value.int .u8 (135)] HS (fun a ha => by simp only [List.map_toArray, List.map_cons, List.map_nil]; try rfl) rfl (by decide) (fun _ => by kernel_rfl)) rfl rfl rfl ?_
  rintro _ w ⟨lb3, rfl, HS⟩
  have HS : Sep.St [row 5 1 (.slice (some ⟨lb3, 0, none⟩) (([111, 99, 67, 15, 135] : List Int)).length 5) (([111, 99, 67, 15, 135] : List Int)).length ((([111, 99, 67, 15, 135] : List Int)).map (Value.int .u8)), R] w0 w := HS
  refine W.rd (X.assign rfl) rfl rfl rfl ?_
  refine W.nil ?_
  refine At.next ?_
  refine V.keep [(0, Value.slice (some ⟨lb3, 0, none⟩) (([111, 99, 67, 15, 135] : List Int)).length 5)] ⟨rfl, trivial⟩ ?_
  refine V.ret ?_
  cases H
  exact At.ret1 rfl rfl ⟨_, rfl, (some ⟨lb3, 0, none⟩), 5, rfl, HS⟩

/-! ### signalman/control.Bytes: function 10 -/
def control_Bytes.f (a0 : api_Ctl) (a1 : Int) : Option (List Int) := ((control_Right.f a0 a1).bind fun t3 => (if t3 = true then ((control_bit.f a0.Poll).bind fun t6 => (if a0.Kind = 0 then ((control_put.f ([] : List Int) (w64 (2 * a0.Ns)) a1).bind fun t9 => ((control_put.f t9 (w64 ((w64 (2 * a0.Nr)) + t6)) a1).bind fun t11 => some (t11))) else (if a0.Kind = 1 then ((control_put.f ([] : List Int) 1 a1).bind fun t14 => ((control_put.f t14 (w64 ((w64 (2 * a0.Nr)) + t6)) a1).bind fun t16 => some (t16))) else (if a0.Kind = 2 then ((control_put.f ([] : List Int) 9 a1).bind fun t19 => ((control_put.f t19 (w64 ((w64 (2 * a0.Nr)) + t6)) a1).bind fun t21 => some (t21))) else ((control_plain.f ).bind fun t23 => (if 0 ≤ w64 (a0.Kind - 3) ∧ w64 (a0.Kind - 3) < ((t23).length : Int) then some (([ior .u8 ((t23).getD (w64 (a0.Kind - 3)).toNat 0) (IntKind.u8.wrap (w64 (t6 * 16)))] : List Int)) else none)))))) else some (([] : List Int))))
set_option maxRecDepth 100000 in
set_option maxHeartbeats 4000000 in
theorem control_Bytes.calls (a0 : api_Ctl) (a1 : Int) (R : As) (w0 w : World)  (r : List Int)  (H : control_Bytes.f a0 a1 = some r) (HS : Sep.St [R] w0 w) : Calls Try.prog 10 #[Value.agg #[Value.int .i64 (a0.Kind), Value.int .i64 (a0.Ns), Value.int .i64 (a0.Nr), Value.bool (a0.Poll)], Value.int .i64 (a1)] w (Ret fun u w => ∃ (aq0 : Option Addr) (cq0 : Nat), u = Value.slice aq0 (r).length cq0 ∧ Sep.St [row 5 1 (.slice aq0 (r).length cq0) (r).length ((r).map (Value.int .u8)), R] w0 w) := by
  unfold control_Bytes.f at H
  refine calls_enter Try.func10 rfl rfl ?_
  have H : _ = some r := H
  refine V.seq ?_
  refine V.region ?_
  refine W.ev (Y.box HS rfl) rfl rfl rfl ?_
  rintro _ w ⟨nb1, rfl, HS⟩
  have HS : Sep.St [blk nb1 (#[Value.int .i64 (a0.Kind), Value.int .i64 (a0.Ns), Value.int .i64 (a0.Nr), Value.bool (a0.Poll)]) 23, R] w0 w := HS
  refine W.rd (X.assign rfl) rfl rfl rfl ?_
  refine W.nil ?_
  refine At.next ?_
  refine V.keep [(1, Value.int .i64 (a1)), (2, Value.pointer (some ⟨nb1, 0, none⟩))] ⟨rfl, rfl, trivial⟩ ?_
  refine V.seq ?_
  refine V.seq ?_
  refine V.region ?_
  refine W.rd (X.loadSt 0 [Value.int .i64 (a0.Kind), Value.int .i64 (a0.Ns), Value.int .i64 (a0.Nr), Value.bool (a0.Poll)] HS rfl Try.underlying23 rfl inf23 rfl rfl) rfl rfl rfl ?_
  refine W.rd (X.move rfl) rfl rfl rfl ?_
  obtain ⟨t3, A4, H⟩ := bind_s H
  refine W.ev (Y.call Try.func11 (by kernel_rfl) rfl (vs := [Value.agg #[Value.int .i64 (a0.Kind), Value.int .i64 (a0.Ns), Value.int .i64 (a0.Nr), Value.bool (a0.Poll)], Value.int .i64 (a1)]) rfl (control_Right.calls a0 a1 _ w0 _  t3  A4 (Sep.St.tailJoin (m := []) (r := [blk nb1 (#[Value.int .i64 (a0.Kind), Value.int .i64 (a0.Ns), Value.int .i64 (a0.Nr), Value.bool (a0.Poll)]) 23, R]) HS))) rfl rfl rfl ?_
  rintro _ w ⟨rfl, HS⟩
  replace HS := Sep.St.tailOpen (m := []) (r := [blk nb1 (#[Value.int .i64 (a0.Kind), Value.int .i64 (a0.Ns), Value.int .i64 (a0.Nr), Value.bool (a0.Poll)]) 23, R]) HS
  have HS : Sep.St [blk nb1 (#[Value.int .i64 (a0.Kind), Value.int .i64 (a0.Ns), Value.int .i64 (a0.Nr), Value.bool (a0.Poll)]) 23, R] w0 w := HS
  refine W.rd (X.not rfl) rfl rfl rfl ?_
  refine W.nil ?_
  refine At.next ?_
  refine V.keep [(1, Value.int .i64 (a1)), (2, Value.pointer (some ⟨nb1, 0, none⟩)), (9, Value.bool (!(t3)))] ⟨rfl, rfl, rfl, trivial⟩ ?_
  by_cases c5 : t3 = true
  · replace H := ite_t c5 H
    refine V.condF (sb (n_t c5)) ?_
    refine V.skip ?_
    refine At.next ?_
    refine V.keep [(1, Value.int .i64 (a1)), (2, Value.pointer (some ⟨nb1, 0, none⟩))] ⟨rfl, rfl, trivial⟩ ?_
    refine V.seq ?_
    refine V.region ?_
    refine W.rd (X.fieldAddr 3 fo23_3 rfl) rfl rfl rfl ?_
    refine W.rd (X.loadAt 0 HS rfl Try.underlying4 rfl rfl rfl) rfl rfl rfl ?_
    obtain ⟨t6, A7, H⟩ := bind_s H
    refine W.ev (Y.call Try.func16 (by kernel_rfl) rfl (vs := [Value.bool (a0.Poll)]) rfl (control_bit.calls a0.Poll _ w0 _  t6  A7 (Sep.St.tailJoin (m := []) (r := [blk nb1 (#[Value.int .i64 (a0.Kind), Value.int .i64 (a0.Ns), Value.int .i64 (a0.Nr), Value.bool (a0.Poll)]) 23, R]) HS))) rfl rfl rfl ?_
    rintro _ w ⟨rfl, HS⟩
    replace HS := Sep.St.tailOpen (m := []) (r := [blk nb1 (#[Value.int .i64 (a0.Kind), Value.int .i64 (a0.Ns), Value.int .i64 (a0.Nr), Value.bool (a0.Poll)]) 23, R]) HS
    have HS : Sep.St [blk nb1 (#[Value.int .i64 (a0.Kind), Value.int .i64 (a0.Ns), Value.int .i64 (a0.Nr), Value.bool (a0.Poll)]) 23, R] w0 w := HS
    refine W.rd (X.assign rfl) rfl rfl rfl ?_
    refine W.nil ?_
    refine At.next ?_
    refine V.keep [(1, Value.int .i64 (a1)), (2, Value.pointer (some ⟨nb1, 0, none⟩)), (5, Value.int .i64 (t6))] ⟨rfl, rfl, rfl, trivial⟩ ?_
    refine V.seq ?_
    refine V.seq ?_
    refine V.region ?_
    refine W.rd (X.fieldAddr 0 fo23_0 rfl) rfl rfl rfl ?_
    refine W.rd (X.loadAt 0 HS rfl Try.underlying3 rfl rfl rfl) rfl rfl rfl ?_
    refine W.nil ?_
    refine At.next ?_
    refine V.keep [(1, Value.int .i64 (a1)), (2, Value.pointer (some ⟨nb1, 0, none⟩)), (5, Value.int .i64 (t6)), (14, Value.int .i64 (a0.Kind))] ⟨rfl, rfl, rfl, rfl, trivial⟩ ?_
    refine V.block ?_
    refine V.seq ?_
    refine V.region ?_
    refine W.rd (X.cmp (decide (a0.Kind = 0)) rfl rfl rfl rfl) rfl rfl rfl ?_
    refine W.rd (X.assign rfl) rfl rfl rfl ?_
    refine W.nil ?_
    refine At.next ?_
    refine V.keep [(1, Value.int .i64 (a1)), (2, Value.pointer (some ⟨nb1, 0, none⟩)), (5, Value.int .i64 (t6)), (14, Value.int .i64 (a0.Kind)), (15, Value.bool (decide (a0.Kind = 0)))] ⟨rfl, rfl, rfl, rfl, rfl, trivial⟩ ?_
    by_cases c8 : a0.Kind = 0
    · replace H := ite_t c8 H
      refine V.condT (sb (decide_eq_true c8)) ?_
      refine V.seq ?_
      refine V.draw (es := [4, 11]) (bl := [12]) (f := [(17, Value.pointer (some ⟨nb1, 0 + 1, none⟩)), (18, Value.int .i64 (a0.Ns)), (19, Value.int .i64 (w64 (2 * a0.Ns))), (20, Value.int .i64 (a1)), (22, Value.pointer (some ⟨nb1, 0 + 2, none⟩)), (23, Value.int .i64 (a0.Nr)), (24, Value.int .i64 (w64 (2 * a0.Nr))), (25, Value.int .i64 (t6)), (26, Value.int .i64 (w64 ((w64 (2 * a0.Nr)) + t6))), (27, Value.int .i64 (a1))]) (fun w => Sep.St [blk nb1 (#[Value.int .i64 (a0.Kind), Value.int .i64 (a0.Ns), Value.int .i64 (a0.Nr), Value.bool (a0.Poll)]) 23, R] w0 w) mo HS.drew rfl ?_
      refine T.event _ [(19, Value.int .i64 (w64 (2 * a0.Ns))), (20, Value.int .i64 (a1))] rfl rfl ⟨⟨_, Value.pointer (some ⟨nb1, 0 + 1, none⟩), [(2, Value.pointer (some ⟨nb1, 0, none⟩))], 17, rfl, rfl, ⟨.inl ⟨rfl, rfl⟩, trivial⟩, .run rfl (fun w HS => X.fieldAddr 1 fo23_1 rfl), rfl, rfl, rfl⟩, ⟨_, Value.int .i64 (a0.Ns), [(17, Value.pointer (some ⟨nb1, 0 + 1, none⟩))], 18, rfl, rfl, ⟨.inr ⟨rfl, rfl⟩, trivial⟩, .run rfl (fun w HS => X.loadAt 0 HS rfl Try.underlying3 rfl rfl rfl), rfl, rfl, rfl⟩, ⟨_, Value.int .i64 (w64 (2 * a0.Ns)), [(18, Value.int .i64 (a0.Ns))], 19, rfl, rfl, ⟨.inr ⟨rfl, rfl⟩, trivial⟩, .run rfl (fun w HS => X.mul rfl rfl), rfl, rfl, rfl⟩, ⟨_, Value.int .i64 (a1), [(1, Value.int .i64 (a1))], 20, rfl, rfl, ⟨.inl ⟨rfl, rfl⟩, trivial⟩, .run rfl (fun w HS => X.move rfl), rfl, rfl, rfl⟩, ⟨_, Value.pointer (some ⟨nb1, 0 + 2, none⟩), [(2, Value.pointer (some ⟨nb1, 0, none⟩))], 22, rfl, rfl, ⟨.inl ⟨rfl, rfl⟩, trivial⟩, .run rfl (fun w HS => X.fieldAddr 2 fo23_2 rfl), rfl, rfl, rfl⟩, ⟨_, Value.int .i64 (a0.Nr), [(22, Value.pointer (some ⟨nb1, 0 + 2, none⟩))], 23, rfl, rfl, ⟨.inr ⟨rfl, rfl⟩, trivial⟩, .run rfl (fun w HS => X.loadAt 0 HS rfl Try.underlying3 rfl rfl rfl), rfl, rfl, rfl⟩, ⟨_, Value.int .i64 (w64 (2 * a0.Nr)), [(23, Value.int .i64 (a0.Nr))], 24, rfl, rfl, ⟨.inr ⟨rfl, rfl⟩, trivial⟩, .run rfl (fun w HS => X.mul rfl rfl), rfl, rfl, rfl⟩, ⟨_, Value.int .i64 (t6), [(5, Value.int .i64 (t6))], 25, rfl, rfl, ⟨.inl ⟨rfl, rfl⟩, trivial⟩, .run rfl (fun w HS => X.move rfl), rfl, rfl, rfl⟩, ⟨_, Value.int .i64 (w64 ((w64 (2 * a0.Nr)) + t6)), [(24, Value.int .i64 (w64 (2 * a0.Nr))), (25, Value.int .i64 (t6))], 26, rfl, rfl, ⟨.inr ⟨rfl, rfl⟩, ⟨.inr ⟨rfl, rfl⟩, trivial⟩⟩, .run rfl (fun w HS => X.add rfl rfl), rfl, rfl, rfl⟩, ⟨_, Value.int .i64 (a1), [(1, Value.int .i64 (a1))], 27, rfl, rfl, ⟨.inl ⟨rfl, rfl⟩, trivial⟩, .run rfl (fun w HS => X.move rfl), rfl, rfl, rfl⟩, trivial⟩ rfl ⟨.inr ⟨rfl, rfl⟩, ⟨.inr ⟨rfl, rfl⟩, trivial⟩⟩ (Or.inl rfl) (by intro d hd; cases hd; exact ⟨by decide, rfl, rfl⟩) [12] [0, 1, 2, 3] rfl rfl (fun w HS => ?_)
      have HS : Sep.St [blk nb1 (#[Value.int .i64 (a0.Kind), Value.int .i64 (a0.Ns), Value.int .i64 (a0.Nr), Value.bool (a0.Poll)]) 23, R] w0 w := HS
      replace HS := row_nil' (e := 5) 1 none HS
      have HS : Sep.St [row 5 1 (.slice none (([] : List Int)).length 0) (([] : List Int)).length ((([] : List Int)).map (Value.int .u8)), blk nb1 (#[Value.int .i64 (a0.Kind), Value.int .i64 (a0.Ns), Value.int .i64 (a0.Nr), Value.bool (a0.Poll)]) 23, R] w0 w := HS
      obtain ⟨t9, A10, H⟩ := bind_s H
      refine ⟨_, Y.call Try.func17 (by kernel_rfl) rfl (vs := [Value.slice none (([] : List Int)).length 0, Value.int .i64 (w64 (2 * a0.Ns)), Value.int .i64 (a1)]) rfl (control_put.calls ([] : List Int) (w64 (2 * a0.Ns)) a1 _ w0 _ none 0 t9  A10 (Sep.St.tailJoin (m := [row 5 1 (.slice none (([] : List Int)).length 0) (([] : List Int)).length ((([] : List Int)).map (Value.int .u8))]) (r := [blk nb1 (#[Value.int .i64 (a0.Kind), Value.int .i64 (a0.Ns), Value.int .i64 (a0.Nr), Value.bool (a0.Poll)]) 23, R]) HS)), ?_⟩
      rintro _ w ⟨at9_0, ct9_0, rfl, HS⟩
      replace HS := Sep.St.tailOpen (m := [row 5 1 (.slice at9_0 (t9).length ct9_0) (t9).length ((t9).map (Value.int .u8))]) (r := [blk nb1 (#[Value.int .i64 (a0.Kind), Value.int .i64 (a0.Ns), Value.int .i64 (a0.Nr), Value.bool (a0.Poll)]) 23, R]) HS
      have HS : Sep.St [row 5 1 (.slice at9_0 (t9).length ct9_0) (t9).length ((t9).map (Value.int .u8)), blk nb1 (#[Value.int .i64 (a0.Kind), Value.int .i64 (a0.Ns), Value.int .i64 (a0.Nr), Value.bool (a0.Poll)]) 23, R] w0 w := HS
      refine ⟨[(21, Value.slice at9_0 (t9).length ct9_0)], fun w => Sep.St [row 5 1 (.slice at9_0 (t9).length ct9_0) (t9).length ((t9).map (Value.int .u8)), blk nb1 (#[Value.int .i64 (a0.Kind), Value.int .i64 (a0.Ns), Value.int .i64 (a0.Nr), Value.bool (a0.Poll)]) 23, R] w0 w, ⟨.inl ⟨rfl, rfl⟩, trivial⟩, ?_, HS⟩
      refine T.event _ [(21, Value.slice at9_0 (t9).length ct9_0), (26, Value.int .i64 (w64 ((w64 (2 * a0.Nr)) + t6))), (27, Value.int .i64 (a1))] rfl rfl ⟨⟨_, Value.pointer (some ⟨nb1, 0 + 2, none⟩), [(2, Value.pointer (some ⟨nb1, 0, none⟩))], 22, rfl, rfl, ⟨.inl ⟨rfl, rfl⟩, trivial⟩, .run rfl (fun w HS => X.fieldAddr 2 fo23_2 rfl), rfl, rfl, rfl⟩, ⟨_, Value.int .i64 (a0.Nr), [(22, Value.pointer (some ⟨nb1, 0 + 2, none⟩))], 23, rfl, rfl, ⟨.inr ⟨rfl, rfl⟩, trivial⟩, .run rfl (fun w HS => X.loadAt 1 HS rfl Try.underlying3 rfl rfl rfl), rfl, rfl, rfl⟩, ⟨_, Value.int .i64 (w64 (2 * a0.Nr)), [(23, Value.int .i64 (a0.Nr))], 24, rfl, rfl, ⟨.inr ⟨rfl, rfl⟩, trivial⟩, .run rfl (fun w HS => X.mul rfl rfl), rfl, rfl, rfl⟩, ⟨_, Value.int .i64 (t6), [(5, Value.int .i64 (t6))], 25, rfl, rfl, ⟨.inl ⟨rfl, rfl⟩, trivial⟩, .run rfl (fun w HS => X.move rfl), rfl, rfl, rfl⟩, ⟨_, Value.int .i64 (w64 ((w64 (2 * a0.Nr)) + t6)), [(24, Value.int .i64 (w64 (2 * a0.Nr))), (25, Value.int .i64 (t6))], 26, rfl, rfl, ⟨.inr ⟨rfl, rfl⟩, ⟨.inr ⟨rfl, rfl⟩, trivial⟩⟩, .run rfl (fun w HS => X.add rfl rfl), rfl, rfl, rfl⟩, ⟨_, Value.int .i64 (a1), [(1, Value.int .i64 (a1))], 27, rfl, rfl, ⟨.inl ⟨rfl, rfl⟩, trivial⟩, .run rfl (fun w HS => X.move rfl), rfl, rfl, rfl⟩, trivial⟩ rfl ⟨.inr ⟨rfl, rfl⟩, ⟨.inr ⟨rfl, rfl⟩, ⟨.inr ⟨rfl, rfl⟩, trivial⟩⟩⟩ (Or.inl rfl) (by intro d hd; cases hd; exact ⟨by decide, rfl, rfl⟩) [] [5, 6, 7, 8, 9, 10] rfl rfl (fun w HS => ?_)
      have HS : Sep.St [row 5 1 (.slice at9_0 (t9).length ct9_0) (t9).length ((t9).map (Value.int .u8)), blk nb1 (#[Value.int .i64 (a0.Kind), Value.int .i64 (a0.Ns), Value.int .i64 (a0.Nr), Value.bool (a0.Poll)]) 23, R] w0 w := HS
      obtain ⟨t11, A12, H⟩ := bind_s H
      refine ⟨_, Y.call Try.func17 (by kernel_rfl) rfl (vs := [Value.slice at9_0 (t9).length ct9_0, Value.int .i64 (w64 ((w64 (2 * a0.Nr)) + t6)), Value.int .i64 (a1)]) rfl (control_put.calls t9 (w64 ((w64 (2 * a0.Nr)) + t6)) a1 _ w0 _ at9_0 ct9_0 t11  A12 (Sep.St.tailJoin (m := [row 5 1 (.slice at9_0 (t9).length ct9_0) (t9).length ((t9).map (Value.int .u8))]) (r := [blk nb1 (#[Value.int .i64 (a0.Kind), Value.int .i64 (a0.Ns), Value.int .i64 (a0.Nr), Value.bool (a0.Poll)]) 23, R]) HS)), ?_⟩
      rintro _ w ⟨at11_0, ct11_0, rfl, HS⟩
      replace HS := Sep.St.tailOpen (m := [row 5 1 (.slice at11_0 (t11).length ct11_0) (t11).length ((t11).map (Value.int .u8))]) (r := [blk nb1 (#[Value.int .i64 (a0.Kind), Value.int .i64 (a0.Ns), Value.int .i64 (a0.Nr), Value.bool (a0.Poll)]) 23, R]) HS
      have HS : Sep.St [row 5 1 (.slice at11_0 (t11).length ct11_0) (t11).length ((t11).map (Value.int .u8)), blk nb1 (#[Value.int .i64 (a0.Kind), Value.int .i64 (a0.Ns), Value.int .i64 (a0.Nr), Value.bool (a0.Poll)]) 23, R] w0 w := HS
      refine ⟨[(28, Value.slice at11_0 (t11).length ct11_0), (4, Value.slice at11_0 (t11).length ct11_0)], fun w => Sep.St [row 5 1 (.slice at11_0 (t11).length ct11_0) (t11).length ((t11).map (Value.int .u8)), blk nb1 (#[Value.int .i64 (a0.Kind), Value.int .i64 (a0.Ns), Value.int .i64 (a0.Nr), Value.bool (a0.Poll)]) 23, R] w0 w, ⟨.inl ⟨rfl, rfl⟩, ⟨.inr ⟨by decide, rfl⟩, trivial⟩⟩, ?_, HS⟩
      refine T.fin [(4, Value.slice at11_0 (t11).length ct11_0)] rfl ⟨⟨_, Value.slice at11_0 (t11).length ct11_0, [(28, Value.slice at11_0 (t11).length ct11_0)], 4, rfl, rfl, ⟨.inr ⟨rfl, rfl⟩, trivial⟩, .run rfl (fun w HS => X.assign rfl), rfl, rfl, rfl⟩, trivial⟩ ⟨.inr ⟨rfl, rfl⟩, trivial⟩ (fun w HS => ?_)
      have HS : Sep.St [row 5 1 (.slice at11_0 (t11).length ct11_0) (t11).length ((t11).map (Value.int .u8)), blk nb1 (#[Value.int .i64 (a0.Kind), Value.int .i64 (a0.Ns), Value.int .i64 (a0.Nr), Value.bool (a0.Poll)]) 23, R] w0 w := HS
      refine At.next ?_
      refine V.keep [(4, Value.slice at11_0 (t11).length ct11_0)] ⟨rfl, trivial⟩ ?_
      refine V.ret ?_
      refine At.blockRet ?_
      refine At.thenRet ?_
      replace HS := HS.sel [0, 2] [1] rfl
      cases H
      exact At.ret1 rfl rfl ⟨_, rfl, at11_0, ct11_0, rfl, HS⟩
    · replace H := ite_f c8 H
      refine V.condF (sb (decide_eq_false c8)) ?_
      refine V.seq ?_
      refine V.region ?_
      refine W.rd (X.cmp (decide (a0.Kind = 1)) rfl rfl rfl rfl) rfl rfl rfl ?_
      refine W.rd (X.assign rfl) rfl rfl rfl ?_
      refine W.nil ?_
      refine At.next ?_
      refine V.keep [(1, Value.int .i64 (a1)), (2, Value.pointer (some ⟨nb1, 0, none⟩)), (5, Value.int .i64 (t6)), (14, Value.int .i64 (a0.Kind)), (29, Value.bool (decide (a0.Kind = 1)))] ⟨rfl, rfl, rfl, rfl, rfl, trivial⟩ ?_
      by_cases c13 : a0.Kind = 1
      · replace H := ite_t c13 H
        refine V.condT (sb (decide_eq_true c13)) ?_
        refine V.seq ?_
        refine V.draw (es := [1, 8]) (bl := [9]) (f := [(31, Value.int .i64 (a1)), (33, Value.pointer (some ⟨nb1, 0 + 2, none⟩)), (34, Value.int .i64 (a0.Nr)), (35, Value.int .i64 (w64 (2 * a0.Nr))), (36, Value.int .i64 (t6)), (37, Value.int .i64 (w64 ((w64 (2 * a0.Nr)) + t6))), (38, Value.int .i64 (a1))]) (fun w => Sep.St [blk nb1 (#[Value.int .i64 (a0.Kind), Value.int .i64 (a0.Ns), Value.int .i64 (a0.Nr), Value.bool (a0.Poll)]) 23, R] w0 w) mo HS.drew rfl ?_
        refine T.event _ [(31, Value.int .i64 (a1))] rfl rfl ⟨⟨_, Value.int .i64 (a1), [(1, Value.int .i64 (a1))], 31, rfl, rfl, ⟨.inl ⟨rfl, rfl⟩, trivial⟩, .run rfl (fun w HS => X.move rfl), rfl, rfl, rfl⟩, ⟨_, Value.pointer (some ⟨nb1, 0 + 2, none⟩), [(2, Value.pointer (some ⟨nb1, 0, none⟩))], 33, rfl, rfl, ⟨.inl ⟨rfl, rfl⟩, trivial⟩, .run rfl (fun w HS => X.fieldAddr 2 fo23_2 rfl), rfl, rfl, rfl⟩, ⟨_, Value.int .i64 (a0.Nr), [(33, Value.pointer (some ⟨nb1, 0 + 2, none⟩))], 34, rfl, rfl, ⟨.inr ⟨rfl, rfl⟩, trivial⟩, .run rfl (fun w HS => X.loadAt 0 HS rfl Try.underlying3 rfl rfl rfl), rfl, rfl, rfl⟩, ⟨_, Value.int .i64 (w64 (2 * a0.Nr)), [(34, Value.int .i64 (a0.Nr))], 35, rfl, rfl, ⟨.inr ⟨rfl, rfl⟩, trivial⟩, .run rfl (fun w HS => X.mul rfl rfl), rfl, rfl, rfl⟩, ⟨_, Value.int .i64 (t6), [(5, Value.int .i64 (t6))], 36, rfl, rfl, ⟨.inl ⟨rfl, rfl⟩, trivial⟩, .run rfl (fun w HS => X.move rfl), rfl, rfl, rfl⟩, ⟨_, Value.int .i64 (w64 ((w64 (2 * a0.Nr)) + t6)), [(35, Value.int .i64 (w64 (2 * a0.Nr))), (36, Value.int .i64 (t6))], 37, rfl, rfl, ⟨.inr ⟨rfl, rfl⟩, ⟨.inr ⟨rfl, rfl⟩, trivial⟩⟩, .run rfl (fun w HS => X.add rfl rfl), rfl, rfl, rfl⟩, ⟨_, Value.int .i64 (a1), [(1, Value.int .i64 (a1))], 38, rfl, rfl, ⟨.inl ⟨rfl, rfl⟩, trivial⟩, .run rfl (fun w HS => X.move rfl), rfl, rfl, rfl⟩, trivial⟩ rfl ⟨.inr ⟨rfl, rfl⟩, trivial⟩ (Or.inl rfl) (by intro d hd; cases hd; exact ⟨by decide, rfl, rfl⟩) [9] [0] rfl rfl (fun w HS => ?_)
        have HS : Sep.St [blk nb1 (#[Value.int .i64 (a0.Kind), Value.int .i64 (a0.Ns), Value.int .i64 (a0.Nr), Value.bool (a0.Poll)]) 23, R] w0 w := HS
        replace HS := row_nil' (e := 5) 1 none HS
        have HS : Sep.St [row 5 1 (.slice none (([] : List Int)).length 0) (([] : List Int)).length ((([] : List Int)).map (Value.int .u8)), blk nb1 (#[Value.int .i64 (a0.Kind), Value.int .i64 (a0.Ns), Value.int .i64 (a0.Nr), Value.bool (a0.Poll)]) 23, R] w0 w := HS
        obtain ⟨t14, A15, H⟩ := bind_s H
        refine ⟨_, Y.call Try.func17 (by kernel_rfl) rfl (vs := [Value.slice none (([] : List Int)).length 0, Value.int .i64 (1), Value.int .i64 (a1)]) rfl (control_put.calls ([] : List Int) 1 a1 _ w0 _ none 0 t14  A15 (Sep.St.tailJoin (m := [row 5 1 (.slice none (([] : List Int)).length 0) (([] : List Int)).length ((([] : List Int)).map (Value.int .u8))]) (r := [blk nb1 (#[Value.int .i64 (a0.Kind), Value.int .i64 (a0.Ns), Value.int .i64 (a0.Nr), Value.bool (a0.Poll)]) 23, R]) HS)), ?_⟩
        rintro _ w ⟨at14_0, ct14_0, rfl, HS⟩
        replace HS := Sep.St.tailOpen (m := [row 5 1 (.slice at14_0 (t14).length ct14_0) (t14).length ((t14).map (Value.int .u8))]) (r := [blk nb1 (#[Value.int .i64 (a0.Kind), Value.int .i64 (a0.Ns), Value.int .i64 (a0.Nr), Value.bool (a0.Poll)]) 23, R]) HS
        have HS : Sep.St [row 5 1 (.slice at14_0 (t14).length ct14_0) (t14).length ((t14).map (Value.int .u8)), blk nb1 (#[Value.int .i64 (a0.Kind), Value.int .i64 (a0.Ns), Value.int .i64 (a0.Nr), Value.bool (a0.Poll)]) 23, R] w0 w := HS
        refine ⟨[(32, Value.slice at14_0 (t14).length ct14_0)], fun w => Sep.St [row 5 1 (.slice at14_0 (t14).length ct14_0) (t14).length ((t14).map (Value.int .u8)), blk nb1 (#[Value.int .i64 (a0.Kind), Value.int .i64 (a0.Ns), Value.int .i64 (a0.Nr), Value.bool (a0.Poll)]) 23, R] w0 w, ⟨.inl ⟨rfl, rfl⟩, trivial⟩, ?_, HS⟩
        refine T.event _ [(32, Value.slice at14_0 (t14).length ct14_0), (37, Value.int .i64 (w64 ((w64 (2 * a0.Nr)) + t6))), (38, Value.int .i64 (a1))] rfl rfl ⟨⟨_, Value.pointer (some ⟨nb1, 0 + 2, none⟩), [(2, Value.pointer (some ⟨nb1, 0, none⟩))], 33, rfl, rfl, ⟨.inl ⟨rfl, rfl⟩, trivial⟩, .run rfl (fun w HS => X.fieldAddr 2 fo23_2 rfl), rfl, rfl, rfl⟩, ⟨_, Value.int .i64 (a0.Nr), [(33, Value.pointer (some ⟨nb1, 0 + 2, none⟩))], 34, rfl, rfl, ⟨.inr ⟨rfl, rfl⟩, trivial⟩, .run rfl (fun w HS => X.loadAt 1 HS rfl Try.underlying3 rfl rfl rfl), rfl, rfl, rfl⟩, ⟨_, Value.int .i64 (w64 (2 * a0.Nr)), [(34, Value.int .i64 (a0.Nr))], 35, rfl, rfl, ⟨.inr ⟨rfl, rfl⟩, trivial⟩, .run rfl (fun w HS => X.mul rfl rfl), rfl, rfl, rfl⟩, ⟨_, Value.int .i64 (t6), [(5, Value.int .i64 (t6))], 36, rfl, rfl, ⟨.inl ⟨rfl, rfl⟩, trivial⟩, .run rfl (fun w HS => X.move rfl), rfl, rfl, rfl⟩, ⟨_, Value.int .i64 (w64 ((w64 (2 * a0.Nr)) + t6)), [(35, Value.int .i64 (w64 (2 * a0.Nr))), (36, Value.int .i64 (t6))], 37, rfl, rfl, ⟨.inr ⟨rfl, rfl⟩, ⟨.inr ⟨rfl, rfl⟩, trivial⟩⟩, .run rfl (fun w HS => X.add rfl rfl), rfl, rfl, rfl⟩, ⟨_, Value.int .i64 (a1), [(1, Value.int .i64 (a1))], 38, rfl, rfl, ⟨.inl ⟨rfl, rfl⟩, trivial⟩, .run rfl (fun w HS => X.move rfl), rfl, rfl, rfl⟩, trivial⟩ rfl ⟨.inr ⟨rfl, rfl⟩, ⟨.inr ⟨rfl, rfl⟩, ⟨.inr ⟨rfl, rfl⟩, trivial⟩⟩⟩ (Or.inl rfl) (by intro d hd; cases hd; exact ⟨by decide, rfl, rfl⟩) [] [2, 3, 4, 5, 6, 7] rfl rfl (fun w HS => ?_)
        have HS : Sep.St [row 5 1 (.slice at14_0 (t14).length ct14_0) (t14).length ((t14).map (Value.int .u8)), blk nb1 (#[Value.int .i64 (a0.Kind), Value.int .i64 (a0.Ns), Value.int .i64 (a0.Nr), Value.bool (a0.Poll)]) 23, R] w0 w := HS
        obtain ⟨t16, A17, H⟩ := bind_s H
        refine ⟨_, Y.call Try.func17 (by kernel_rfl) rfl (vs := [Value.slice at14_0 (t14).length ct14_0, Value.int .i64 (w64 ((w64 (2 * a0.Nr)) + t6)), Value.int .i64 (a1)]) rfl (control_put.calls t14 (w64 ((w64 (2 * a0.Nr)) + t6)) a1 _ w0 _ at14_0 ct14_0 t16  A17 (Sep.St.tailJoin (m := [row 5 1 (.slice at14_0 (t14).length ct14_0) (t14).length ((t14).map (Value.int .u8))]) (r := [blk nb1 (#[Value.int .i64 (a0.Kind), Value.int .i64 (a0.Ns), Value.int .i64 (a0.Nr), Value.bool (a0.Poll)]) 23, R]) HS)), ?_⟩
        rintro _ w ⟨at16_0, ct16_0, rfl, HS⟩
        replace HS := Sep.St.tailOpen (m := [row 5 1 (.slice at16_0 (t16).length ct16_0) (t16).length ((t16).map (Value.int .u8))]) (r := [blk nb1 (#[Value.int .i64 (a0.Kind), Value.int .i64 (a0.Ns), Value.int .i64 (a0.Nr), Value.bool (a0.Poll)]) 23, R]) HS
        have HS : Sep.St [row 5 1 (.slice at16_0 (t16).length ct16_0) (t16).length ((t16).map (Value.int .u8)), blk nb1 (#[Value.int .i64 (a0.Kind), Value.int .i64 (a0.Ns), Value.int .i64 (a0.Nr), Value.bool (a0.Poll)]) 23, R] w0 w := HS
        refine ⟨[(39, Value.slice at16_0 (t16).length ct16_0), (4, Value.slice at16_0 (t16).length ct16_0)], fun w => Sep.St [row 5 1 (.slice at16_0 (t16).length ct16_0) (t16).length ((t16).map (Value.int .u8)), blk nb1 (#[Value.int .i64 (a0.Kind), Value.int .i64 (a0.Ns), Value.int .i64 (a0.Nr), Value.bool (a0.Poll)]) 23, R] w0 w, ⟨.inl ⟨rfl, rfl⟩, ⟨.inr ⟨by decide, rfl⟩, trivial⟩⟩, ?_, HS⟩
        refine T.fin [(4, Value.slice at16_0 (t16).length ct16_0)] rfl ⟨⟨_, Value.slice at16_0 (t16).length ct16_0, [(39, Value.slice at16_0 (t16).length ct16_0)], 4, rfl, rfl, ⟨.inr ⟨rfl, rfl⟩, trivial⟩, .run rfl (fun w HS => X.assign rfl), rfl, rfl, rfl⟩, trivial⟩ ⟨.inr ⟨rfl, rfl⟩, trivial⟩ (fun w HS => ?_)
        have HS : Sep.St [row 5 1 (.slice at16_0 (t16).length ct16_0) (t16).length ((t16).map (Value.int .u8)), blk nb1 (#[Value.int .i64 (a0.Kind), Value.int .i64 (a0.Ns), Value.int .i64 (a0.Nr), Value.bool (a0.Poll)]) 23, R] w0 w := HS
        refine At.next ?_
        refine V.keep [(4, Value.slice at16_0 (t16).length ct16_0)] ⟨rfl, trivial⟩ ?_
        refine V.ret ?_
        refine At.blockRet ?_
        refine At.thenRet ?_
        replace HS := HS.sel [0, 2] [1] rfl
        cases H
        exact At.ret1 rfl rfl ⟨_, rfl, at16_0, ct16_0, rfl, HS⟩
      · replace H := ite_f c13 H
        refine V.condF (sb (decide_eq_false c13)) ?_
        refine V.seq ?_
        refine V.region ?_
        refine W.rd (X.cmp (decide (a0.Kind = 2)) rfl rfl rfl rfl) rfl rfl rfl ?_
        refine W.rd (X.assign rfl) rfl rfl rfl ?_
        refine W.nil ?_
        refine At.next ?_
        refine V.keep [(1, Value.int .i64 (a1)), (2, Value.pointer (some ⟨nb1, 0, none⟩)), (5, Value.int .i64 (t6)), (40, Value.bool (decide (a0.Kind = 2)))] ⟨rfl, rfl, rfl, rfl, trivial⟩ ?_
        by_cases c18 : a0.Kind = 2
        · replace H := ite_t c18 H
          refine V.condT (sb (decide_eq_true c18)) ?_
          refine V.seq ?_
          refine V.draw (es := [1, 8]) (bl := [9]) (f := [(42, Value.int .i64 (a1)), (44, Value.pointer (some ⟨nb1, 0 + 2, none⟩)), (45, Value.int .i64 (a0.Nr)), (46, Value.int .i64 (w64 (2 * a0.Nr))), (47, Value.int .i64 (t6)), (48, Value.int .i64 (w64 ((w64 (2 * a0.Nr)) + t6))), (49, Value.int .i64 (a1))]) (fun w => Sep.St [blk nb1 (#[Value.int .i64 (a0.Kind), Value.int .i64 (a0.Ns), Value.int .i64 (a0.Nr), Value.bool (a0.Poll)]) 23, R] w0 w) mo HS.drew rfl ?_
          refine T.event _ [(42, Value.int .i64 (a1))] rfl rfl ⟨⟨_, Value.int .i64 (a1), [(1, Value.int .i64 (a1))], 42, rfl, rfl, ⟨.inl ⟨rfl, rfl⟩, trivial⟩, .run rfl (fun w HS => X.move rfl), rfl, rfl, rfl⟩, ⟨_, Value.pointer (some ⟨nb1, 0 + 2, none⟩), [(2, Value.pointer (some ⟨nb1, 0, none⟩))], 44, rfl, rfl, ⟨.inl ⟨rfl, rfl⟩, trivial⟩, .run rfl (fun w HS => X.fieldAddr 2 fo23_2 rfl), rfl, rfl, rfl⟩, ⟨_, Value.int .i64 (a0.Nr), [(44, Value.pointer (some ⟨nb1, 0 + 2, none⟩))], 45, rfl, rfl, ⟨.inr ⟨rfl, rfl⟩, trivial⟩, .run rfl (fun w HS => X.loadAt 0 HS rfl Try.underlying3 rfl rfl rfl), rfl, rfl, rfl⟩, ⟨_, Value.int .i64 (w64 (2 * a0.Nr)), [(45, Value.int .i64 (a0.Nr))], 46, rfl, rfl, ⟨.inr ⟨rfl, rfl⟩, trivial⟩, .run rfl (fun w HS => X.mul rfl rfl), rfl, rfl, rfl⟩, ⟨_, Value.int .i64 (t6), [(5, Value.int .i64 (t6))], 47, rfl, rfl, ⟨.inl ⟨rfl, rfl⟩, trivial⟩, .run rfl (fun w HS => X.move rfl), rfl, rfl, rfl⟩, ⟨_, Value.int .i64 (w64 ((w64 (2 * a0.Nr)) + t6)), [(46, Value.int .i64 (w64 (2 * a0.Nr))), (47, Value.int .i64 (t6))], 48, rfl, rfl, ⟨.inr ⟨rfl, rfl⟩, ⟨.inr ⟨rfl, rfl⟩, trivial⟩⟩, .run rfl (fun w HS => X.add rfl rfl), rfl, rfl, rfl⟩, ⟨_, Value.int .i64 (a1), [(1, Value.int .i64 (a1))], 49, rfl, rfl, ⟨.inl ⟨rfl, rfl⟩, trivial⟩, .run rfl (fun w HS => X.move rfl), rfl, rfl, rfl⟩, trivial⟩ rfl ⟨.inr ⟨rfl, rfl⟩, trivial⟩ (Or.inl rfl) (by intro d hd; cases hd; exact ⟨by decide, rfl, rfl⟩) [9] [0] rfl rfl (fun w HS => ?_)
          have HS : Sep.St [blk nb1 (#[Value.int .i64 (a0.Kind), Value.int .i64 (a0.Ns), Value.int .i64 (a0.Nr), Value.bool (a0.Poll)]) 23, R] w0 w := HS
          replace HS := row_nil' (e := 5) 1 none HS
          have HS : Sep.St [row 5 1 (.slice none (([] : List Int)).length 0) (([] : List Int)).length ((([] : List Int)).map (Value.int .u8)), blk nb1 (#[Value.int .i64 (a0.Kind), Value.int .i64 (a0.Ns), Value.int .i64 (a0.Nr), Value.bool (a0.Poll)]) 23, R] w0 w := HS
          obtain ⟨t19, A20, H⟩ := bind_s H
          refine ⟨_, Y.call Try.func17 (by kernel_rfl) rfl (vs := [Value.slice none (([] : List Int)).length 0, Value.int .i64 (9), Value.int .i64 (a1)]) rfl (control_put.calls ([] : List Int) 9 a1 _ w0 _ none 0 t19  A20 (Sep.St.tailJoin (m := [row 5 1 (.slice none (([] : List Int)).length 0) (([] : List Int)).length ((([] : List Int)).map (Value.int .u8))]) (r := [blk nb1 (#[Value.int .i64 (a0.Kind), Value.int .i64 (a0.Ns), Value.int .i64 (a0.Nr), Value.bool (a0.Poll)]) 23, R]) HS)), ?_⟩
          rintro _ w ⟨at19_0, ct19_0, rfl, HS⟩
          replace HS := Sep.St.tailOpen (m := [row 5 1 (.slice at19_0 (t19).length ct19_0) (t19).length ((t19).map (Value.int .u8))]) (r := [blk nb1 (#[Value.int .i64 (a0.Kind), Value.int .i64 (a0.Ns), Value.int .i64 (a0.Nr), Value.bool (a0.Poll)]) 23, R]) HS
          have HS : Sep.St [row 5 1 (.slice at19_0 (t19).length ct19_0) (t19).length ((t19).map (Value.int .u8)), blk nb1 (#[Value.int .i64 (a0.Kind), Value.int .i64 (a0.Ns), Value.int .i64 (a0.Nr), Value.bool (a0.Poll)]) 23, R] w0 w := HS
          refine ⟨[(43, Value.slice at19_0 (t19).length ct19_0)], fun w => Sep.St [row 5 1 (.slice at19_0 (t19).length ct19_0) (t19).length ((t19).map (Value.int .u8)), blk nb1 (#[Value.int .i64 (a0.Kind), Value.int .i64 (a0.Ns), Value.int .i64 (a0.Nr), Value.bool (a0.Poll)]) 23, R] w0 w, ⟨.inl ⟨rfl, rfl⟩, trivial⟩, ?_, HS⟩
          refine T.event _ [(43, Value.slice at19_0 (t19).length ct19_0), (48, Value.int .i64 (w64 ((w64 (2 * a0.Nr)) + t6))), (49, Value.int .i64 (a1))] rfl rfl ⟨⟨_, Value.pointer (some ⟨nb1, 0 + 2, none⟩), [(2, Value.pointer (some ⟨nb1, 0, none⟩))], 44, rfl, rfl, ⟨.inl ⟨rfl, rfl⟩, trivial⟩, .run rfl (fun w HS => X.fieldAddr 2 fo23_2 rfl), rfl, rfl, rfl⟩, ⟨_, Value.int .i64 (a0.Nr), [(44, Value.pointer (some ⟨nb1, 0 + 2, none⟩))], 45, rfl, rfl, ⟨.inr ⟨rfl, rfl⟩, trivial⟩, .run rfl (fun w HS => X.loadAt 1 HS rfl Try.underlying3 rfl rfl rfl), rfl, rfl, rfl⟩, ⟨_, Value.int .i64 (w64 (2 * a0.Nr)), [(45, Value.int .i64 (a0.Nr))], 46, rfl, rfl, ⟨.inr ⟨rfl, rfl⟩, trivial⟩, .run rfl (fun w HS => X.mul rfl rfl), rfl, rfl, rfl⟩, ⟨_, Value.int .i64 (t6), [(5, Value.int .i64 (t6))], 47, rfl, rfl, ⟨.inl ⟨rfl, rfl⟩, trivial⟩, .run rfl (fun w HS => X.move rfl), rfl, rfl, rfl⟩, ⟨_, Value.int .i64 (w64 ((w64 (2 * a0.Nr)) + t6)), [(46, Value.int .i64 (w64 (2 * a0.Nr))), (47, Value.int .i64 (t6))], 48, rfl, rfl, ⟨.inr ⟨rfl, rfl⟩, ⟨.inr ⟨rfl, rfl⟩, trivial⟩⟩, .run rfl (fun w HS => X.add rfl rfl), rfl, rfl, rfl⟩, ⟨_, Value.int .i64 (a1), [(1, Value.int .i64 (a1))], 49, rfl, rfl, ⟨.inl ⟨rfl, rfl⟩, trivial⟩, .run rfl (fun w HS => X.move rfl), rfl, rfl, rfl⟩, trivial⟩ rfl ⟨.inr ⟨rfl, rfl⟩, ⟨.inr ⟨rfl, rfl⟩, ⟨.inr ⟨rfl, rfl⟩, trivial⟩⟩⟩ (Or.inl rfl) (by intro d hd; cases hd; exact ⟨by decide, rfl, rfl⟩) [] [2, 3, 4, 5, 6, 7] rfl rfl (fun w HS => ?_)
          have HS : Sep.St [row 5 1 (.slice at19_0 (t19).length ct19_0) (t19).length ((t19).map (Value.int .u8)), blk nb1 (#[Value.int .i64 (a0.Kind), Value.int .i64 (a0.Ns), Value.int .i64 (a0.Nr), Value.bool (a0.Poll)]) 23, R] w0 w := HS
          obtain ⟨t21, A22, H⟩ := bind_s H
          refine ⟨_, Y.call Try.func17 (by kernel_rfl) rfl (vs := [Value.slice at19_0 (t19).length ct19_0, Value.int .i64 (w64 ((w64 (2 * a0.Nr)) + t6)), Value.int .i64 (a1)]) rfl (control_put.calls t19 (w64 ((w64 (2 * a0.Nr)) + t6)) a1 _ w0 _ at19_0 ct19_0 t21  A22 (Sep.St.tailJoin (m := [row 5 1 (.slice at19_0 (t19).length ct19_0) (t19).length ((t19).map (Value.int .u8))]) (r := [blk nb1 (#[Value.int .i64 (a0.Kind), Value.int .i64 (a0.Ns), Value.int .i64 (a0.Nr), Value.bool (a0.Poll)]) 23, R]) HS)), ?_⟩
          rintro _ w ⟨at21_0, ct21_0, rfl, HS⟩
          replace HS := Sep.St.tailOpen (m := [row 5 1 (.slice at21_0 (t21).length ct21_0) (t21).length ((t21).map (Value.int .u8))]) (r := [blk nb1 (#[Value.int .i64 (a0.Kind), Value.int .i64 (a0.Ns), Value.int .i64 (a0.Nr), Value.bool (a0.Poll)]) 23, R]) HS
          have HS : Sep.St [row 5 1 (.slice at21_0 (t21).length ct21_0) (t21).length ((t21).map (Value.int .u8)), blk nb1 (#[Value.int .i64 (a0.Kind), Value.int .i64 (a0.Ns), Value.int .i64 (a0.Nr), Value.bool (a0.Poll)]) 23, R] w0 w := HS
          refine ⟨[(50, Value.slice at21_0 (t21).length ct21_0), (4, Value.slice at21_0 (t21).length ct21_0)], fun w => Sep.St [row 5 1 (.slice at21_0 (t21).length ct21_0) (t21).length ((t21).map (Value.int .u8)), blk nb1 (#[Value.int .i64 (a0.Kind), Value.int .i64 (a0.Ns), Value.int .i64 (a0.Nr), Value.bool (a0.Poll)]) 23, R] w0 w, ⟨.inl ⟨rfl, rfl⟩, ⟨.inr ⟨by decide, rfl⟩, trivial⟩⟩, ?_, HS⟩
          refine T.fin [(4, Value.slice at21_0 (t21).length ct21_0)] rfl ⟨⟨_, Value.slice at21_0 (t21).length ct21_0, [(50, Value.slice at21_0 (t21).length ct21_0)], 4, rfl, rfl, ⟨.inr ⟨rfl, rfl⟩, trivial⟩, .run rfl (fun w HS => X.assign rfl), rfl, rfl, rfl⟩, trivial⟩ ⟨.inr ⟨rfl, rfl⟩, trivial⟩ (fun w HS => ?_)
          have HS : Sep.St [row 5 1 (.slice at21_0 (t21).length ct21_0) (t21).length ((t21).map (Value.int .u8)), blk nb1 (#[Value.int .i64 (a0.Kind), Value.int .i64 (a0.Ns), Value.int .i64 (a0.Nr), Value.bool (a0.Poll)]) 23, R] w0 w := HS
          refine At.next ?_
          refine V.keep [(4, Value.slice at21_0 (t21).length ct21_0)] ⟨rfl, trivial⟩ ?_
          refine V.ret ?_
          refine At.blockRet ?_
          refine At.thenRet ?_
          replace HS := HS.sel [0, 2] [1] rfl
          cases H
          exact At.ret1 rfl rfl ⟨_, rfl, at21_0, ct21_0, rfl, HS⟩
        · replace H := ite_f c18 H
          refine V.condF (sb (decide_eq_false c18)) ?_
          refine V.skip ?_
          refine At.blockEnd ?_
          refine At.next ?_
          refine V.keep [(2, Value.pointer (some ⟨nb1, 0, none⟩)), (5, Value.int .i64 (t6))] ⟨rfl, rfl, trivial⟩ ?_
          refine V.seq ?_
          refine V.draw (es := [0, 10]) (bl := [4, 5, 9, 11]) (f := [(52, Value.pointer (some ⟨nb1, 0 + 0, none⟩)), (53, Value.int .i64 (a0.Kind)), (54, Value.int .i64 (w64 (a0.Kind - 3))), (57, Value.int .i64 (t6)), (58, Value.int .i64 (w64 (t6 * 16))), (59, Value.int .u8 (IntKind.u8.wrap (w64 (t6 * 16))))]) (fun w => Sep.St [blk nb1 (#[Value.int .i64 (a0.Kind), Value.int .i64 (a0.Ns), Value.int .i64 (a0.Nr), Value.bool (a0.Poll)]) 23, R] w0 w) mo HS.drew rfl ?_
          refine T.event _ [] rfl rfl ⟨⟨_, Value.pointer (some ⟨nb1, 0 + 0, none⟩), [(2, Value.pointer (some ⟨nb1, 0, none⟩))], 52, rfl, rfl, ⟨.inl ⟨rfl, rfl⟩, trivial⟩, .run rfl (fun w HS => X.fieldAddr 0 fo23_0 rfl), rfl, rfl, rfl⟩, ⟨_, Value.int .i64 (a0.Kind), [(52, Value.pointer (some ⟨nb1, 0 + 0, none⟩))], 53, rfl, rfl, ⟨.inr ⟨rfl, rfl⟩, trivial⟩, .run rfl (fun w HS => X.loadAt 0 HS rfl Try.underlying3 rfl rfl rfl), rfl, rfl, rfl⟩, ⟨_, Value.int .i64 (w64 (a0.Kind - 3)), [(53, Value.int .i64 (a0.Kind))], 54, rfl, rfl, ⟨.inr ⟨rfl, rfl⟩, trivial⟩, .run rfl (fun w HS => X.sub rfl rfl), rfl, rfl, rfl⟩, ⟨_, Value.int .i64 (t6), [(5, Value.int .i64 (t6))], 57, rfl, rfl, ⟨.inl ⟨rfl, rfl⟩, trivial⟩, .run rfl (fun w HS => X.move rfl), rfl, rfl, rfl⟩, ⟨_, Value.int .i64 (w64 (t6 * 16)), [(57, Value.int .i64 (t6))], 58, rfl, rfl, ⟨.inr ⟨rfl, rfl⟩, trivial⟩, .run rfl (fun w HS => X.mul rfl rfl), rfl, rfl, rfl⟩, ⟨_, Value.int .u8 (IntKind.u8.wrap (w64 (t6 * 16))), [(58, Value.int .i64 (w64 (t6 * 16)))], 59, rfl, rfl, ⟨.inr ⟨rfl, rfl⟩, trivial⟩, .run rfl (fun w HS => X.conv Try.underlying3 Try.underlying5 rfl), rfl, rfl, rfl⟩, trivial⟩ rfl trivial (Or.inl rfl) (by intro d hd; cases hd; exact ⟨by decide, rfl, rfl⟩) [11] [] rfl rfl (fun w HS => ?_)
          have HS : Sep.St [blk nb1 (#[Value.int .i64 (a0.Kind), Value.int .i64 (a0.Ns), Value.int .i64 (a0.Nr), Value.bool (a0.Poll)]) 23, R] w0 w := HS
          obtain ⟨t23, A24, H⟩ := bind_s H
          refine ⟨_, Y.call Try.func18 (by kernel_rfl) rfl (vs := []) rfl (control_plain.calls  _ w0 _  t23  A24 (Sep.St.tailJoin (m := []) (r := [blk nb1 (#[Value.int .i64 (a0.Kind), Value.int .i64 (a0.Ns), Value.int .i64 (a0.Nr), Value.bool (a0.Poll)]) 23, R]) HS)), ?_⟩
          rintro _ w ⟨at23_0, ct23_0, rfl, HS⟩
          replace HS := Sep.St.tailOpen (m := [row 5 1 (.slice at23_0 (t23).length ct23_0) (t23).length ((t23).map (Value.int .u8))]) (r := [blk nb1 (#[Value.int .i64 (a0.Kind), Value.int .i64 (a0.Ns), Value.int .i64 (a0.Nr), Value.bool (a0.Poll)]) 23, R]) HS
          have HS : Sep.St [row 5 1 (.slice at23_0 (t23).length ct23_0) (t23).length ((t23).map (Value.int .u8)), blk nb1 (#[Value.int .i64 (a0.Kind), Value.int .i64 (a0.Ns), Value.int .i64 (a0.Nr), Value.bool (a0.Poll)]) 23, R] w0 w := HS
          obtain ⟨c25, H⟩ := ite_n H
          obtain ⟨eb26, eo27, hh⟩ := ((rdC.at 0 row_rd HS rfl)).some (by decide) c25.1 c25.2; subst hh
          refine ⟨[(51, Value.slice (some ⟨eb26, eo27, none⟩) (t23).length ct23_0), (55, Value.pointer (some ⟨eb26, eo27 + (w64 (a0.Kind - 3)).toNat * 1, none⟩)), (56, Value.int .u8 ((t23).getD (w64 (a0.Kind - 3)).toNat 0)), (60, Value.int .u8 (ior .u8 ((t23).getD (w64 (a0.Kind - 3)).toNat 0) (IntKind.u8.wrap (w64 (t6 * 16)))))], fun w => Sep.St [row 5 1 (.slice (some ⟨eb26, eo27, none⟩) (t23).length ct23_0) (t23).length ((t23).map (Value.int .u8)), blk nb1 (#[Value.int .i64 (a0.Kind), Value.int .i64 (a0.Ns), Value.int .i64 (a0.Nr), Value.bool (a0.Poll)]) 23, R] w0 w, ⟨.inl ⟨rfl, rfl⟩, ⟨.inr ⟨by decide, rfl⟩, ⟨.inr ⟨by decide, rfl⟩, ⟨.inr ⟨by decide, rfl⟩, trivial⟩⟩⟩⟩, ?_, HS⟩
          refine T.event _ [(60, Value.int .u8 (ior .u8 ((t23).getD (w64 (a0.Kind - 3)).toNat 0) (IntKind.u8.wrap (w64 (t6 * 16)))))] rfl rfl ⟨⟨_, Value.pointer (some ⟨nb1, 0 + 0, none⟩), [(2, Value.pointer (some ⟨nb1, 0, none⟩))], 52, rfl, rfl, ⟨.inl ⟨rfl, rfl⟩, trivial⟩, .run rfl (fun w HS => X.fieldAddr 0 fo23_0 rfl), rfl, rfl, rfl⟩, ⟨_, Value.int .i64 (a0.Kind), [(52, Value.pointer (some ⟨nb1, 0 + 0, none⟩))], 53, rfl, rfl, ⟨.inr ⟨rfl, rfl⟩, trivial⟩, .run rfl (fun w HS => X.loadAt 1 HS rfl Try.underlying3 rfl rfl rfl), rfl, rfl, rfl⟩, ⟨_, Value.int .i64 (w64 (a0.Kind - 3)), [(53, Value.int .i64 (a0.Kind))], 54, rfl, rfl, ⟨.inr ⟨rfl, rfl⟩, trivial⟩, .run rfl (fun w HS => X.sub rfl rfl), rfl, rfl, rfl⟩, ⟨_, Value.pointer (some ⟨eb26, eo27 + (w64 (a0.Kind - 3)).toNat * 1, none⟩), [(51, Value.slice (some ⟨eb26, eo27, none⟩) (t23).length ct23_0), (54, Value.int .i64 (w64 (a0.Kind - 3)))], 55, rfl, rfl, ⟨.inr ⟨rfl, rfl⟩, ⟨.inr ⟨rfl, rfl⟩, trivial⟩⟩, .run rfl (fun w HS => X.indexSl Try.underlying26 inf5 rfl rfl c25.1 c25.2), rfl, rfl, rfl⟩, ⟨_, Value.int .u8 ((t23).getD (w64 (a0.Kind - 3)).toNat 0), [(55, Value.pointer (some ⟨eb26, eo27 + (w64 (a0.Kind - 3)).toNat * 1, none⟩))], 56, rfl, rfl, ⟨.inr ⟨rfl, rfl⟩, trivial⟩, .run rfl (fun w HS => X.load Try.underlying5 rfl rfl (((rdC.at 0 row_rd HS rfl)).cellI c25.1 c25.2)), rfl, rfl, rfl⟩, ⟨_, Value.int .i64 (t6), [(5, Value.int .i64 (t6))], 57, rfl, rfl, ⟨.inl ⟨rfl, rfl⟩, trivial⟩, .run rfl (fun w HS => X.move rfl), rfl, rfl, rfl⟩, ⟨_, Value.int .i64 (w64 (t6 * 16)), [(57, Value.int .i64 (t6))], 58, rfl, rfl, ⟨.inr ⟨rfl, rfl⟩, trivial⟩, .run rfl (fun w HS => X.mul rfl rfl), rfl, rfl, rfl⟩, ⟨_, Value.int .u8 (IntKind.u8.wrap (w64 (t6 * 16))), [(58, Value.int .i64 (w64 (t6 * 16)))], 59, rfl, rfl, ⟨.inr ⟨rfl, rfl⟩, trivial⟩, .run rfl (fun w HS => X.conv Try.underlying3 Try.underlying5 rfl), rfl, rfl, rfl⟩, ⟨_, Value.int .u8 (ior .u8 ((t23).getD (w64 (a0.Kind - 3)).toNat 0) (IntKind.u8.wrap (w64 (t6 * 16)))), [(56, Value.int .u8 ((t23).getD (w64 (a0.Kind - 3)).toNat 0)), (59, Value.int .u8 (IntKind.u8.wrap (w64 (t6 * 16))))], 60, rfl, rfl, ⟨.inr ⟨rfl, rfl⟩, ⟨.inr ⟨rfl, rfl⟩, trivial⟩⟩, .run rfl (fun w HS => X.or rfl rfl), rfl, rfl, rfl⟩, trivial⟩ rfl ⟨.inr ⟨rfl, rfl⟩, trivial⟩ (Or.inl rfl) (by intro d hd; cases hd; exact ⟨by decide, rfl, rfl⟩) [] [1, 2, 3, 4, 5, 6, 7, 8, 9] rfl rfl (fun w HS => ?_)
          have HS : Sep.St [row 5 1 (.slice (some ⟨eb26, eo27, none⟩) (t23).length ct23_0) (t23).length ((t23).map (Value.int .u8)), blk nb1 (#[Value.int .i64 (a0.Kind), Value.int .i64 (a0.Ns), Value.int .i64 (a0.Nr), Value.bool (a0.Poll)]) 23, R] w0 w := HS
          refine ⟨_, Y.litB (e := 5) (sz := 1) (vs := #[(0, Value.int .u8 (ior .u8 ((t23).getD (w64 (a0.Kind - 3)).toNat 0) (IntKind.u8.wrap (w64 (t6 * 16)))))]) [Value.int .u8 (ior .u8 ((t23).getD (w64 (a0.Kind - 3)).toNat 0) (IntKind.u8.wrap (w64 (t6 * 16))))] HS (fun a ha => by simp only [List.map_toArray, List.map_cons, List.map_nil]; rw [ha.ev (x := .tmp 60) (v := Value.int .u8 (ior .u8 ((t23).getD (w64 (a0.Kind - 3)).toNat 0) (IntKind.u8.wrap (w64 (t6 * 16))))) rfl]; try rfl) rfl (by decide) (fun _ => by kernel_rfl), ?_⟩
          rintro _ w ⟨lb30, rfl, HS⟩
          have HS : Sep.St [row 5 1 (.slice (some ⟨lb30, 0, none⟩) (([ior .u8 ((t23).getD (w64 (a0.Kind - 3)).toNat 0) (IntKind.u8.wrap (w64 (t6 * 16)))] : List Int)).length 1) (([ior .u8 ((t23).getD (w64 (a0.Kind - 3)).toNat 0) (IntKind.u8.wrap (w64 (t6 * 16)))] : List Int)).length ((([ior .u8 ((t23).getD (w64 (a0.Kind - 3)).toNat 0) (IntKind.u8.wrap (w64 (t6 * 16)))] : List Int)).map (Value.int .u8)), row 5 1 (.slice (some ⟨eb26, eo27, none⟩) (t23).length ct23_0) (t23).length ((t23).map (Value.int .u8)), blk nb1 (#[Value.int .i64 (a0.Kind), Value.int .i64 (a0.Ns), Value.int .i64 (a0.Nr), Value.bool (a0.Poll)]) 23, R] w0 w := HS
          refine ⟨[(61, Value.slice (some ⟨lb30, 0, none⟩) (([ior .u8 ((t23).getD (w64 (a0.Kind - 3)).toNat 0) (IntKind.u8.wrap (w64 (t6 * 16)))] : List Int)).length 1), (4, Value.slice (some ⟨lb30, 0, none⟩) (([ior .u8 ((t23).getD (w64 (a0.Kind - 3)).toNat 0) (IntKind.u8.wrap (w64 (t6 * 16)))] : List Int)).length 1)], fun w => Sep.St [row 5 1 (.slice (some ⟨lb30, 0, none⟩) (([ior .u8 ((t23).getD (w64 (a0.Kind - 3)).toNat 0) (IntKind.u8.wrap (w64 (t6 * 16)))] : List Int)).length 1) (([ior .u8 ((t23).getD (w64 (a0.Kind - 3)).toNat 0) (IntKind.u8.wrap (w64 (t6 * 16)))] : List Int)).length ((([ior .u8 ((t23).getD (w64 (a0.Kind - 3)).toNat 0) (IntKind.u8.wrap (w64 (t6 * 16)))] : List Int)).map (Value.int .u8)), row 5 1 (.slice (some ⟨eb26, eo27, none⟩) (t23).length ct23_0) (t23).length ((t23).map (Value.int .u8)), blk nb1 (#[Value.int .i64 (a0.Kind), Value.int .i64 (a0.Ns), Value.int .i64 (a0.Nr), Value.bool (a0.Poll)]) 23, R] w0 w, ⟨.inl ⟨rfl, rfl⟩, ⟨.inr ⟨by decide, rfl⟩, trivial⟩⟩, ?_, HS⟩
          refine T.fin [(4, Value.slice (some ⟨lb30, 0, none⟩) (([ior .u8 ((t23).getD (w64 (a0.Kind - 3)).toNat 0) (IntKind.u8.wrap (w64 (t6 * 16)))] : List Int)).length 1)] rfl ⟨⟨_, Value.slice (some ⟨lb30, 0, none⟩) (([ior .u8 ((t23).getD (w64 (a0.Kind - 3)).toNat 0) (IntKind.u8.wrap (w64 (t6 * 16)))] : List Int)).length 1, [(61, Value.slice (some ⟨lb30, 0, none⟩) (([ior .u8 ((t23).getD (w64 (a0.Kind - 3)).toNat 0) (IntKind.u8.wrap (w64 (t6 * 16)))] : List Int)).length 1)], 4, rfl, rfl, ⟨.inr ⟨rfl, rfl⟩, trivial⟩, .run rfl (fun w HS => X.assign rfl), rfl, rfl, rfl⟩, trivial⟩ ⟨.inr ⟨rfl, rfl⟩, trivial⟩ (fun w HS => ?_)
          have HS : Sep.St [row 5 1 (.slice (some ⟨lb30, 0, none⟩) (([ior .u8 ((t23).getD (w64 (a0.Kind - 3)).toNat 0) (IntKind.u8.wrap (w64 (t6 * 16)))] : List Int)).length 1) (([ior .u8 ((t23).getD (w64 (a0.Kind - 3)).toNat 0) (IntKind.u8.wrap (w64 (t6 * 16)))] : List Int)).length ((([ior .u8 ((t23).getD (w64 (a0.Kind - 3)).toNat 0) (IntKind.u8.wrap (w64 (t6 * 16)))] : List Int)).map (Value.int .u8)), row 5 1 (.slice (some ⟨eb26, eo27, none⟩) (t23).length ct23_0) (t23).length ((t23).map (Value.int .u8)), blk nb1 (#[Value.int .i64 (a0.Kind), Value.int .i64 (a0.Ns), Value.int .i64 (a0.Nr), Value.bool (a0.Poll)]) 23, R] w0 w := HS
          refine At.next ?_
          refine V.keep [(4, Value.slice (some ⟨lb30, 0, none⟩) (([ior .u8 ((t23).getD (w64 (a0.Kind - 3)).toNat 0) (IntKind.u8.wrap (w64 (t6 * 16)))] : List Int)).length 1)] ⟨rfl, trivial⟩ ?_
          refine V.ret ?_
          replace HS := HS.sel [0, 3] [1, 2] rfl
          cases H
          exact At.ret1 rfl rfl ⟨_, rfl, (some ⟨lb30, 0, none⟩), 1, rfl, HS⟩
  · replace H := ite_f c5 H
    refine V.condT (sb (n_f (b_f c5))) ?_
    refine V.seq ?_
    refine V.region ?_
    refine W.rd (X.assign rfl) rfl rfl rfl ?_
    refine W.nil ?_
    refine At.next ?_
    refine V.keep [(4, Value.slice none 0 0)] ⟨rfl, trivial⟩ ?_
    refine V.ret ?_
    refine At.thenRet ?_
    replace HS := row_nil' (e := 5) 1 none HS
    have HS : Sep.St [row 5 1 (.slice none (([] : List Int)).length 0) (([] : List Int)).length ((([] : List Int)).map (Value.int .u8)), blk nb1 (#[Value.int .i64 (a0.Kind), Value.int .i64 (a0.Ns), Value.int .i64 (a0.Nr), Value.bool (a0.Poll)]) 23, R] w0 w := HS
    replace HS := HS.sel [0, 2] [1] rfl
    cases H
    exact At.ret1 rfl rfl ⟨_, rfl, none, 0, rfl, HS⟩

/-! ### signalman/signalmanlaw12.alive: function 8 -/
def signalmanlaw12_alive.f  : Option (Bool) := ((control_Bytes.f ({ Kind := 0, Ns := 0, Nr := 0, Poll := false } : api_Ctl) 128).bind fun t1 => (if ((t1).length : Int) = 2 then (if 0 ≤ (0 : Int) ∧ (0 : Int) < ((t1).length : Int) then (if ((t1).getD ((0 : Int)).toNat 0) = 0 then (if 0 ≤ (1 : Int) ∧ (1 : Int) < ((t1).length : Int) then (if ((t1).getD ((1 : Int)).toNat 0) = 0 then ((control_Right.f ({ Kind := 4, Ns := 0, Nr := 0, Poll := false } : api_Ctl) 128).bind fun t10 => (if t10 = true then ((control_Right.f ({ Kind := 0, Ns := 0, Nr := 0, Poll := false } : api_Ctl) 8).bind fun t13 => some (!(t13))) else some (false))) else some (false)) else none) else some (false)) else none) else some (false)))
set_option maxRecDepth 100000 in
set_option maxHeartbeats 4000000 in
theorem signalmanlaw12_alive.calls  (R : As) (w0 w : World)  (r : Bool)  (H : signalmanlaw12_alive.f  = some r) (HS : Sep.St [R] w0 w) : Calls Try.prog 8 #[] w (Ret fun u w => u = Value.bool (r) ∧ Sep.St [R] w0 w) := by
  unfold signalmanlaw12_alive.f at H
  refine calls_enter Try.func8 rfl rfl ?_
  have H : _ = some r := H
  refine V.seq ?_
  refine V.region ?_
  refine W.rd (X.assign rfl) rfl rfl rfl ?_
  refine W.nil ?_
  refine At.next ?_
  refine V.keep [] trivial ?_
  refine V.seq ?_
  refine V.region ?_
  refine W.rd (X.build (vs := #[]) (v := Value.agg #[Value.int .i64 (0), Value.int .i64 (0), Value.int .i64 (0), Value.bool (false)]) (fun a ha => by simp only [List.map_toArray, List.map_cons, List.map_nil]; try rfl) (fun _ => by kernel_rfl)) rfl rfl rfl ?_
  obtain ⟨t1, A2, H⟩ := bind_s H
  refine W.ev (Y.call Try.func10 (by kernel_rfl) rfl (vs := [Value.agg #[Value.int .i64 (0), Value.int .i64 (0), Value.int .i64 (0), Value.bool (false)], Value.int .i64 (128)]) rfl (control_Bytes.calls ({ Kind := 0, Ns := 0, Nr := 0, Poll := false } : api_Ctl) 128 _ w0 _  t1  A2 (Sep.St.tailJoin (m := []) (r := [R]) HS))) rfl rfl rfl ?_
  rintro _ w ⟨at1_0, ct1_0, rfl, HS⟩
  replace HS := Sep.St.tailOpen (m := [row 5 1 (.slice at1_0 (t1).length ct1_0) (t1).length ((t1).map (Value.int .u8))]) (r := [R]) HS
  have HS : Sep.St [row 5 1 (.slice at1_0 (t1).length ct1_0) (t1).length ((t1).map (Value.int .u8)), R] w0 w := HS
  refine W.rd (X.assign rfl) rfl rfl rfl ?_
  refine W.nil ?_
  refine At.next ?_
  refine V.keep [(1, Value.slice at1_0 (t1).length ct1_0)] ⟨rfl, trivial⟩ ?_
  refine V.seq ?_
  refine V.region ?_
  refine W.rd (X.move rfl) rfl rfl rfl ?_
  refine W.rd (X.lenSl Try.underlying26 rfl) rfl rfl rfl ?_
  refine W.rd (X.cmp (decide (((t1).length : Int) = 2)) rfl rfl rfl rfl) rfl rfl rfl ?_
  refine W.rd (X.move rfl) rfl rfl rfl ?_
  by_cases c3 : ((t1).length : Int) = 2
  · replace H := ite_t c3 H
    refine W.want 7 rfl (sb (decide_eq_true c3)) ?_
    refine W.rd (X.move rfl) rfl rfl rfl ?_
    refine W.want 7 rfl (sb (decide_eq_true c3)) ?_
    obtain ⟨c4, H⟩ := ite_n H
    obtain ⟨eb5, eo6, hh⟩ := ((rdC.at 0 row_rd HS rfl)).some (by decide) c4.1 c4.2; subst hh
    refine W.rd (X.indexSl Try.underlying26 inf5 rfl rfl c4.1 c4.2) rfl rfl rfl ?_
    refine W.want 7 rfl (sb (decide_eq_true c3)) ?_
    refine W.rd (X.load Try.underlying5 rfl rfl (((rdC.at 0 row_rd HS rfl)).cellI c4.1 c4.2)) rfl rfl rfl ?_
    refine W.want 7 rfl (sb (decide_eq_true c3)) ?_
    refine W.rd (X.cmp (decide (((t1).getD ((0 : Int)).toNat 0) = 0)) rfl rfl rfl rfl) rfl rfl rfl ?_
    refine W.rd (X.pickT (sb (decide_eq_true c3)) rfl) rfl rfl rfl ?_
    refine W.rd (X.move rfl) rfl rfl rfl ?_
    by_cases c7 : ((t1).getD ((0 : Int)).toNat 0) = 0
    · replace H := ite_t c7 H
      refine W.want 13 rfl (sb (decide_eq_true c7)) ?_
      refine W.rd (X.move rfl) rfl rfl rfl ?_
      refine W.want 13 rfl (sb (decide_eq_true c7)) ?_
      obtain ⟨c8, H⟩ := ite_n H
      refine W.rd (X.indexSl Try.underlying26 inf5 rfl rfl c8.1 c8.2) rfl rfl rfl ?_
      refine W.want 13 rfl (sb (decide_eq_true c7)) ?_
      refine W.rd (X.load Try.underlying5 rfl rfl (((rdC.at 0 row_rd HS rfl)).cellI c8.1 c8.2)) rfl rfl rfl ?_
      refine W.want 13 rfl (sb (decide_eq_true c7)) ?_
      refine W.rd (X.cmp (decide (((t1).getD ((1 : Int)).toNat 0) = 0)) rfl rfl rfl rfl) rfl rfl rfl ?_
      refine W.rd (X.pickT (sb (decide_eq_true c7)) rfl) rfl rfl rfl ?_
      refine W.rd (X.move rfl) rfl rfl rfl ?_
      by_cases c9 : ((t1).getD ((1 : Int)).toNat 0) = 0
      · replace H := ite_t c9 H
        refine W.want 19 rfl (sb (decide_eq_true c9)) ?_
        refine W.rd (X.build (vs := #[(0, Value.int .i64 (4))]) (v := Value.agg #[Value.int .i64 (4), Value.int .i64 (0), Value.int .i64 (0), Value.bool (false)]) (fun a ha => by simp only [List.map_toArray, List.map_cons, List.map_nil]; try rfl) (fun _ => by kernel_rfl)) rfl rfl rfl ?_
        refine W.want 19 rfl (sb (decide_eq_true c9)) ?_
        obtain ⟨t10, A11, H⟩ := bind_s H
        refine W.ev (Y.call Try.func11 (by kernel_rfl) rfl (vs := [Value.agg #[Value.int .i64 (4), Value.int .i64 (0), Value.int .i64 (0), Value.bool (false)], Value.int .i64 (128)]) rfl (control_Right.calls ({ Kind := 4, Ns := 0, Nr := 0, Poll := false } : api_Ctl) 128 _ w0 _  t10  A11 (Sep.St.tailJoin (m := []) (r := [row 5 1 (.slice (some ⟨eb5, eo6, none⟩) (t1).length ct1_0) (t1).length ((t1).map (Value.int .u8)), R]) HS))) rfl rfl rfl ?_
        rintro _ w ⟨rfl, HS⟩
        replace HS := Sep.St.tailOpen (m := []) (r := [row 5 1 (.slice (some ⟨eb5, eo6, none⟩) (t1).length ct1_0) (t1).length ((t1).map (Value.int .u8)), R]) HS
        have HS : Sep.St [row 5 1 (.slice (some ⟨eb5, eo6, none⟩) (t1).length ct1_0) (t1).length ((t1).map (Value.int .u8)), R] w0 w := HS
        refine W.rd (X.pickT (sb (decide_eq_true c9)) rfl) rfl rfl rfl ?_
        refine W.rd (X.move rfl) rfl rfl rfl ?_
        by_cases c12 : t10 = true
        · replace H := ite_t c12 H
          refine W.want 23 rfl (sb c12) ?_
          refine W.rd (X.build (vs := #[]) (v := Value.agg #[Value.int .i64 (0), Value.int .i64 (0), Value.int .i64 (0), Value.bool (false)]) (fun a ha => by simp only [List.map_toArray, List.map_cons, List.map_nil]; try rfl) (fun _ => by kernel_rfl)) rfl rfl rfl ?_
          refine W.want 23 rfl (sb c12) ?_
          obtain ⟨t13, A14, H⟩ := bind_s H
          refine W.ev (Y.call Try.func11 (by kernel_rfl) rfl (vs := [Value.agg #[Value.int .i64 (0), Value.int .i64 (0), Value.int .i64 (0), Value.bool (false)], Value.int .i64 (8)]) rfl (control_Right.calls ({ Kind := 0, Ns := 0, Nr := 0, Poll := false } : api_Ctl) 8 _ w0 _  t13  A14 (Sep.St.tailJoin (m := []) (r := [row 5 1 (.slice (some ⟨eb5, eo6, none⟩) (t1).length ct1_0) (t1).length ((t1).map (Value.int .u8)), R]) HS))) rfl rfl rfl ?_
          rintro _ w ⟨rfl, HS⟩
          replace HS := Sep.St.tailOpen (m := []) (r := [row 5 1 (.slice (some ⟨eb5, eo6, none⟩) (t1).length ct1_0) (t1).length ((t1).map (Value.int .u8)), R]) HS
          have HS : Sep.St [row 5 1 (.slice (some ⟨eb5, eo6, none⟩) (t1).length ct1_0) (t1).length ((t1).map (Value.int .u8)), R] w0 w := HS
          refine W.want 23 rfl (sb c12) ?_
          refine W.rd (X.not rfl) rfl rfl rfl ?_
          refine W.rd (X.pickT (sb c12) rfl) rfl rfl rfl ?_
          refine W.rd (X.assign rfl) rfl rfl rfl ?_
          refine W.nil ?_
          refine At.next ?_
          refine V.keep [(0, Value.bool (!(t13)))] ⟨rfl, trivial⟩ ?_
          refine V.ret ?_
          replace HS := HS.sel [1] [0] rfl
          cases H
          exact At.ret1 rfl rfl ⟨_, rfl, rfl, HS⟩
        · replace H := ite_f c12 H
          refine W.pass 23 rfl (sb (b_f c12)) rfl rfl ?_
          refine W.pass 23 rfl (sb (b_f c12)) rfl rfl ?_
          refine W.pass 23 rfl (sb (b_f c12)) rfl rfl ?_
          refine W.rd (X.pickF (sb (b_f c12)) rfl) rfl rfl rfl ?_
          refine W.rd (X.assign rfl) rfl rfl rfl ?_
          refine W.nil ?_
          refine At.next ?_
          refine V.keep [(0, Value.bool (false))] ⟨rfl, trivial⟩ ?_
          refine V.ret ?_
          replace HS := HS.sel [1] [0] rfl
          cases H
          exact At.ret1 rfl rfl ⟨_, rfl, rfl, HS⟩
      · replace H := ite_f c9 H
        refine W.pass 19 rfl (sb (decide_eq_false c9)) rfl rfl ?_
        refine W.pass 19 rfl (sb (decide_eq_false c9)) rfl rfl ?_
        refine W.rd (X.pickF (sb (decide_eq_false c9)) rfl) rfl rfl rfl ?_
        refine W.rd (X.move rfl) rfl rfl rfl ?_
        refine W.pass 23 rfl rfl rfl rfl ?_
        refine W.pass 23 rfl rfl rfl rfl ?_
        refine W.pass 23 rfl rfl rfl rfl ?_
        refine W.rd (X.pickF rfl rfl) rfl rfl rfl ?_
        refine W.rd (X.assign rfl) rfl rfl rfl ?_
        refine W.nil ?_
        refine At.next ?_
        refine V.keep [(0, Value.bool (false))] ⟨rfl, trivial⟩ ?_
        refine V.ret ?_
        replace HS := HS.sel [1] [0] rfl
        cases H
        exact At.ret1 rfl rfl ⟨_, rfl, rfl, HS⟩
    · replace H := ite_f c7 H
      refine W.pass 13 rfl (sb (decide_eq_false c7)) rfl rfl ?_
      refine W.pass 13 rfl (sb (decide_eq_false c7)) rfl rfl ?_
      refine W.pass 13 rfl (sb (decide_eq_false c7)) rfl rfl ?_
      refine W.pass 13 rfl (sb (decide_eq_false c7)) rfl rfl ?_
      refine W.rd (X.pickF (sb (decide_eq_false c7)) rfl) rfl rfl rfl ?_
      refine W.rd (X.move rfl) rfl rfl rfl ?_
      refine W.pass 19 rfl rfl rfl rfl ?_
      refine W.pass 19 rfl rfl rfl rfl ?_
      refine W.rd (X.pickF rfl rfl) rfl rfl rfl ?_
      refine W.rd (X.move rfl) rfl rfl rfl ?_
      refine W.pass 23 rfl rfl rfl rfl ?_
      refine W.pass 23 rfl rfl rfl rfl ?_
      refine W.pass 23 rfl rfl rfl rfl ?_
      refine W.rd (X.pickF rfl rfl) rfl rfl rfl ?_
      refine W.rd (X.assign rfl) rfl rfl rfl ?_
      refine W.nil ?_
      refine At.next ?_
      refine V.keep [(0, Value.bool (false))] ⟨rfl, trivial⟩ ?_
      refine V.ret ?_
      replace HS := HS.sel [1] [0] rfl
      cases H
      exact At.ret1 rfl rfl ⟨_, rfl, rfl, HS⟩
  · replace H := ite_f c3 H
    refine W.pass 7 rfl (sb (decide_eq_false c3)) rfl rfl ?_
    refine W.pass 7 rfl (sb (decide_eq_false c3)) rfl rfl ?_
    refine W.pass 7 rfl (sb (decide_eq_false c3)) rfl rfl ?_
    refine W.pass 7 rfl (sb (decide_eq_false c3)) rfl rfl ?_
    refine W.rd (X.pickF (sb (decide_eq_false c3)) rfl) rfl rfl rfl ?_
    refine W.rd (X.move rfl) rfl rfl rfl ?_
    refine W.pass 13 rfl rfl rfl rfl ?_
    refine W.pass 13 rfl rfl rfl rfl ?_
    refine W.pass 13 rfl rfl rfl rfl ?_
    refine W.pass 13 rfl rfl rfl rfl ?_
    refine W.rd (X.pickF rfl rfl) rfl rfl rfl ?_
    refine W.rd (X.move rfl) rfl rfl rfl ?_
    refine W.pass 19 rfl rfl rfl rfl ?_
    refine W.pass 19 rfl rfl rfl rfl ?_
    refine W.rd (X.pickF rfl rfl) rfl rfl rfl ?_
    refine W.rd (X.move rfl) rfl rfl rfl ?_
    refine W.pass 23 rfl rfl rfl rfl ?_
    refine W.pass 23 rfl rfl rfl rfl ?_
    refine W.pass 23 rfl rfl rfl rfl ?_
    refine W.rd (X.pickF rfl rfl) rfl rfl rfl ?_
    refine W.rd (X.assign rfl) rfl rfl rfl ?_
    refine W.nil ?_
    refine At.next ?_
    refine V.keep [(0, Value.bool (false))] ⟨rfl, trivial⟩ ?_
    refine V.ret ?_
    replace HS := HS.sel [1] [0] rfl
    cases H
    exact At.ret1 rfl rfl ⟨_, rfl, rfl, HS⟩

/-! ### signalman/signalmanref6.RightCtl: function 9 -/
mutual
def signalmanref6_RightCtl.j3 (a0 : api_Ctl) (x4 : Bool) (x11 : Bool) : Option (Bool) := (if x11 = true then (if ((a0).Ns) = 0 then some (x4) else some (false)) else (if ((a0).Kind) ≥ 3 then (if ((a0).Kind) ≤ 7 then (if ((a0).Ns) = 0 then some (decide (((a0).Nr) = 0)) else some (false)) else some (false)) else some (false)))
def signalmanref6_RightCtl.j2 (a0 : api_Ctl) (x3 : Bool) (x4 : Bool) (x5 : Bool) : Option (Bool) := (if x5 = true then some (false) else (if ((a0).Kind) = 0 then (if x3 = true then some (x4) else some (false)) else (if ((a0).Kind) = 1 then (signalmanref6_RightCtl.j3 a0 x4 true) else (signalmanref6_RightCtl.j3 a0 x4 (decide (((a0).Kind) = 2))))))
def signalmanref6_RightCtl.j1 (a0 : api_Ctl) (a1 : Int) (x3 : Bool) (x4 : Bool) : Option (Bool) := (if a1 = 128 then (signalmanref6_RightCtl.j2 a0 x3 x4 false) else (signalmanref6_RightCtl.j2 a0 x3 x4 (!(decide (a1 = 32768)))))
def signalmanref6_RightCtl.j0 (a0 : api_Ctl) (a1 : Int) (x3 : Bool) : Option (Bool) := (if ((a0).Nr) ≥ 0 then (signalmanref6_RightCtl.j1 a0 a1 x3 (decide (((a0).Nr) < a1))) else (signalmanref6_RightCtl.j1 a0 a1 x3 false))
end
def signalmanref6_RightCtl.f (a0 : api_Ctl) (a1 : Int) : Option (Bool) := (if a0.Ns ≥ 0 then (signalmanref6_RightCtl.j0 a0 a1 (decide (a0.Ns < a1))) else (signalmanref6_RightCtl.j0 a0 a1 false))
set_option maxRecDepth 100000 in
set_option maxHeartbeats 4000000 in
theorem signalmanref6_RightCtl.calls (a0 : api_Ctl) (a1 : Int) (R : As) (w0 w : World)  (r : Bool)  (H : signalmanref6_RightCtl.f a0 a1 = some r) (HS : Sep.St [R] w0 w) : Calls Try.prog 9 #[Value.agg #[Value.int .i64 (a0.Kind), Value.int .i64 (a0.Ns), Value.int .i64 (a0.Nr), Value.bool (a0.Poll)], Value.int .i64 (a1)] w (Ret fun u w => u = Value.bool (r) ∧ Sep.St [R] w0 w) := by
  unfold signalmanref6_RightCtl.f at H
  refine calls_enter Try.func9 rfl rfl ?_
  have H : _ = some r := H
  refine V.seq ?_
  refine V.region ?_
  refine W.ev (Y.box HS rfl) rfl rfl rfl ?_
  rintro _ w ⟨nb1, rfl, HS⟩
  have HS : Sep.St [blk nb1 (#[Value.int .i64 (a0.Kind), Value.int .i64 (a0.Ns), Value.int .i64 (a0.Nr), Value.bool (a0.Poll)]) 23, R] w0 w := HS
  refine W.rd (X.assign rfl) rfl rfl rfl ?_
  refine W.nil ?_
  refine At.next ?_
  refine V.keep [(1, Value.int .i64 (a1)), (2, Value.pointer (some ⟨nb1, 0, none⟩))] ⟨rfl, rfl, trivial⟩ ?_
  refine V.meet (σ := Bool) (fun st w => match st with | x3 => Sep.St [api_Ctl.at nb1 (a0), R] w0 w ∧ signalmanref6_RightCtl.j0 a0 a1 x3 = some r) (fun st => match st with | x3 => [(1, Value.int .i64 (a1)), (2, Value.pointer (some ⟨nb1, 0, none⟩)), (5, Value.bool (x3))]) ?_ ?_
  · refine V.region ?_
    refine W.rd (X.fieldAddr 1 fo23_1 rfl) rfl rfl rfl ?_
    refine W.rd (X.loadAt 0 HS rfl Try.underlying3 rfl rfl rfl) rfl rfl rfl ?_
    refine W.rd (X.cmp (decide (a0.Ns ≥ 0)) rfl rfl rfl rfl) rfl rfl rfl ?_
    refine W.rd (X.move rfl) rfl rfl rfl ?_
    by_cases c26 : a0.Ns ≥ 0
    · replace H := ite_t c26 H
      refine W.want 10 rfl (sb (decide_eq_true c26)) ?_
      refine W.rd (X.fieldAddr 1 fo23_1 rfl) rfl rfl rfl ?_
      refine W.want 10 rfl (sb (decide_eq_true c26)) ?_
      refine W.rd (X.loadAt 0 HS rfl Try.underlying3 rfl rfl rfl) rfl rfl rfl ?_
      refine W.want 10 rfl (sb (decide_eq_true c26)) ?_
      refine W.rd (X.move rfl) rfl rfl rfl ?_
      refine W.want 10 rfl (sb (decide_eq_true c26)) ?_
      refine W.rd (X.cmp (decide (a0.Ns < a1)) rfl rfl rfl rfl) rfl rfl rfl ?_
      refine W.rd (X.pickT (sb (decide_eq_true c26)) rfl) rfl rfl rfl ?_
      refine W.rd (X.assign rfl) rfl rfl rfl ?_
      refine W.nil ?_
      replace HS := api_Ctl.close (a0) trivial HS
      have HS : Sep.St [api_Ctl.at nb1 (a0), R] w0 w := HS
      exact At.meet (decide (a0.Ns < a1)) ⟨rfl, rfl, rfl, trivial⟩ ⟨HS, H⟩
    · replace H := ite_f c26 H
      refine W.pass 10 rfl (sb (decide_eq_false c26)) rfl rfl ?_
      refine W.pass 10 rfl (sb (decide_eq_false c26)) rfl rfl ?_
      refine W.pass 10 rfl (sb (decide_eq_false c26)) rfl rfl ?_
      refine W.pass 10 rfl (sb (decide_eq_false c26)) rfl rfl ?_
      refine W.rd (X.pickF (sb (decide_eq_false c26)) rfl) rfl rfl rfl ?_
      refine W.rd (X.assign rfl) rfl rfl rfl ?_
      refine W.nil ?_
      replace HS := api_Ctl.close (a0) trivial HS
      have HS : Sep.St [api_Ctl.at nb1 (a0), R] w0 w := HS
      exact At.meet (false) ⟨rfl, rfl, rfl, trivial⟩ ⟨HS, H⟩
  · rintro x3 w ⟨HS, H⟩
    unfold signalmanref6_RightCtl.j0 at H
    have HS : Sep.St [api_Ctl.at nb1 (a0), R] w0 w := HS
    refine V.meet (σ := Bool) (fun st w => match st with | x4 => Sep.St [api_Ctl.at nb1 (a0), R] w0 w ∧ signalmanref6_RightCtl.j1 a0 a1 x3 x4 = some r) (fun st => match st with | x4 => [(1, Value.int .i64 (a1)), (2, Value.pointer (some ⟨nb1, 0, none⟩)), (5, Value.bool (x3)), (6, Value.bool (x4))]) ?_ ?_
    · refine V.region ?_
      obtain ⟨hi24, HS⟩ := api_Ctl.open HS
      have HS : Sep.St [blk nb1 (#[Value.int .i64 ((a0).Kind), Value.int .i64 ((a0).Ns), Value.int .i64 ((a0).Nr), Value.bool ((a0).Poll)]) 23, R] w0 w := HS
      refine W.rd (X.fieldAddr 2 fo23_2 rfl) rfl rfl rfl ?_
      refine W.rd (X.loadAt 0 HS rfl Try.underlying3 rfl rfl rfl) rfl rfl rfl ?_
      refine W.rd (X.cmp (decide (((a0).Nr) ≥ 0)) rfl rfl rfl rfl) rfl rfl rfl ?_
      refine W.rd (X.move rfl) rfl rfl rfl ?_
      by_cases c25 : ((a0).Nr) ≥ 0
      · replace H := ite_t c25 H
        refine W.want 19 rfl (sb (decide_eq_true c25)) ?_
        refine W.rd (X.fieldAddr 2 fo23_2 rfl) rfl rfl rfl ?_
        refine W.want 19 rfl (sb (decide_eq_true c25)) ?_
        refine W.rd (X.loadAt 0 HS rfl Try.underlying3 rfl rfl rfl) rfl rfl rfl ?_
        refine W.want 19 rfl (sb (decide_eq_true c25)) ?_
        refine W.rd (X.move rfl) rfl rfl rfl ?_
        refine W.want 19 rfl (sb (decide_eq_true c25)) ?_
        refine W.rd (X.cmp (decide (((a0).Nr) < a1)) rfl rfl rfl rfl) rfl rfl rfl ?_
        refine W.rd (X.pickT (sb (decide_eq_true c25)) rfl) rfl rfl rfl ?_
        refine W.rd (X.assign rfl) rfl rfl rfl ?_
        refine W.nil ?_
        replace HS := api_Ctl.close (a0) trivial HS
        have HS : Sep.St [api_Ctl.at nb1 (a0), R] w0 w := HS
        exact At.meet (decide (((a0).Nr) < a1)) ⟨rfl, rfl, rfl, rfl, trivial⟩ ⟨HS, H⟩
      · replace H := ite_f c25 H
        refine W.pass 19 rfl (sb (decide_eq_false c25)) rfl rfl ?_
        refine W.pass 19 rfl (sb (decide_eq_false c25)) rfl rfl ?_
        refine W.pass 19 rfl (sb (decide_eq_false c25)) rfl rfl ?_
        refine W.pass 19 rfl (sb (decide_eq_false c25)) rfl rfl ?_
        refine W.rd (X.pickF (sb (decide_eq_false c25)) rfl) rfl rfl rfl ?_
        refine W.rd (X.assign rfl) rfl rfl rfl ?_
        refine W.nil ?_
        replace HS := api_Ctl.close (a0) trivial HS
        have HS : Sep.St [api_Ctl.at nb1 (a0), R] w0 w := HS
        exact At.meet (false) ⟨rfl, rfl, rfl, rfl, trivial⟩ ⟨HS, H⟩
    · rintro x4 w ⟨HS, H⟩
      unfold signalmanref6_RightCtl.j1 at H
      have HS : Sep.St [api_Ctl.at nb1 (a0), R] w0 w := HS
      refine V.seq ?_
      refine V.meet (σ := Bool) (fun st w => match st with | x5 => Sep.St [api_Ctl.at nb1 (a0), R] w0 w ∧ signalmanref6_RightCtl.j2 a0 x3 x4 x5 = some r) (fun st => match st with | x5 => [(2, Value.pointer (some ⟨nb1, 0, none⟩)), (5, Value.bool (x3)), (6, Value.bool (x4)), (30, Value.bool (x5))]) ?_ ?_
      · refine V.region ?_
        refine W.rd (X.move rfl) rfl rfl rfl ?_
        refine W.rd (X.cmp (!(decide (a1 = 128))) rfl rfl rfl rfl) rfl rfl rfl ?_
        refine W.rd (X.move rfl) rfl rfl rfl ?_
        by_cases c22 : a1 = 128
        · replace H := ite_t c22 H
          refine W.pass 27 rfl (sb (n_t (decide_eq_true c22))) rfl rfl ?_
          refine W.pass 27 rfl (sb (n_t (decide_eq_true c22))) rfl rfl ?_
          refine W.rd (X.pickF (sb (n_t (decide_eq_true c22))) rfl) rfl rfl rfl ?_
          refine W.nil ?_
          exact At.meet (false) ⟨rfl, rfl, rfl, rfl, trivial⟩ ⟨HS, H⟩
        · replace H := ite_f c22 H
          refine W.want 27 rfl (sb (n_f (decide_eq_false c22))) ?_
          refine W.rd (X.move rfl) rfl rfl rfl ?_
          refine W.want 27 rfl (sb (n_f (decide_eq_false c22))) ?_
          refine W.rd (X.cmp (!(decide (a1 = 32768))) rfl rfl rfl rfl) rfl rfl rfl ?_
          refine W.rd (X.pickT (sb (n_f (decide_eq_false c22))) rfl) rfl rfl rfl ?_
          refine W.nil ?_
          exact At.meet (!(decide (a1 = 32768))) ⟨rfl, rfl, rfl, rfl, trivial⟩ ⟨HS, H⟩
      · rintro x5 w ⟨HS, H⟩
        unfold signalmanref6_RightCtl.j2 at H
        have HS : Sep.St [api_Ctl.at nb1 (a0), R] w0 w := HS
        by_cases c6 : x5 = true
        · replace H := ite_t c6 H
          refine V.condT (sb c6) ?_
          refine V.seq ?_
          refine V.region ?_
          refine W.rd (X.assign rfl) rfl rfl rfl ?_
          refine W.nil ?_
          refine At.next ?_
          refine V.keep [(4, Value.bool (false))] ⟨rfl, trivial⟩ ?_
          refine V.ret ?_
          refine At.thenRet ?_
          replace HS := HS.sel [1] [0] rfl
          cases H
          exact At.ret1 rfl rfl ⟨_, rfl, rfl, HS⟩
        · replace H := ite_f c6 H
          refine V.condF (sb (b_f c6)) ?_
          refine V.skip ?_
          refine At.next ?_
          refine V.keep [(2, Value.pointer (some ⟨nb1, 0, none⟩)), (5, Value.bool (x3)), (6, Value.bool (x4))] ⟨rfl, rfl, rfl, trivial⟩ ?_
          refine V.seq ?_
          refine V.block ?_
          refine V.seq ?_
          refine V.region ?_
          obtain ⟨hi8, HS⟩ := api_Ctl.open HS
          have HS : Sep.St [blk nb1 (#[Value.int .i64 ((a0).Kind), Value.int .i64 ((a0).Ns), Value.int .i64 ((a0).Nr), Value.bool ((a0).Poll)]) 23, R] w0 w := HS
          refine W.rd (X.fieldAddr 0 fo23_0 rfl) rfl rfl rfl ?_
          refine W.rd (X.loadAt 0 HS rfl Try.underlying3 rfl rfl rfl) rfl rfl rfl ?_
          refine W.rd (X.cmp (decide (((a0).Kind) = 0)) rfl rfl rfl rfl) rfl rfl rfl ?_
          refine W.rd (X.assign rfl) rfl rfl rfl ?_
          refine W.nil ?_
          refine At.next ?_
          refine V.keep [(2, Value.pointer (some ⟨nb1, 0, none⟩)), (5, Value.bool (x3)), (6, Value.bool (x4)), (31, Value.bool (decide (((a0).Kind) = 0)))] ⟨rfl, rfl, rfl, rfl, trivial⟩ ?_
          by_cases c9 : ((a0).Kind) = 0
          · replace H := ite_t c9 H
            refine V.condT (sb (decide_eq_true c9)) ?_
            refine V.seq ?_
            refine V.region ?_
            refine W.rd (X.move rfl) rfl rfl rfl ?_
            refine W.rd (X.move rfl) rfl rfl rfl ?_
            by_cases c10 : x3 = true
            · replace H := ite_t c10 H
              refine W.want 36 rfl (sb c10) ?_
              refine W.rd (X.move rfl) rfl rfl rfl ?_
              refine W.rd (X.pickT (sb c10) rfl) rfl rfl rfl ?_
              refine W.rd (X.assign rfl) rfl rfl rfl ?_
              refine W.nil ?_
              refine At.next ?_
              refine V.keep [(4, Value.bool (x4))] ⟨rfl, trivial⟩ ?_
              refine V.ret ?_
              refine At.blockRet ?_
              refine At.thenRet ?_
              replace HS := HS.sel [1] [0] rfl
              cases H
              exact At.ret1 rfl rfl ⟨_, rfl, rfl, HS⟩
            · replace H := ite_f c10 H
              refine W.pass 36 rfl (sb (b_f c10)) rfl rfl ?_
              refine W.rd (X.pickF (sb (b_f c10)) rfl) rfl rfl rfl ?_
              refine W.rd (X.assign rfl) rfl rfl rfl ?_
              refine W.nil ?_
              refine At.next ?_
              refine V.keep [(4, Value.bool (false))] ⟨rfl, trivial⟩ ?_
              refine V.ret ?_
              refine At.blockRet ?_
              refine At.thenRet ?_
              replace HS := HS.sel [1] [0] rfl
              cases H
              exact At.ret1 rfl rfl ⟨_, rfl, rfl, HS⟩
          · replace H := ite_f c9 H
            refine V.condF (sb (decide_eq_false c9)) ?_
            refine V.meet (σ := Bool) (fun st w => match st with | x11 => Sep.St [api_Ctl.at nb1 (a0), R] w0 w ∧ signalmanref6_RightCtl.j3 a0 x4 x11 = some r) (fun st => match st with | x11 => [(2, Value.pointer (some ⟨nb1, 0, none⟩)), (6, Value.bool (x4)), (39, Value.bool (x11))]) ?_ ?_
            · refine V.region ?_
              refine W.rd (X.fieldAddr 0 fo23_0 rfl) rfl rfl rfl ?_
              refine W.rd (X.loadAt 0 HS rfl Try.underlying3 rfl rfl rfl) rfl rfl rfl ?_
              refine W.rd (X.cmp (decide (((a0).Kind) = 1)) rfl rfl rfl rfl) rfl rfl rfl ?_
              refine W.rd (X.move rfl) rfl rfl rfl ?_
              by_cases c21 : ((a0).Kind) = 1
              · replace H := ite_t c21 H
                refine W.pass 43 rfl (sb (decide_eq_true c21)) rfl rfl ?_
                refine W.pass 43 rfl (sb (decide_eq_true c21)) rfl rfl ?_
                refine W.pass 43 rfl (sb (decide_eq_true c21)) rfl rfl ?_
                refine W.rd (X.pickT (sb (decide_eq_true c21)) rfl) rfl rfl rfl ?_
                refine W.rd (X.assign rfl) rfl rfl rfl ?_
                refine W.nil ?_
                replace HS := api_Ctl.close (a0) trivial HS
                have HS : Sep.St [api_Ctl.at nb1 (a0), R] w0 w := HS
                exact At.meet (true) ⟨rfl, rfl, rfl, trivial⟩ ⟨HS, H⟩
              · replace H := ite_f c21 H
                refine W.want 43 rfl (sb (decide_eq_false c21)) ?_
                refine W.rd (X.fieldAddr 0 fo23_0 rfl) rfl rfl rfl ?_
                refine W.want 43 rfl (sb (decide_eq_false c21)) ?_
                refine W.rd (X.loadAt 0 HS rfl Try.underlying3 rfl rfl rfl) rfl rfl rfl ?_
                refine W.want 43 rfl (sb (decide_eq_false c21)) ?_
                refine W.rd (X.cmp (decide (((a0).Kind) = 2)) rfl rfl rfl rfl) rfl rfl rfl ?_
                refine W.rd (X.pickF (sb (decide_eq_false c21)) rfl) rfl rfl rfl ?_
                refine W.rd (X.assign rfl) rfl rfl rfl ?_
                refine W.nil ?_
                replace HS := api_Ctl.close (a0) trivial HS
                have HS : Sep.St [api_Ctl.at nb1 (a0), R] w0 w := HS
                exact At.meet (decide (((a0).Kind) = 2)) ⟨rfl, rfl, rfl, trivial⟩ ⟨HS, H⟩
            · rintro x11 w ⟨HS, H⟩
              unfold signalmanref6_RightCtl.j3 at H
              have HS : Sep.St [api_Ctl.at nb1 (a0), R] w0 w := HS
              by_cases c12 : x11 = true
              · replace H := ite_t c12 H
                refine V.condT (sb c12) ?_
                refine V.seq ?_
                refine V.region ?_
                obtain ⟨hi14, HS⟩ := api_Ctl.open HS
                have HS : Sep.St [blk nb1 (#[Value.int .i64 ((a0).Kind), Value.int .i64 ((a0).Ns), Value.int .i64 ((a0).Nr), Value.bool ((a0).Poll)]) 23, R] w0 w := HS
                refine W.rd (X.fieldAddr 1 fo23_1 rfl) rfl rfl rfl ?_
                refine W.rd (X.loadAt 0 HS rfl Try.underlying3 rfl rfl rfl) rfl rfl rfl ?_
                refine W.rd (X.cmp (decide (((a0).Ns) = 0)) rfl rfl rfl rfl) rfl rfl rfl ?_
                refine W.rd (X.move rfl) rfl rfl rfl ?_
                by_cases c15 : ((a0).Ns) = 0
                · replace H := ite_t c15 H
                  refine W.want 51 rfl (sb (decide_eq_true c15)) ?_
                  refine W.rd (X.move rfl) rfl rfl rfl ?_
                  refine W.rd (X.pickT (sb (decide_eq_true c15)) rfl) rfl rfl rfl ?_
                  refine W.rd (X.assign rfl) rfl rfl rfl ?_
                  refine W.nil ?_
                  refine At.next ?_
                  refine V.keep [(4, Value.bool (x4))] ⟨rfl, trivial⟩ ?_
                  refine V.ret ?_
                  refine At.blockRet ?_
                  refine At.thenRet ?_
                  replace HS := HS.sel [1] [0] rfl
                  cases H
                  exact At.ret1 rfl rfl ⟨_, rfl, rfl, HS⟩
                · replace H := ite_f c15 H
                  refine W.pass 51 rfl (sb (decide_eq_false c15)) rfl rfl ?_
                  refine W.rd (X.pickF (sb (decide_eq_false c15)) rfl) rfl rfl rfl ?_
                  refine W.rd (X.assign rfl) rfl rfl rfl ?_
                  refine W.nil ?_
                  refine At.next ?_
                  refine V.keep [(4, Value.bool (false))] ⟨rfl, trivial⟩ ?_
                  refine V.ret ?_
                  refine At.blockRet ?_
                  refine At.thenRet ?_
                  replace HS := HS.sel [1] [0] rfl
                  cases H
                  exact At.ret1 rfl rfl ⟨_, rfl, rfl, HS⟩
              · replace H := ite_f c12 H
                refine V.condF (sb (b_f c12)) ?_
                refine V.skip ?_
                refine At.blockEnd ?_
                refine At.next ?_
                refine V.keep [(2, Value.pointer (some ⟨nb1, 0, none⟩))] ⟨rfl, trivial⟩ ?_
                refine V.seq ?_
                refine V.region ?_
                obtain ⟨hi17, HS⟩ := api_Ctl.open HS
                have HS : Sep.St [blk nb1 (#[Value.int .i64 ((a0).Kind), Value.int .i64 ((a0).Ns), Value.int .i64 ((a0).Nr), Value.bool ((a0).Poll)]) 23, R] w0 w := HS
                refine W.rd (X.fieldAddr 0 fo23_0 rfl) rfl rfl rfl ?_
                refine W.rd (X.loadAt 0 HS rfl Try.underlying3 rfl rfl rfl) rfl rfl rfl ?_
                refine W.rd (X.cmp (decide (((a0).Kind) ≥ 3)) rfl rfl rfl rfl) rfl rfl rfl ?_
                refine W.rd (X.move rfl) rfl rfl rfl ?_
                by_cases c18 : ((a0).Kind) ≥ 3
                · replace H := ite_t c18 H
                  refine W.want 57 rfl (sb (decide_eq_true c18)) ?_
                  refine W.rd (X.fieldAddr 0 fo23_0 rfl) rfl rfl rfl ?_
                  refine W.want 57 rfl (sb (decide_eq_true c18)) ?_
                  refine W.rd (X.loadAt 0 HS rfl Try.underlying3 rfl rfl rfl) rfl rfl rfl ?_
                  refine W.want 57 rfl (sb (decide_eq_true c18)) ?_
                  refine W.rd (X.cmp (decide (((a0).Kind) ≤ 7)) rfl rfl rfl rfl) rfl rfl rfl ?_
                  refine W.rd (X.pickT (sb (decide_eq_true c18)) rfl) rfl rfl rfl ?_
                  refine W.rd (X.move rfl) rfl rfl rfl ?_
                  by_cases c19 : ((a0).Kind) ≤ 7
                  · replace H := ite_t c19 H
                    refine W.want 62 rfl (sb (decide_eq_true c19)) ?_
                    refine W.rd (X.fieldAddr 1 fo23_1 rfl) rfl rfl rfl ?_
                    refine W.want 62 rfl (sb (decide_eq_true c19)) ?_
                    refine W.rd (X.loadAt 0 HS rfl Try.underlying3 rfl rfl rfl) rfl rfl rfl ?_
                    refine W.want 62 rfl (sb (decide_eq_true c19)) ?_
                    refine W.rd (X.cmp (decide (((a0).Ns) = 0)) rfl rfl rfl rfl) rfl rfl rfl ?_
                    refine W.rd (X.pickT (sb (decide_eq_true c19)) rfl) rfl rfl rfl ?_
                    refine W.rd (X.move rfl) rfl rfl rfl ?_
                    by_cases c20 : ((a0).Ns) = 0
                    · replace H := ite_t c20 H
                      refine W.want 67 rfl (sb (decide_eq_true c20)) ?_
                      refine W.rd (X.fieldAddr 2 fo23_2 rfl) rfl rfl rfl ?_
                      refine W.want 67 rfl (sb (decide_eq_true c20)) ?_
                      refine W.rd (X.loadAt 0 HS rfl Try.underlying3 rfl rfl rfl) rfl rfl rfl ?_
                      refine W.want 67 rfl (sb (decide_eq_true c20)) ?_
                      refine W.rd (X.cmp (decide (((a0).Nr) = 0)) rfl rfl rfl rfl) rfl rfl rfl ?_
                      refine W.rd (X.pickT (sb (decide_eq_true c20)) rfl) rfl rfl rfl ?_
                      refine W.rd (X.assign rfl) rfl rfl rfl ?_
                      refine W.nil ?_
                      refine At.next ?_
                      refine V.keep [(4, Value.bool (decide (((a0).Nr) = 0)))] ⟨rfl, trivial⟩ ?_
                      refine V.ret ?_
                      replace HS := HS.sel [1] [0] rfl
                      cases H
                      exact At.ret1 rfl rfl ⟨_, rfl, rfl, HS⟩
                    · replace H := ite_f c20 H
                      refine W.pass 67 rfl (sb (decide_eq_false c20)) rfl rfl ?_
                      refine W.pass 67 rfl (sb (decide_eq_false c20)) rfl rfl ?_
                      refine W.pass 67 rfl (sb (decide_eq_false c20)) rfl rfl ?_
                      refine W.rd (X.pickF (sb (decide_eq_false c20)) rfl) rfl rfl rfl ?_
                      refine W.rd (X.assign rfl) rfl rfl rfl ?_
                      refine W.nil ?_
                      refine At.next ?_
                      refine V.keep [(4, Value.bool (false))] ⟨rfl, trivial⟩ ?_
                      refine V.ret ?_
                      replace HS := HS.sel [1] [0] rfl
                      cases H
                      exact At.ret1 rfl rfl ⟨_, rfl, rfl, HS⟩
                  · replace H := ite_f c19 H
                    refine W.pass 62 rfl (sb (decide_eq_false c19)) rfl rfl ?_
                    refine W.pass 62 rfl (sb (decide_eq_false c19)) rfl rfl ?_
                    refine W.pass 62 rfl (sb (decide_eq_false c19)) rfl rfl ?_
                    refine W.rd (X.pickF (sb (decide_eq_false c19)) rfl) rfl rfl rfl ?_
                    refine W.rd (X.move rfl) rfl rfl rfl ?_
                    refine W.pass 67 rfl rfl rfl rfl ?_
                    refine W.pass 67 rfl rfl rfl rfl ?_
                    refine W.pass 67 rfl rfl rfl rfl ?_
                    refine W.rd (X.pickF rfl rfl) rfl rfl rfl ?_
                    refine W.rd (X.assign rfl) rfl rfl rfl ?_
                    refine W.nil ?_
                    refine At.next ?_
                    refine V.keep [(4, Value.bool (false))] ⟨rfl, trivial⟩ ?_
                    refine V.ret ?_
                    replace HS := HS.sel [1] [0] rfl
                    cases H
                    exact At.ret1 rfl rfl ⟨_, rfl, rfl, HS⟩
                · replace H := ite_f c18 H
                  refine W.pass 57 rfl (sb (decide_eq_false c18)) rfl rfl ?_
                  refine W.pass 57 rfl (sb (decide_eq_false c18)) rfl rfl ?_
                  refine W.pass 57 rfl (sb (decide_eq_false c18)) rfl rfl ?_
                  refine W.rd (X.pickF (sb (decide_eq_false c18)) rfl) rfl rfl rfl ?_
                  refine W.rd (X.move rfl) rfl rfl rfl ?_
                  refine W.pass 62 rfl rfl rfl rfl ?_
                  refine W.pass 62 rfl rfl rfl rfl ?_
                  refine W.pass 62 rfl rfl rfl rfl ?_
                  refine W.rd (X.pickF rfl rfl) rfl rfl rfl ?_
                  refine W.rd (X.move rfl) rfl rfl rfl ?_
                  refine W.pass 67 rfl rfl rfl rfl ?_
                  refine W.pass 67 rfl rfl rfl rfl ?_
                  refine W.pass 67 rfl rfl rfl rfl ?_
                  refine W.rd (X.pickF rfl rfl) rfl rfl rfl ?_
                  refine W.rd (X.assign rfl) rfl rfl rfl ?_
                  refine W.nil ?_
                  refine At.next ?_
                  refine V.keep [(4, Value.bool (false))] ⟨rfl, trivial⟩ ?_
                  refine V.ret ?_
                  replace HS := HS.sel [1] [0] rfl
                  cases H
                  exact At.ret1 rfl rfl ⟨_, rfl, rfl, HS⟩

def api_Ctl.beq (x y : api_Ctl) : Bool := (x.Kind == y.Kind && (x.Ns == y.Ns && (x.Nr == y.Nr && (x.Poll == y.Poll && true))))

/-! ### signalman/signalmanlaw12.ControlApart: function 3 -/
mutual
def signalmanlaw12_ControlApart.j1 (a0 : api_Ctl) (a1 : api_Ctl) (t3 : Bool) (x7 : Int) (x8 : Bool) : Option (Bool) := (if x8 = true then some (t3) else ((control_Bytes.f (a0) x7).bind fun t12 => ((control_Bytes.f (a1) x7).bind fun t16 => (if api_Ctl.beq (a0) (a1) = true then some (sEq (t12) (t16)) else (if ((t12).length : Int) > 0 then (if ((t16).length : Int) > 0 then (if ((t12).length : Int) > ((t16).length : Int) then (if ((t16).length : Int) > ((t12).length : Int) then some (true) else (if 0 ≤ (0 : Int) ∧ (0 : Int) ≤ ((t16).length : Int) ∧ ((t16).length : Int) ≤ ((t12).length : Int) then some (!(sEq (cut t12 (0 : Int) ((t16).length : Int)) (t16))) else none)) else (if 0 ≤ (0 : Int) ∧ (0 : Int) ≤ ((t12).length : Int) ∧ ((t12).length : Int) ≤ ((t16).length : Int) then (if sEq (cut t16 (0 : Int) ((t12).length : Int)) (t12) = true then some (false) else (if ((t16).length : Int) > ((t12).length : Int) then some (true) else (if 0 ≤ (0 : Int) ∧ (0 : Int) ≤ ((t16).length : Int) ∧ ((t16).length : Int) ≤ ((t12).length : Int) then some (!(sEq (cut t12 (0 : Int) ((t16).length : Int)) (t16))) else none))) else none)) else some (false)) else some (false))))))
def signalmanlaw12_ControlApart.j0 (a0 : api_Ctl) (a1 : api_Ctl) (t3 : Bool) (x7 : Int) : Option (Bool) := (if t3 = true then ((signalmanref6_RightCtl.f (a0) x7).bind fun t31 => (if t31 = true then ((signalmanref6_RightCtl.f (a1) x7).bind fun t36 => (signalmanlaw12_ControlApart.j1 a0 a1 t3 x7 (!(t36)))) else (signalmanlaw12_ControlApart.j1 a0 a1 t3 x7 true))) else (signalmanlaw12_ControlApart.j1 a0 a1 t3 x7 true))
end
def signalmanlaw12_ControlApart.f (a0 : api_Ctl) (a1 : api_Ctl) (a2 : Bool) : Option (Bool) := ((signalmanlaw12_alive.f ).bind fun t3 => (if a2 = true then (signalmanlaw12_ControlApart.j0 a0 a1 t3 32768) else (signalmanlaw12_ControlApart.j0 a0 a1 t3 128)))
set_option maxRecDepth 100000 in
set_option maxHeartbeats 4000000 in
theorem signalmanlaw12_ControlApart.calls (a0 : api_Ctl) (a1 : api_Ctl) (a2 : Bool) (R : As) (w0 w : World)  (r : Bool)  (H : signalmanlaw12_ControlApart.f a0 a1 a2 = some r) (HS : Sep.St [R] w0 w) : Calls Try.prog 3 #[Value.agg #[Value.int .i64 (a0.Kind), Value.int .i64 (a0.Ns), Value.int .i64 (a0.Nr), Value.bool (a0.Poll)], Value.agg #[Value.int .i64 (a1.Kind), Value.int .i64 (a1.Ns), Value.int .i64 (a1.Nr), Value.bool (a1.Poll)], Value.bool (a2)] w (Ret fun u w => u = Value.bool (r) ∧ Sep.St [R] w0 w) := by
  unfold signalmanlaw12_ControlApart.f at H
  refine calls_enter Try.func3 rfl rfl ?_
  have H : _ = some r := H
  refine V.seq ?_
  refine V.region ?_
  refine W.ev (Y.box HS rfl) rfl rfl rfl ?_
  rintro _ w ⟨nb1, rfl, HS⟩
  have HS : Sep.St [blk nb1 (#[Value.int .i64 (a0.Kind), Value.int .i64 (a0.Ns), Value.int .i64 (a0.Nr), Value.bool (a0.Poll)]) 23, R] w0 w := HS
  refine W.ev (Y.box HS rfl) rfl rfl rfl ?_
  rintro _ w ⟨nb2, rfl, HS⟩
  have HS : Sep.St [blk nb2 (#[Value.int .i64 (a1.Kind), Value.int .i64 (a1.Ns), Value.int .i64 (a1.Nr), Value.bool (a1.Poll)]) 23, blk nb1 (#[Value.int .i64 (a0.Kind), Value.int .i64 (a0.Ns), Value.int .i64 (a0.Nr), Value.bool (a0.Poll)]) 23, R] w0 w := HS
  refine W.rd (X.assign rfl) rfl rfl rfl ?_
  refine W.nil ?_
  refine At.next ?_
  refine V.keep [(2, Value.bool (a2)), (3, Value.pointer (some ⟨nb1, 0, none⟩)), (4, Value.pointer (some ⟨nb2, 0, none⟩))] ⟨rfl, rfl, rfl, trivial⟩ ?_
  refine V.seq ?_
  refine V.region ?_
  obtain ⟨t3, A4, H⟩ := bind_s H
  refine W.ev (Y.call Try.func8 (by kernel_rfl) rfl (vs := []) rfl (signalmanlaw12_alive.calls  _ w0 _  t3  A4 (Sep.St.tailJoin (m := []) (r := [blk nb2 (#[Value.int .i64 (a1.Kind), Value.int .i64 (a1.Ns), Value.int .i64 (a1.Nr), Value.bool (a1.Poll)]) 23, blk nb1 (#[Value.int .i64 (a0.Kind), Value.int .i64 (a0.Ns), Value.int .i64 (a0.Nr), Value.bool (a0.Poll)]) 23, R]) HS))) rfl rfl rfl ?_
  rintro _ w ⟨rfl, HS⟩
  replace HS := Sep.St.tailOpen (m := []) (r := [blk nb2 (#[Value.int .i64 (a1.Kind), Value.int .i64 (a1.Ns), Value.int .i64 (a1.Nr), Value.bool (a1.Poll)]) 23, blk nb1 (#[Value.int .i64 (a0.Kind), Value.int .i64 (a0.Ns), Value.int .i64 (a0.Nr), Value.bool (a0.Poll)]) 23, R]) HS
  have HS : Sep.St [blk nb2 (#[Value.int .i64 (a1.Kind), Value.int .i64 (a1.Ns), Value.int .i64 (a1.Nr), Value.bool (a1.Poll)]) 23, blk nb1 (#[Value.int .i64 (a0.Kind), Value.int .i64 (a0.Ns), Value.int .i64 (a0.Nr), Value.bool (a0.Poll)]) 23, R] w0 w := HS
  refine W.rd (X.assign rfl) rfl rfl rfl ?_
  refine W.nil ?_
  refine At.next ?_
  refine V.keep [(2, Value.bool (a2)), (3, Value.pointer (some ⟨nb1, 0, none⟩)), (4, Value.pointer (some ⟨nb2, 0, none⟩)), (7, Value.bool (t3))] ⟨rfl, rfl, rfl, rfl, trivial⟩ ?_
  refine V.seq ?_
  refine V.region ?_
  refine W.rd (X.assign rfl) rfl rfl rfl ?_
  refine W.nil ?_
  refine At.next ?_
  refine V.keep [(2, Value.bool (a2)), (3, Value.pointer (some ⟨nb1, 0, none⟩)), (4, Value.pointer (some ⟨nb2, 0, none⟩)), (7, Value.bool (t3)), (8, Value.int .i64 (128))] ⟨rfl, rfl, rfl, rfl, rfl, trivial⟩ ?_
  refine V.meet (σ := Int) (fun st w => match st with | x7 => Sep.St [api_Ctl.at nb1 (a0), api_Ctl.at nb2 (a1), R] w0 w ∧ signalmanlaw12_ControlApart.j0 a0 a1 t3 x7 = some r) (fun st => match st with | x7 => [(3, Value.pointer (some ⟨nb1, 0, none⟩)), (4, Value.pointer (some ⟨nb2, 0, none⟩)), (7, Value.bool (t3)), (8, Value.int .i64 (x7))]) ?_ ?_
  · refine V.seq ?_
    refine V.region ?_
    refine W.rd (X.move rfl) rfl rfl rfl ?_
    refine W.nil ?_
    refine At.next ?_
    refine V.keep [(3, Value.pointer (some ⟨nb1, 0, none⟩)), (4, Value.pointer (some ⟨nb2, 0, none⟩)), (7, Value.bool (t3)), (8, Value.int .i64 (128)), (12, Value.bool (a2))] ⟨rfl, rfl, rfl, rfl, rfl, trivial⟩ ?_
    by_cases c38 : a2 = true
    · replace H := ite_t c38 H
      refine V.condT (sb c38) ?_
      refine V.region ?_
      refine W.rd (X.assign rfl) rfl rfl rfl ?_
      refine W.nil ?_
      replace HS := HS.re [1, 0, 2] rfl
      have HS : Sep.St [blk nb1 (#[Value.int .i64 (a0.Kind), Value.int .i64 (a0.Ns), Value.int .i64 (a0.Nr), Value.bool (a0.Poll)]) 23, blk nb2 (#[Value.int .i64 (a1.Kind), Value.int .i64 (a1.Ns), Value.int .i64 (a1.Nr), Value.bool (a1.Poll)]) 23, R] w0 w := HS
      replace HS := api_Ctl.close (a0) trivial HS
      have HS : Sep.St [api_Ctl.at nb1 (a0), blk nb2 (#[Value.int .i64 (a1.Kind), Value.int .i64 (a1.Ns), Value.int .i64 (a1.Nr), Value.bool (a1.Poll)]) 23, R] w0 w := HS
      replace HS := HS.re [1, 0, 2] rfl
      have HS : Sep.St [blk nb2 (#[Value.int .i64 (a1.Kind), Value.int .i64 (a1.Ns), Value.int .i64 (a1.Nr), Value.bool (a1.Poll)]) 23, api_Ctl.at nb1 (a0), R] w0 w := HS
      replace HS := api_Ctl.close (a1) trivial HS
      have HS : Sep.St [api_Ctl.at nb2 (a1), api_Ctl.at nb1 (a0), R] w0 w := HS
      replace HS := HS.sel [1, 0, 2] [] rfl
      exact At.meet (32768) ⟨rfl, rfl, rfl, rfl, trivial⟩ ⟨HS, H⟩
    · replace H := ite_f c38 H
      refine V.condF (sb (b_f c38)) ?_
      refine V.skip ?_
      replace HS := HS.re [1, 0, 2] rfl
      have HS : Sep.St [blk nb1 (#[Value.int .i64 (a0.Kind), Value.int .i64 (a0.Ns), Value.int .i64 (a0.Nr), Value.bool (a0.Poll)]) 23, blk nb2 (#[Value.int .i64 (a1.Kind), Value.int .i64 (a1.Ns), Value.int .i64 (a1.Nr), Value.bool (a1.Poll)]) 23, R] w0 w := HS
      replace HS := api_Ctl.close (a0) trivial HS
      have HS : Sep.St [api_Ctl.at nb1 (a0), blk nb2 (#[Value.int .i64 (a1.Kind), Value.int .i64 (a1.Ns), Value.int .i64 (a1.Nr), Value.bool (a1.Poll)]) 23, R] w0 w := HS
      replace HS := HS.re [1, 0, 2] rfl
      have HS : Sep.St [blk nb2 (#[Value.int .i64 (a1.Kind), Value.int .i64 (a1.Ns), Value.int .i64 (a1.Nr), Value.bool (a1.Poll)]) 23, api_Ctl.at nb1 (a0), R] w0 w := HS
      replace HS := api_Ctl.close (a1) trivial HS
      have HS : Sep.St [api_Ctl.at nb2 (a1), api_Ctl.at nb1 (a0), R] w0 w := HS
      replace HS := HS.sel [1, 0, 2] [] rfl
      exact At.meet (128) ⟨rfl, rfl, rfl, rfl, trivial⟩ ⟨HS, H⟩
  · rintro x7 w ⟨HS, H⟩
    unfold signalmanlaw12_ControlApart.j0 at H
    have HS : Sep.St [api_Ctl.at nb1 (a0), api_Ctl.at nb2 (a1), R] w0 w := HS
    refine V.seq ?_
    refine V.meet (σ := Bool) (fun st w => match st with | x8 => Sep.St [api_Ctl.at nb1 (a0), api_Ctl.at nb2 (a1), R] w0 w ∧ signalmanlaw12_ControlApart.j1 a0 a1 t3 x7 x8 = some r) (fun st => match st with | x8 => [(3, Value.pointer (some ⟨nb1, 0, none⟩)), (4, Value.pointer (some ⟨nb2, 0, none⟩)), (7, Value.bool (t3)), (8, Value.int .i64 (x7)), (26, Value.bool (x8))]) ?_ ?_
    · refine V.region ?_
      refine W.rd (X.move rfl) rfl rfl rfl ?_
      refine W.rd (X.not rfl) rfl rfl rfl ?_
      refine W.rd (X.move rfl) rfl rfl rfl ?_
      by_cases c28 : t3 = true
      · replace H := ite_t c28 H
        refine W.want 15 rfl (sb (n_t c28)) ?_
        obtain ⟨hi30, HS⟩ := api_Ctl.open HS
        have HS : Sep.St [blk nb1 (#[Value.int .i64 ((a0).Kind), Value.int .i64 ((a0).Ns), Value.int .i64 ((a0).Nr), Value.bool ((a0).Poll)]) 23, api_Ctl.at nb2 (a1), R] w0 w := HS
        refine W.rd (X.loadSt 0 [Value.int .i64 ((a0).Kind), Value.int .i64 ((a0).Ns), Value.int .i64 ((a0).Nr), Value.bool ((a0).Poll)] HS rfl Try.underlying23 rfl inf23 rfl rfl) rfl rfl rfl ?_
        refine W.want 15 rfl (sb (n_t c28)) ?_
        refine W.rd (X.move rfl) rfl rfl rfl ?_
        refine W.want 15 rfl (sb (n_t c28)) ?_
        obtain ⟨t31, A32, H⟩ := bind_s H
        refine W.ev (Y.call Try.func9 (by kernel_rfl) rfl (vs := [Value.agg #[Value.int .i64 ((a0).Kind), Value.int .i64 ((a0).Ns), Value.int .i64 ((a0).Nr), Value.bool ((a0).Poll)], Value.int .i64 (x7)]) rfl (signalmanref6_RightCtl.calls (a0) x7 _ w0 _  t31  A32 (Sep.St.tailJoin (m := []) (r := [blk nb1 (#[Value.int .i64 ((a0).Kind), Value.int .i64 ((a0).Ns), Value.int .i64 ((a0).Nr), Value.bool ((a0).Poll)]) 23, api_Ctl.at nb2 (a1), R]) HS))) rfl rfl rfl ?_
        rintro _ w ⟨rfl, HS⟩
        replace HS := Sep.St.tailOpen (m := []) (r := [blk nb1 (#[Value.int .i64 ((a0).Kind), Value.int .i64 ((a0).Ns), Value.int .i64 ((a0).Nr), Value.bool ((a0).Poll)]) 23, api_Ctl.at nb2 (a1), R]) HS
        have HS : Sep.St [blk nb1 (#[Value.int .i64 ((a0).Kind), Value.int .i64 ((a0).Ns), Value.int .i64 ((a0).Nr), Value.bool ((a0).Poll)]) 23, api_Ctl.at nb2 (a1), R] w0 w := HS
        refine W.want 15 rfl (sb (n_t c28)) ?_
        refine W.rd (X.not rfl) rfl rfl rfl ?_
        refine W.rd (X.pickF (sb (n_t c28)) rfl) rfl rfl rfl ?_
        refine W.rd (X.move rfl) rfl rfl rfl ?_
        by_cases c33 : t31 = true
        · replace H := ite_t c33 H
          refine W.want 21 rfl (sb (n_t c33)) ?_
          replace HS := HS.front 1 rfl
          have HS : Sep.St [api_Ctl.at nb2 (a1), blk nb1 (#[Value.int .i64 ((a0).Kind), Value.int .i64 ((a0).Ns), Value.int .i64 ((a0).Nr), Value.bool ((a0).Poll)]) 23, R] w0 w := HS
          obtain ⟨hi35, HS⟩ := api_Ctl.open HS
          have HS : Sep.St [blk nb2 (#[Value.int .i64 ((a1).Kind), Value.int .i64 ((a1).Ns), Value.int .i64 ((a1).Nr), Value.bool ((a1).Poll)]) 23, blk nb1 (#[Value.int .i64 ((a0).Kind), Value.int .i64 ((a0).Ns), Value.int .i64 ((a0).Nr), Value.bool ((a0).Poll)]) 23, R] w0 w := HS
          refine W.rd (X.loadSt 0 [Value.int .i64 ((a1).Kind), Value.int .i64 ((a1).Ns), Value.int .i64 ((a1).Nr), Value.bool ((a1).Poll)] HS rfl Try.underlying23 rfl inf23 rfl rfl) rfl rfl rfl ?_
          refine W.want 21 rfl (sb (n_t c33)) ?_
          refine W.rd (X.move rfl) rfl rfl rfl ?_
          refine W.want 21 rfl (sb (n_t c33)) ?_
          obtain ⟨t36, A37, H⟩ := bind_s H
          refine W.ev (Y.call Try.func9 (by kernel_rfl) rfl (vs := [Value.agg #[Value.int .i64 ((a1).Kind), Value.int .i64 ((a1).Ns), Value.int .i64 ((a1).Nr), Value.bool ((a1).Poll)], Value.int .i64 (x7)]) rfl (signalmanref6_RightCtl.calls (a1) x7 _ w0 _  t36  A37 (Sep.St.tailJoin (m := []) (r := [blk nb2 (#[Value.int .i64 ((a1).Kind), Value.int .i64 ((a1).Ns), Value.int .i64 ((a1).Nr), Value.bool ((a1).Poll)]) 23, blk nb1 (#[Value.int .i64 ((a0).Kind), Value.int .i64 ((a0).Ns), Value.int .i64 ((a0).Nr), Value.bool ((a0).Poll)]) 23, R]) HS))) rfl rfl rfl ?_
          rintro _ w ⟨rfl, HS⟩
          replace HS := Sep.St.tailOpen (m := []) (r := [blk nb2 (#[Value.int .i64 ((a1).Kind), Value.int .i64 ((a1).Ns), Value.int .i64 ((a1).Nr), Value.bool ((a1).Poll)]) 23, blk nb1 (#[Value.int .i64 ((a0).Kind), Value.int .i64 ((a0).Ns), Value.int .i64 ((a0).Nr), Value.bool ((a0).Poll)]) 23, R]) HS
          have HS : Sep.St [blk nb2 (#[Value.int .i64 ((a1).Kind), Value.int .i64 ((a1).Ns), Value.int .i64 ((a1).Nr), Value.bool ((a1).Poll)]) 23, blk nb1 (#[Value.int .i64 ((a0).Kind), Value.int .i64 ((a0).Ns), Value.int .i64 ((a0).Nr), Value.bool ((a0).Poll)]) 23, R] w0 w := HS
          refine W.want 21 rfl (sb (n_t c33)) ?_
          refine W.rd (X.not rfl) rfl rfl rfl ?_
          refine W.rd (X.pickF (sb (n_t c33)) rfl) rfl rfl rfl ?_
          refine W.nil ?_
          replace HS := HS.re [1, 0, 2] rfl
          have HS : Sep.St [blk nb1 (#[Value.int .i64 ((a0).Kind), Value.int .i64 ((a0).Ns), Value.int .i64 ((a0).Nr), Value.bool ((a0).Poll)]) 23, blk nb2 (#[Value.int .i64 ((a1).Kind), Value.int .i64 ((a1).Ns), Value.int .i64 ((a1).Nr), Value.bool ((a1).Poll)]) 23, R] w0 w := HS
          replace HS := api_Ctl.close (a0) trivial HS
          have HS : Sep.St [api_Ctl.at nb1 (a0), blk nb2 (#[Value.int .i64 ((a1).Kind), Value.int .i64 ((a1).Ns), Value.int .i64 ((a1).Nr), Value.bool ((a1).Poll)]) 23, R] w0 w := HS
          replace HS := HS.re [1, 0, 2] rfl
          have HS : Sep.St [blk nb2 (#[Value.int .i64 ((a1).Kind), Value.int .i64 ((a1).Ns), Value.int .i64 ((a1).Nr), Value.bool ((a1).Poll)]) 23, api_Ctl.at nb1 (a0), R] w0 w := HS
          replace HS := api_Ctl.close (a1) trivial HS
          have HS : Sep.St [api_Ctl.at nb2 (a1), api_Ctl.at nb1 (a0), R] w0 w := HS
          replace HS := HS.sel [1, 0, 2] [] rfl
          exact At.meet (!(t36)) ⟨rfl, rfl, rfl, rfl, rfl, trivial⟩ ⟨HS, H⟩
        · replace H := ite_f c33 H
          refine W.pass 21 rfl (sb (n_f (b_f c33))) rfl rfl ?_
          refine W.pass 21 rfl (sb (n_f (b_f c33))) rfl rfl ?_
          refine W.pass 21 rfl (sb (n_f (b_f c33))) rfl rfl ?_
          refine W.pass 21 rfl (sb (n_f (b_f c33))) rfl rfl ?_
          refine W.rd (X.pickT (sb (n_f (b_f c33))) rfl) rfl rfl rfl ?_
          refine W.nil ?_
          replace HS := api_Ctl.close (a0) trivial HS
          have HS : Sep.St [api_Ctl.at nb1 (a0), api_Ctl.at nb2 (a1), R] w0 w := HS
          exact At.meet (true) ⟨rfl, rfl, rfl, rfl, rfl, trivial⟩ ⟨HS, H⟩
      · replace H := ite_f c28 H
        refine W.pass 15 rfl (sb (n_f (b_f c28))) rfl rfl ?_
        refine W.pass 15 rfl (sb (n_f (b_f c28))) rfl rfl ?_
        refine W.pass 15 rfl (sb (n_f (b_f c28))) rfl rfl ?_
        refine W.pass 15 rfl (sb (n_f (b_f c28))) rfl rfl ?_
        refine W.rd (X.pickT (sb (n_f (b_f c28))) rfl) rfl rfl rfl ?_
        refine W.rd (X.move rfl) rfl rfl rfl ?_
        refine W.pass 21 rfl rfl rfl rfl ?_
        refine W.pass 21 rfl rfl rfl rfl ?_
        refine W.pass 21 rfl rfl rfl rfl ?_
        refine W.pass 21 rfl rfl rfl rfl ?_
        refine W.rd (X.pickT rfl rfl) rfl rfl rfl ?_
        refine W.nil ?_
        exact At.meet (true) ⟨rfl, rfl, rfl, rfl, rfl, trivial⟩ ⟨HS, H⟩
    · rintro x8 w ⟨HS, H⟩
      unfold signalmanlaw12_ControlApart.j1 at H
      have HS : Sep.St [api_Ctl.at nb1 (a0), api_Ctl.at nb2 (a1), R] w0 w := HS
      by_cases c9 : x8 = true
      · replace H := ite_t c9 H
        refine V.condT (sb c9) ?_
        refine V.seq ?_
        refine V.region ?_
        refine W.rd (X.move rfl) rfl rfl rfl ?_
        refine W.rd (X.assign rfl) rfl rfl rfl ?_
        refine W.nil ?_
        refine At.next ?_
        refine V.keep [(6, Value.bool (t3))] ⟨rfl, trivial⟩ ?_
        refine V.ret ?_
        refine At.thenRet ?_
        replace HS := HS.sel [2] [0, 1] rfl
        cases H
        exact At.ret1 rfl rfl ⟨_, rfl, rfl, HS⟩
      · replace H := ite_f c9 H
        refine V.condF (sb (b_f c9)) ?_
        refine V.skip ?_
        refine At.next ?_
        refine V.keep [(3, Value.pointer (some ⟨nb1, 0, none⟩)), (4, Value.pointer (some ⟨nb2, 0, none⟩)), (8, Value.int .i64 (x7))] ⟨rfl, rfl, rfl, trivial⟩ ?_
        refine V.seq ?_
        refine V.region ?_
        obtain ⟨hi11, HS⟩ := api_Ctl.open HS
        have HS : Sep.St [blk nb1 (#[Value.int .i64 ((a0).Kind), Value.int .i64 ((a0).Ns), Value.int .i64 ((a0).Nr), Value.bool ((a0).Poll)]) 23, api_Ctl.at nb2 (a1), R] w0 w := HS
        refine W.rd (X.loadSt 0 [Value.int .i64 ((a0).Kind), Value.int .i64 ((a0).Ns), Value.int .i64 ((a0).Nr), Value.bool ((a0).Poll)] HS rfl Try.underlying23 rfl inf23 rfl rfl) rfl rfl rfl ?_
        refine W.rd (X.move rfl) rfl rfl rfl ?_
        obtain ⟨t12, A13, H⟩ := bind_s H
        refine W.ev (Y.call Try.func10 (by kernel_rfl) rfl (vs := [Value.agg #[Value.int .i64 ((a0).Kind), Value.int .i64 ((a0).Ns), Value.int .i64 ((a0).Nr), Value.bool ((a0).Poll)], Value.int .i64 (x7)]) rfl (control_Bytes.calls (a0) x7 _ w0 _  t12  A13 (Sep.St.tailJoin (m := []) (r := [blk nb1 (#[Value.int .i64 ((a0).Kind), Value.int .i64 ((a0).Ns), Value.int .i64 ((a0).Nr), Value.bool ((a0).Poll)]) 23, api_Ctl.at nb2 (a1), R]) HS))) rfl rfl rfl ?_
        rintro _ w ⟨at12_0, ct12_0, rfl, HS⟩
        replace HS := Sep.St.tailOpen (m := [row 5 1 (.slice at12_0 (t12).length ct12_0) (t12).length ((t12).map (Value.int .u8))]) (r := [blk nb1 (#[Value.int .i64 ((a0).Kind), Value.int .i64 ((a0).Ns), Value.int .i64 ((a0).Nr), Value.bool ((a0).Poll)]) 23, api_Ctl.at nb2 (a1), R]) HS
        have HS : Sep.St [row 5 1 (.slice at12_0 (t12).length ct12_0) (t12).length ((t12).map (Value.int .u8)), blk nb1 (#[Value.int .i64 ((a0).Kind), Value.int .i64 ((a0).Ns), Value.int .i64 ((a0).Nr), Value.bool ((a0).Poll)]) 23, api_Ctl.at nb2 (a1), R] w0 w := HS
        refine W.rd (X.bytesStr Try.underlying26 Try.underlying5 Try.underlying9 rfl (rdC.at 0 row_rd HS rfl)) rfl rfl rfl ?_
        refine W.rd (X.assign rfl) rfl rfl rfl ?_
        refine W.nil ?_
        refine At.next ?_
        refine V.keep [(3, Value.pointer (some ⟨nb1, 0, none⟩)), (4, Value.pointer (some ⟨nb2, 0, none⟩)), (8, Value.int .i64 (x7)), (9, Value.string (strOf (t12)))] ⟨rfl, rfl, rfl, rfl, trivial⟩ ?_
        refine V.seq ?_
        refine V.region ?_
        replace HS := HS.front 2 rfl
        have HS : Sep.St [api_Ctl.at nb2 (a1), row 5 1 (.slice at12_0 (t12).length ct12_0) (t12).length ((t12).map (Value.int .u8)), blk nb1 (#[Value.int .i64 ((a0).Kind), Value.int .i64 ((a0).Ns), Value.int .i64 ((a0).Nr), Value.bool ((a0).Poll)]) 23, R] w0 w := HS
        obtain ⟨hi15, HS⟩ := api_Ctl.open HS
        have HS : Sep.St [blk nb2 (#[Value.int .i64 ((a1).Kind), Value.int .i64 ((a1).Ns), Value.int .i64 ((a1).Nr), Value.bool ((a1).Poll)]) 23, row 5 1 (.slice at12_0 (t12).length ct12_0) (t12).length ((t12).map (Value.int .u8)), blk nb1 (#[Value.int .i64 ((a0).Kind), Value.int .i64 ((a0).Ns), Value.int .i64 ((a0).Nr), Value.bool ((a0).Poll)]) 23, R] w0 w := HS
        refine W.rd (X.loadSt 0 [Value.int .i64 ((a1).Kind), Value.int .i64 ((a1).Ns), Value.int .i64 ((a1).Nr), Value.bool ((a1).Poll)] HS rfl Try.underlying23 rfl inf23 rfl rfl) rfl rfl rfl ?_
        refine W.rd (X.move rfl) rfl rfl rfl ?_
        obtain ⟨t16, A17, H⟩ := bind_s H
        refine W.ev (Y.call Try.func10 (by kernel_rfl) rfl (vs := [Value.agg #[Value.int .i64 ((a1).Kind), Value.int .i64 ((a1).Ns), Value.int .i64 ((a1).Nr), Value.bool ((a1).Poll)], Value.int .i64 (x7)]) rfl (control_Bytes.calls (a1) x7 _ w0 _  t16  A17 (Sep.St.tailJoin (m := []) (r := [blk nb2 (#[Value.int .i64 ((a1).Kind), Value.int .i64 ((a1).Ns), Value.int .i64 ((a1).Nr), Value.bool ((a1).Poll)]) 23, row 5 1 (.slice at12_0 (t12).length ct12_0) (t12).length ((t12).map (Value.int .u8)), blk nb1 (#[Value.int .i64 ((a0).Kind), Value.int .i64 ((a0).Ns), Value.int .i64 ((a0).Nr), Value.bool ((a0).Poll)]) 23, R]) HS))) rfl rfl rfl ?_
        rintro _ w ⟨at16_0, ct16_0, rfl, HS⟩
        replace HS := Sep.St.tailOpen (m := [row 5 1 (.slice at16_0 (t16).length ct16_0) (t16).length ((t16).map (Value.int .u8))]) (r := [blk nb2 (#[Value.int .i64 ((a1).Kind), Value.int .i64 ((a1).Ns), Value.int .i64 ((a1).Nr), Value.bool ((a1).Poll)]) 23, row 5 1 (.slice at12_0 (t12).length ct12_0) (t12).length ((t12).map (Value.int .u8)), blk nb1 (#[Value.int .i64 ((a0).Kind), Value.int .i64 ((a0).Ns), Value.int .i64 ((a0).Nr), Value.bool ((a0).Poll)]) 23, R]) HS
        have HS : Sep.St [row 5 1 (.slice at16_0 (t16).length ct16_0) (t16).length ((t16).map (Value.int .u8)), blk nb2 (#[Value.int .i64 ((a1).Kind), Value.int .i64 ((a1).Ns), Value.int .i64 ((a1).Nr), Value.bool ((a1).Poll)]) 23, row 5 1 (.slice at12_0 (t12).length ct12_0) (t12).length ((t12).map (Value.int .u8)), blk nb1 (#[Value.int .i64 ((a0).Kind), Value.int .i64 ((a0).Ns), Value.int .i64 ((a0).Nr), Value.bool ((a0).Poll)]) 23, R] w0 w := HS
        refine W.rd (X.bytesStr Try.underlying26 Try.underlying5 Try.underlying9 rfl (rdC.at 0 row_rd HS rfl)) rfl rfl rfl ?_
        refine W.rd (X.assign rfl) rfl rfl rfl ?_
        refine W.nil ?_
        refine At.next ?_
        refine V.keep [(3, Value.pointer (some ⟨nb1, 0, none⟩)), (4, Value.pointer (some ⟨nb2, 0, none⟩)), (9, Value.string (strOf (t12))), (10, Value.string (strOf (t16)))] ⟨rfl, rfl, rfl, rfl, trivial⟩ ?_
        refine V.seq ?_
        refine V.seq ?_
        refine V.region ?_
        refine W.rd (X.loadSt 3 [Value.int .i64 ((a0).Kind), Value.int .i64 ((a0).Ns), Value.int .i64 ((a0).Nr), Value.bool ((a0).Poll)] HS rfl Try.underlying23 rfl inf23 rfl rfl) rfl rfl rfl ?_
        refine W.rd (X.loadSt 1 [Value.int .i64 ((a1).Kind), Value.int .i64 ((a1).Ns), Value.int .i64 ((a1).Nr), Value.bool ((a1).Poll)] HS rfl Try.underlying23 rfl inf23 rfl rfl) rfl rfl rfl ?_
        refine W.rd (X.eqSt (c := api_Ctl.beq (a0) (a1)) (by kernel_rfl) Try.stoodInHeld23 Try.eqGuardType23 rfl rfl (by first | rfl | kernel_rfl)) rfl rfl rfl ?_
        refine W.nil ?_
        refine At.next ?_
        refine V.keep [(9, Value.string (strOf (t12))), (10, Value.string (strOf (t16))), (38, Value.bool (api_Ctl.beq (a0) (a1)))] ⟨rfl, rfl, rfl, trivial⟩ ?_
        by_cases c18 : api_Ctl.beq (a0) (a1) = true
        · replace H := ite_t c18 H
          refine V.condT (sb c18) ?_
          refine V.seq ?_
          refine V.region ?_
          refine W.rd (X.move rfl) rfl rfl rfl ?_
          refine W.rd (X.move rfl) rfl rfl rfl ?_
          refine W.rd (X.eqStr rfl rfl) rfl rfl rfl ?_
          refine W.rd (X.assign rfl) rfl rfl rfl ?_
          refine W.nil ?_
          refine At.next ?_
          refine V.keep [(6, Value.bool (sEq (t12) (t16)))] ⟨rfl, trivial⟩ ?_
          refine V.ret ?_
          refine At.thenRet ?_
          replace HS := HS.sel [4] [0, 1, 2, 3] rfl
          cases H
          exact At.ret1 rfl rfl ⟨_, rfl, rfl, HS⟩
        · replace H := ite_f c18 H
          refine V.condF (sb (b_f c18)) ?_
          refine V.skip ?_
          refine At.next ?_
          refine V.keep [(9, Value.string (strOf (t12))), (10, Value.string (strOf (t16)))] ⟨rfl, rfl, trivial⟩ ?_
          refine V.seq ?_
          refine V.region ?_
          refine W.rd (X.move rfl) rfl rfl rfl ?_
          refine W.rd (X.lenStr Try.underlying9 rfl) rfl rfl rfl ?_
          refine W.rd (X.cmp (decide (((t12).length : Int) > 0)) rfl rfl rfl rfl) rfl rfl rfl ?_
          refine W.rd (X.move rfl) rfl rfl rfl ?_
          by_cases c19 : ((t12).length : Int) > 0
          · replace H := ite_t c19 H
            refine W.want 45 rfl (sb (decide_eq_true c19)) ?_
            refine W.rd (X.move rfl) rfl rfl rfl ?_
            refine W.want 45 rfl (sb (decide_eq_true c19)) ?_
            refine W.rd (X.lenStr Try.underlying9 rfl) rfl rfl rfl ?_
            refine W.want 45 rfl (sb (decide_eq_true c19)) ?_
            refine W.rd (X.cmp (decide (((t16).length : Int) > 0)) rfl rfl rfl rfl) rfl rfl rfl ?_
            refine W.rd (X.pickT (sb (decide_eq_true c19)) rfl) rfl rfl rfl ?_
            refine W.rd (X.move rfl) rfl rfl rfl ?_
            by_cases c20 : ((t16).length : Int) > 0
            · replace H := ite_t c20 H
              refine W.want 50 rfl (sb (decide_eq_true c20)) ?_
              refine W.rd (X.move rfl) rfl rfl rfl ?_
              refine W.want 50 rfl (sb (decide_eq_true c20)) ?_
              refine W.rd (X.lenStr Try.underlying9 rfl) rfl rfl rfl ?_
              refine W.want 50 rfl (sb (decide_eq_true c20)) ?_
              refine W.rd (X.move rfl) rfl rfl rfl ?_
              refine W.want 50 rfl (sb (decide_eq_true c20)) ?_
              refine W.rd (X.lenStr Try.underlying9 rfl) rfl rfl rfl ?_
              refine W.want 50 rfl (sb (decide_eq_true c20)) ?_
              refine W.rd (X.cmp (decide (((t12).length : Int) > ((t16).length : Int))) rfl rfl rfl rfl) rfl rfl rfl ?_
              refine W.want 50 rfl (sb (decide_eq_true c20)) ?_
              refine W.rd (X.move rfl) rfl rfl rfl ?_
              by_cases c21 : ((t12).length : Int) > ((t16).length : Int)
              · replace H := ite_t c21 H
                refine W.pass 56 rfl (sb (decide_eq_true c21)) rfl rfl ?_
                refine W.pass 56 rfl (sb (decide_eq_true c21)) rfl rfl ?_
                refine W.pass 56 rfl (sb (decide_eq_true c21)) rfl rfl ?_
                refine W.pass 56 rfl (sb (decide_eq_true c21)) rfl rfl ?_
                refine W.pass 56 rfl (sb (decide_eq_true c21)) rfl rfl ?_
                refine W.pass 56 rfl (sb (decide_eq_true c21)) rfl rfl ?_
                refine W.want 50 rfl (sb (decide_eq_true c20)) ?_
                refine W.rd (X.pickT (sb (decide_eq_true c21)) rfl) rfl rfl rfl ?_
                refine W.rd (X.pickT (sb (decide_eq_true c20)) rfl) rfl rfl rfl ?_
                refine W.rd (X.move rfl) rfl rfl rfl ?_
                refine W.want 65 rfl rfl ?_
                refine W.rd (X.move rfl) rfl rfl rfl ?_
                refine W.want 65 rfl rfl ?_
                refine W.rd (X.lenStr Try.underlying9 rfl) rfl rfl rfl ?_
                refine W.want 65 rfl rfl ?_
                refine W.rd (X.move rfl) rfl rfl rfl ?_
                refine W.want 65 rfl rfl ?_
                refine W.rd (X.lenStr Try.underlying9 rfl) rfl rfl rfl ?_
                refine W.want 65 rfl rfl ?_
                refine W.rd (X.cmp (decide (((t16).length : Int) > ((t12).length : Int))) rfl rfl rfl rfl) rfl rfl rfl ?_
                refine W.want 65 rfl rfl ?_
                refine W.rd (X.move rfl) rfl rfl rfl ?_
                by_cases c22 : ((t16).length : Int) > ((t12).length : Int)
                · replace H := ite_t c22 H
                  refine W.pass 71 rfl (sb (decide_eq_true c22)) rfl rfl ?_
                  refine W.pass 71 rfl (sb (decide_eq_true c22)) rfl rfl ?_
                  refine W.pass 71 rfl (sb (decide_eq_true c22)) rfl rfl ?_
                  refine W.pass 71 rfl (sb (decide_eq_true c22)) rfl rfl ?_
                  refine W.pass 71 rfl (sb (decide_eq_true c22)) rfl rfl ?_
                  refine W.pass 71 rfl (sb (decide_eq_true c22)) rfl rfl ?_
                  refine W.want 65 rfl rfl ?_
                  refine W.rd (X.pickT (sb (decide_eq_true c22)) rfl) rfl rfl rfl ?_
                  refine W.rd (X.pickT rfl rfl) rfl rfl rfl ?_
                  refine W.rd (X.assign rfl) rfl rfl rfl ?_
                  refine W.nil ?_
                  refine At.next ?_
                  refine V.keep [(6, Value.bool (true))] ⟨rfl, trivial⟩ ?_
                  refine V.ret ?_
                  replace HS := HS.sel [4] [0, 1, 2, 3] rfl
                  cases H
                  exact At.ret1 rfl rfl ⟨_, rfl, rfl, HS⟩
                · replace H := ite_f c22 H
                  refine W.want 71 rfl (sb (decide_eq_false c22)) ?_
                  refine W.rd (X.move rfl) rfl rfl rfl ?_
                  refine W.want 71 rfl (sb (decide_eq_false c22)) ?_
                  refine W.rd (X.move rfl) rfl rfl rfl ?_
                  refine W.want 71 rfl (sb (decide_eq_false c22)) ?_
                  refine W.rd (X.lenStr Try.underlying9 rfl) rfl rfl rfl ?_
                  refine W.want 71 rfl (sb (decide_eq_false c22)) ?_
                  obtain ⟨c23, H⟩ := ite_n H
                  refine W.rd (X.slSH Try.underlying9 rfl rfl c23) rfl rfl rfl ?_
                  refine W.want 71 rfl (sb (decide_eq_false c22)) ?_
                  refine W.rd (X.move rfl) rfl rfl rfl ?_
                  refine W.want 71 rfl (sb (decide_eq_false c22)) ?_
                  refine W.rd (X.neStr rfl rfl) rfl rfl rfl ?_
                  refine W.want 65 rfl rfl ?_
                  refine W.rd (X.pickF (sb (decide_eq_false c22)) rfl) rfl rfl rfl ?_
                  refine W.rd (X.pickT rfl rfl) rfl rfl rfl ?_
                  refine W.rd (X.assign rfl) rfl rfl rfl ?_
                  refine W.nil ?_
                  refine At.next ?_
                  refine V.keep [(6, Value.bool (!(sEq (cut t12 (0 : Int) ((t16).length : Int)) (t16))))] ⟨rfl, trivial⟩ ?_
                  refine V.ret ?_
                  replace HS := HS.sel [4] [0, 1, 2, 3] rfl
                  cases H
                  exact At.ret1 rfl rfl ⟨_, rfl, rfl, HS⟩
              · replace H := ite_f c21 H
                refine W.want 56 rfl (sb (decide_eq_false c21)) ?_
                refine W.rd (X.move rfl) rfl rfl rfl ?_
                refine W.want 56 rfl (sb (decide_eq_false c21)) ?_
                refine W.rd (X.move rfl) rfl rfl rfl ?_
                refine W.want 56 rfl (sb (decide_eq_false c21)) ?_
                refine W.rd (X.lenStr Try.underlying9 rfl) rfl rfl rfl ?_
                refine W.want 56 rfl (sb (decide_eq_false c21)) ?_
                obtain ⟨c24, H⟩ := ite_n H
                refine W.rd (X.slSH Try.underlying9 rfl rfl c24) rfl rfl rfl ?_
                refine W.want 56 rfl (sb (decide_eq_false c21)) ?_
                refine W.rd (X.move rfl) rfl rfl rfl ?_
                refine W.want 56 rfl (sb (decide_eq_false c21)) ?_
                refine W.rd (X.neStr rfl rfl) rfl rfl rfl ?_
                refine W.want 50 rfl (sb (decide_eq_true c20)) ?_
                refine W.rd (X.pickF (sb (decide_eq_false c21)) rfl) rfl rfl rfl ?_
                refine W.rd (X.pickT (sb (decide_eq_true c20)) rfl) rfl rfl rfl ?_
                refine W.rd (X.move rfl) rfl rfl rfl ?_
                by_cases c25 : sEq (cut t16 (0 : Int) ((t12).length : Int)) (t12) = true
                · replace H := ite_t c25 H
                  refine W.pass 65 rfl (sb (n_t c25)) rfl rfl ?_
                  refine W.pass 65 rfl (sb (n_t c25)) rfl rfl ?_
                  refine W.pass 65 rfl (sb (n_t c25)) rfl rfl ?_
                  refine W.pass 65 rfl (sb (n_t c25)) rfl rfl ?_
                  refine W.pass 65 rfl (sb (n_t c25)) rfl rfl ?_
                  refine W.pass 65 rfl (sb (n_t c25)) rfl rfl ?_
                  refine W.passU 71 rfl rfl rfl ?_
                  refine W.passU 71 rfl rfl rfl ?_
                  refine W.passU 71 rfl rfl rfl ?_
                  refine W.passU 71 rfl rfl rfl ?_
                  refine W.passU 71 rfl rfl rfl ?_
                  refine W.passU 71 rfl rfl rfl ?_
                  refine W.pass 65 rfl (sb (n_t c25)) rfl rfl ?_
                  refine W.rd (X.pickF (sb (n_t c25)) rfl) rfl rfl rfl ?_
                  refine W.rd (X.assign rfl) rfl rfl rfl ?_
                  refine W.nil ?_
                  refine At.next ?_
                  refine V.keep [(6, Value.bool (false))] ⟨rfl, trivial⟩ ?_
                  refine V.ret ?_
                  replace HS := HS.sel [4] [0, 1, 2, 3] rfl
                  cases H
                  exact At.ret1 rfl rfl ⟨_, rfl, rfl, HS⟩
                · replace H := ite_f c25 H
                  refine W.want 65 rfl (sb (n_f (b_f c25))) ?_
                  refine W.rd (X.move rfl) rfl rfl rfl ?_
                  refine W.want 65 rfl (sb (n_f (b_f c25))) ?_
                  refine W.rd (X.lenStr Try.underlying9 rfl) rfl rfl rfl ?_
                  refine W.want 65 rfl (sb (n_f (b_f c25))) ?_
                  refine W.rd (X.move rfl) rfl rfl rfl ?_
                  refine W.want 65 rfl (sb (n_f (b_f c25))) ?_
                  refine W.rd (X.lenStr Try.underlying9 rfl) rfl rfl rfl ?_
                  refine W.want 65 rfl (sb (n_f (b_f c25))) ?_
                  refine W.rd (X.cmp (decide (((t16).length : Int) > ((t12).length : Int))) rfl rfl rfl rfl) rfl rfl rfl ?_
                  refine W.want 65 rfl (sb (n_f (b_f c25))) ?_
                  refine W.rd (X.move rfl) rfl rfl rfl ?_
                  by_cases c26 : ((t16).length : Int) > ((t12).length : Int)
                  · replace H := ite_t c26 H
                    refine W.pass 71 rfl (sb (decide_eq_true c26)) rfl rfl ?_
                    refine W.pass 71 rfl (sb (decide_eq_true c26)) rfl rfl ?_
                    refine W.pass 71 rfl (sb (decide_eq_true c26)) rfl rfl ?_
                    refine W.pass 71 rfl (sb (decide_eq_true c26)) rfl rfl ?_
                    refine W.pass 71 rfl (sb (decide_eq_true c26)) rfl rfl ?_
                    refine W.pass 71 rfl (sb (decide_eq_true c26)) rfl rfl ?_
                    refine W.want 65 rfl (sb (n_f (b_f c25))) ?_
                    refine W.rd (X.pickT (sb (decide_eq_true c26)) rfl) rfl rfl rfl ?_
                    refine W.rd (X.pickT (sb (n_f (b_f c25))) rfl) rfl rfl rfl ?_
                    refine W.rd (X.assign rfl) rfl rfl rfl ?_
                    refine W.nil ?_
                    refine At.next ?_
                    refine V.keep [(6, Value.bool (true))] ⟨rfl, trivial⟩ ?_
                    refine V.ret ?_
                    replace HS := HS.sel [4] [0, 1, 2, 3] rfl
                    cases H
                    exact At.ret1 rfl rfl ⟨_, rfl, rfl, HS⟩
                  · replace H := ite_f c26 H
                    refine W.want 71 rfl (sb (decide_eq_false c26)) ?_
                    refine W.rd (X.move rfl) rfl rfl rfl ?_
                    refine W.want 71 rfl (sb (decide_eq_false c26)) ?_
                    refine W.rd (X.move rfl) rfl rfl rfl ?_
                    refine W.want 71 rfl (sb (decide_eq_false c26)) ?_
                    refine W.rd (X.lenStr Try.underlying9 rfl) rfl rfl rfl ?_
                    refine W.want 71 rfl (sb (decide_eq_false c26)) ?_
                    obtain ⟨c27, H⟩ := ite_n H
                    refine W.rd (X.slSH Try.underlying9 rfl rfl c27) rfl rfl rfl ?_
                    refine W.want 71 rfl (sb (decide_eq_false c26)) ?_
                    refine W.rd (X.move rfl) rfl rfl rfl ?_
                    refine W.want 71 rfl (sb (decide_eq_false c26)) ?_
                    refine W.rd (X.neStr rfl rfl) rfl rfl rfl ?_
                    refine W.want 65 rfl (sb (n_f (b_f c25))) ?_
                    refine W.rd (X.pickF (sb (decide_eq_false c26)) rfl) rfl rfl rfl ?_
                    refine W.rd (X.pickT (sb (n_f (b_f c25))) rfl) rfl rfl rfl ?_
                    refine W.rd (X.assign rfl) rfl rfl rfl ?_
                    refine W.nil ?_
                    refine At.next ?_
                    refine V.keep [(6, Value.bool (!(sEq (cut t12 (0 : Int) ((t16).length : Int)) (t16))))] ⟨rfl, trivial⟩ ?_
                    refine V.ret ?_
                    replace HS := HS.sel [4] [0, 1, 2, 3] rfl
                    cases H
                    exact At.ret1 rfl rfl ⟨_, rfl, rfl, HS⟩
            · replace H := ite_f c20 H
              refine W.pass 50 rfl (sb (decide_eq_false c20)) rfl rfl ?_
              refine W.pass 50 rfl (sb (decide_eq_false c20)) rfl rfl ?_
              refine W.pass 50 rfl (sb (decide_eq_false c20)) rfl rfl ?_
              refine W.pass 50 rfl (sb (decide_eq_false c20)) rfl rfl ?_
              refine W.pass 50 rfl (sb (decide_eq_false c20)) rfl rfl ?_
              refine W.pass 50 rfl (sb (decide_eq_false c20)) rfl rfl ?_
              refine W.passU 56 rfl rfl rfl ?_
              refine W.passU 56 rfl rfl rfl ?_
              refine W.passU 56 rfl rfl rfl ?_
              refine W.passU 56 rfl rfl rfl ?_
              refine W.passU 56 rfl rfl rfl ?_
              refine W.passU 56 rfl rfl rfl ?_
              refine W.pass 50 rfl (sb (decide_eq_false c20)) rfl rfl ?_
              refine W.rd (X.pickF (sb (decide_eq_false c20)) rfl) rfl rfl rfl ?_
              refine W.rd (X.move rfl) rfl rfl rfl ?_
              refine W.pass 65 rfl rfl rfl rfl ?_
              refine W.pass 65 rfl rfl rfl rfl ?_
              refine W.pass 65 rfl rfl rfl rfl ?_
              refine W.pass 65 rfl rfl rfl rfl ?_
              refine W.pass 65 rfl rfl rfl rfl ?_
              refine W.pass 65 rfl rfl rfl rfl ?_
              refine W.passU 71 rfl rfl rfl ?_
              refine W.passU 71 rfl rfl rfl ?_
              refine W.passU 71 rfl rfl rfl ?_
              refine W.passU 71 rfl rfl rfl ?_
              refine W.passU 71 rfl rfl rfl ?_
              refine W.passU 71 rfl rfl rfl ?_
              refine W.pass 65 rfl rfl rfl rfl ?_
              refine W.rd (X.pickF rfl rfl) rfl rfl rfl ?_
              refine W.rd (X.assign rfl) rfl rfl rfl ?_
              refine W.nil ?_
              refine At.next ?_
              refine V.keep [(6, Value.bool (false))] ⟨rfl, trivial⟩ ?_
              refine V.ret ?_
              replace HS := HS.sel [4] [0, 1, 2, 3] rfl
              cases H
              exact At.ret1 rfl rfl ⟨_, rfl, rfl, HS⟩
          · replace H := ite_f c19 H
            refine W.pass 45 rfl (sb (decide_eq_false c19)) rfl rfl ?_
            refine W.pass 45 rfl (sb (decide_eq_false c19)) rfl rfl ?_
            refine W.pass 45 rfl (sb (decide_eq_false c19)) rfl rfl ?_
            refine W.rd (X.pickF (sb (decide_eq_false c19)) rfl) rfl rfl rfl ?_
            refine W.rd (X.move rfl) rfl rfl rfl ?_
            refine W.pass 50 rfl rfl rfl rfl ?_
            refine W.pass 50 rfl rfl rfl rfl ?_
            refine W.pass 50 rfl rfl rfl rfl ?_
            refine W.pass 50 rfl rfl rfl rfl ?_
            refine W.pass 50 rfl rfl rfl rfl ?_
            refine W.pass 50 rfl rfl rfl rfl ?_
            refine W.passU 56 rfl rfl rfl ?_
            refine W.passU 56 rfl rfl rfl ?_
            refine W.passU 56 rfl rfl rfl ?_
            refine W.passU 56 rfl rfl rfl ?_
            refine W.passU 56 rfl rfl rfl ?_
            refine W.passU 56 rfl rfl rfl ?_
            refine W.pass 50 rfl rfl rfl rfl ?_
            refine W.rd (X.pickF rfl rfl) rfl rfl rfl ?_
            refine W.rd (X.move rfl) rfl rfl rfl ?_
            refine W.pass 65 rfl rfl rfl rfl ?_
            refine W.pass 65 rfl rfl rfl rfl ?_
            refine W.pass 65 rfl rfl rfl rfl ?_
            refine W.pass 65 rfl rfl rfl rfl ?_
            refine W.pass 65 rfl rfl rfl rfl ?_
            refine W.pass 65 rfl rfl rfl rfl ?_
            refine W.passU 71 rfl rfl rfl ?_
            refine W.passU 71 rfl rfl rfl ?_
            refine W.passU 71 rfl rfl rfl ?_
            refine W.passU 71 rfl rfl rfl ?_
            refine W.passU 71 rfl rfl rfl ?_
            refine W.passU 71 rfl rfl rfl ?_
            refine W.pass 65 rfl rfl rfl rfl ?_
            refine W.rd (X.pickF rfl rfl) rfl rfl rfl ?_
            refine W.rd (X.assign rfl) rfl rfl rfl ?_
            refine W.nil ?_
            refine At.next ?_
            refine V.keep [(6, Value.bool (false))] ⟨rfl, trivial⟩ ?_
            refine V.ret ?_
            replace HS := HS.sel [4] [0, 1, 2, 3] rfl
            cases H
            exact At.ret1 rfl rfl ⟨_, rfl, rfl, HS⟩

def api_Ctl.El : El api_Ctl := El.iso (El.prod (El.int .i64) (El.prod (El.int .i64) (El.prod (El.int .i64) (El.prod El.bool (El.unit))))) (fun x => (x.Kind, (x.Ns, (x.Nr, (x.Poll, ())))))
theorem api_Ctl.unpack {c : List Value} {x : api_Ctl} {L : List As} {w0 w : World} (hs : Sep.St (api_Ctl.El.p c x :: L) w0 w) : c = [Value.int .i64 (x.Kind), Value.int .i64 (x.Ns), Value.int .i64 (x.Nr), Value.bool (x.Poll)] ∧ Sep.St (L) w0 w := by
  have hs : Sep.St ((El.prod (El.int .i64) (El.prod (El.int .i64) (El.prod (El.int .i64) (El.prod El.bool (El.unit))))).p c (x.Kind, (x.Ns, (x.Nr, (x.Poll, ())))) :: L) w0 w := hs
  obtain ⟨c0, r0, e0, hs⟩ := St.prod_open hs
  have hs : Sep.St ((El.int .i64).p c0 x.Kind :: (El.prod (El.int .i64) (El.prod (El.int .i64) (El.prod El.bool (El.unit)))).p r0 (x.Ns, (x.Nr, (x.Poll, ()))) :: L) w0 w := hs
  obtain ⟨q0, hs⟩ := St.int_open hs
  have hs : Sep.St ((El.prod (El.int .i64) (El.prod (El.int .i64) (El.prod El.bool (El.unit)))).p r0 (x.Ns, (x.Nr, (x.Poll, ()))) :: L) w0 w := hs
  obtain ⟨c1, r1, e1, hs⟩ := St.prod_open hs
  have hs : Sep.St ((El.int .i64).p c1 x.Ns :: (El.prod (El.int .i64) (El.prod El.bool (El.unit))).p r1 (x.Nr, (x.Poll, ())) :: L) w0 w := hs
  obtain ⟨q1, hs⟩ := St.int_open hs
  have hs : Sep.St ((El.prod (El.int .i64) (El.prod El.bool (El.unit))).p r1 (x.Nr, (x.Poll, ())) :: L) w0 w := hs
  obtain ⟨c2, r2, e2, hs⟩ := St.prod_open hs
  have hs : Sep.St ((El.int .i64).p c2 x.Nr :: (El.prod El.bool (El.unit)).p r2 (x.Poll, ()) :: L) w0 w := hs
  obtain ⟨q2, hs⟩ := St.int_open hs
  have hs : Sep.St ((El.prod El.bool (El.unit)).p r2 (x.Poll, ()) :: L) w0 w := hs
  obtain ⟨c3, r3, e3, hs⟩ := St.prod_open hs
  have hs : Sep.St (El.bool.p c3 x.Poll :: (El.unit).p r3 () :: L) w0 w := hs
  obtain ⟨q3, hs⟩ := St.bool_open hs
  have hs : Sep.St ((El.unit).p r3 () :: L) w0 w := hs
  obtain ⟨qu, hs⟩ := St.unit_open hs
  exact ⟨by rw [e0, q0, e1, q1, e2, q2, e3, q3, qu]; rfl, hs⟩
theorem api_Ctl.pack  {x : api_Ctl} {L : List As} {w0 w : World} (hs : Sep.St (L) w0 w) : Sep.St (api_Ctl.El.p [Value.int .i64 (x.Kind), Value.int .i64 (x.Ns), Value.int .i64 (x.Nr), Value.bool (x.Poll)] x :: L) w0 w := by
  have h1 := St.join (m := []) hs
  exact h1.mono fun h hh => ⟨[Value.int .i64 (x.Kind)], [Value.int .i64 (x.Ns), Value.int .i64 (x.Nr), Value.bool (x.Poll)], rfl, rfl, ⟨[Value.int .i64 (x.Ns)], [Value.int .i64 (x.Nr), Value.bool (x.Poll)], rfl, rfl, ⟨[Value.int .i64 (x.Nr)], [Value.bool (x.Poll)], rfl, rfl, ⟨[Value.bool (x.Poll)], [], rfl, rfl, rfl⟩⟩⟩⟩

def signalmanlaw12_ControlApart.Pure : Prop := ∀ (a0 : api_Ctl) (a1 : api_Ctl) (a2 : Bool), ((Lit.int .i64 a0.Kind).wf = true ∧ ((Lit.int .i64 a0.Ns).wf = true ∧ ((Lit.int .i64 a0.Nr).wf = true ∧ (True ∧ True)))) → ((Lit.int .i64 a1.Kind).wf = true ∧ ((Lit.int .i64 a1.Ns).wf = true ∧ ((Lit.int .i64 a1.Nr).wf = true ∧ (True ∧ True)))) → signalmanlaw12_ControlApart.f a0 a1 a2 = some true
end Go.Proofs.Ytmodmkbjbndfpaa

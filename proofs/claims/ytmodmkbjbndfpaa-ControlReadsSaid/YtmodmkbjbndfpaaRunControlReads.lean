/- ControlReads: the functions that its law reaches, as plain functions, and that the machine's calls come to what these say. Conditions: those that stand at each. -/
import Derived.Test.YtmodmkbjbndfpaaRunControlReadsP1
set_option linter.all false
namespace Go.Proofs.Ytmodmkbjbndfpaa
open Go.RowKit Go.Proofs.Ytmodmkbjbndfpaa.Sep Go.Proofs.Ytmodmkbjbndfpaa.Walk
/-! ### signalman/signalmanref6.ReadCtl: function 15 -/
mutual
def signalmanref6_ReadCtl.l1 : Nat → (List Int) → Int → Int → Option (api_Ctl × Int × Int)
  | 0, _, _, _ => none
  | k + 1, a0, a1, x18 => (if x18 ≤ 7 then (signalmanref6_ReadCtl.l2 k a0 a1 x18 0) else (if 0 ≤ (0 : Int) ∧ (0 : Int) < ((a0).length : Int) then (if ((a0).getD ((0 : Int)).toNat 0) = 1 then (if a1 = 128 then (signalmanref6_ReadCtl.j3 a0 1) else (signalmanref6_ReadCtl.j3 a0 2)) else (if ((a0).getD ((0 : Int)).toNat 0) = 9 then (if a1 = 128 then (signalmanref6_ReadCtl.j6 a0 1) else (signalmanref6_ReadCtl.j6 a0 2)) else (if (((a0).getD ((0 : Int)).toNat 0).tmod (2)) = 1 then some ((({ Kind := 0, Ns := 0, Nr := 0, Poll := false } : api_Ctl)), 0, 2) else (if a1 = 128 then (signalmanref6_ReadCtl.j9 a0 1) else (signalmanref6_ReadCtl.j9 a0 2))))) else none))
def signalmanref6_ReadCtl.l2 : Nat → (List Int) → Int → Int → Int → Option (api_Ctl × Int × Int)
  | 0, _, _, _, _ => none
  | k + 1, a0, a1, x18, x22 => (if x22 < 2 then (if 0 ≤ (0 : Int) ∧ (0 : Int) < ((a0).length : Int) then ((signalmanref6_bare.f x18).bind fun t29 => (if (w64 ((a0).getD ((0 : Int)).toNat 0)) = (w64 (t29 + (w64 (16 * x22)))) then some (({ Kind := x18, Ns := 0, Nr := 0, Poll := decide (x22 = 1) } : api_Ctl), 1, 0) else (signalmanref6_ReadCtl.l2 k a0 a1 x18 (w64 (x22 + 1))))) else none) else (signalmanref6_ReadCtl.l1 k a0 a1 (w64 (x18 + 1))))
def signalmanref6_ReadCtl.j5 (x39 : Int) (x48 : Int) (x51 : Bool) : Option (api_Ctl × Int × Int) := (if x51 = true then some ((({ Kind := 0, Ns := 0, Nr := 0, Poll := false } : api_Ctl)), 0, 2) else some ((({ Kind := 1, Ns := 0, Nr := w64 ((x48).tdiv (2)), Poll := decide (((x48).tmod (2)) = 1) } : api_Ctl)), w64 (2 * x39), 0))
def signalmanref6_ReadCtl.j4 (a0 : List Int) (x39 : Int) (x47 : Int) (x48 : Int) : Option (api_Ctl × Int × Int) := (if x39 = 2 then (if 0 ≤ (1 : Int) ∧ (1 : Int) < ((a0).length : Int) then (signalmanref6_ReadCtl.j5 x39 x48 (!(decide (((a0).getD ((1 : Int)).toNat 0) = 0)))) else none) else (signalmanref6_ReadCtl.j5 x39 x48 false))
def signalmanref6_ReadCtl.j3 (a0 : List Int) (x39 : Int) : Option (api_Ctl × Int × Int) := (if ((a0).length : Int) < (w64 (2 * x39)) then some ((({ Kind := 0, Ns := 0, Nr := 0, Poll := false } : api_Ctl)), 0, 3) else (if 0 ≤ x39 ∧ x39 < ((a0).length : Int) then (if x39 = 2 then (if 0 ≤ (1 : Int) ∧ (1 : Int) < ((a0).length : Int) then (if 0 ≤ (3 : Int) ∧ (3 : Int) < ((a0).length : Int) then (signalmanref6_ReadCtl.j4 a0 x39 (w64 ((w64 ((a0).getD ((0 : Int)).toNat 0)) + (w64 (256 * (w64 ((a0).getD ((1 : Int)).toNat 0)))))) (w64 ((w64 ((a0).getD (x39).toNat 0)) + (w64 (256 * (w64 ((a0).getD ((3 : Int)).toNat 0))))))) else none) else none) else (signalmanref6_ReadCtl.j4 a0 x39 (w64 ((a0).getD ((0 : Int)).toNat 0)) (w64 ((a0).getD (x39).toNat 0)))) else none))
def signalmanref6_ReadCtl.j8 (x70 : Int) (x79 : Int) (x82 : Bool) : Option (api_Ctl × Int × Int) := (if x82 = true then some ((({ Kind := 0, Ns := 0, Nr := 0, Poll := false } : api_Ctl)), 0, 2) else some ((({ Kind := 2, Ns := 0, Nr := w64 ((x79).tdiv (2)), Poll := decide (((x79).tmod (2)) = 1) } : api_Ctl)), w64 (2 * x70), 0))
def signalmanref6_ReadCtl.j7 (a0 : List Int) (x70 : Int) (x78 : Int) (x79 : Int) : Option (api_Ctl × Int × Int) := (if x70 = 2 then (if 0 ≤ (1 : Int) ∧ (1 : Int) < ((a0).length : Int) then (signalmanref6_ReadCtl.j8 x70 x79 (!(decide (((a0).getD ((1 : Int)).toNat 0) = 0)))) else none) else (signalmanref6_ReadCtl.j8 x70 x79 false))
def signalmanref6_ReadCtl.j6 (a0 : List Int) (x70 : Int) : Option (api_Ctl × Int × Int) := (if ((a0).length : Int) < (w64 (2 * x70)) then some ((({ Kind := 0, Ns := 0, Nr := 0, Poll := false } : api_Ctl)), 0, 3) else (if 0 ≤ x70 ∧ x70 < ((a0).length : Int) then (if x70 = 2 then (if 0 ≤ (1 : Int) ∧ (1 : Int) < ((a0).length : Int) then (if 0 ≤ (3 : Int) ∧ (3 : Int) < ((a0).length : Int) then (signalmanref6_ReadCtl.j7 a0 x70 (w64 ((w64 ((a0).getD ((0 : Int)).toNat 0)) + (w64 (256 * (w64 ((a0).getD ((1 : Int)).toNat 0)))))) (w64 ((w64 ((a0).getD (x70).toNat 0)) + (w64 (256 * (w64 ((a0).getD ((3 : Int)).toNat 0))))))) else none) else none) else (signalmanref6_ReadCtl.j7 a0 x70 (w64 ((a0).getD ((0 : Int)).toNat 0)) (w64 ((a0).getD (x70).toNat 0)))) else none))
def signalmanref6_ReadCtl.j10 (x106 : Int) (x114 : Int) (x115 : Int) : Option (api_Ctl × Int × Int) := some (({ Kind := 0, Ns := w64 ((x114).tdiv (2)), Nr := w64 ((x115).tdiv (2)), Poll := decide (((x115).tmod (2)) = 1) } : api_Ctl), w64 (2 * x106), 0)
def signalmanref6_ReadCtl.j9 (a0 : List Int) (x106 : Int) : Option (api_Ctl × Int × Int) := (if ((a0).length : Int) < (w64 (2 * x106)) then some ((({ Kind := 0, Ns := 0, Nr := 0, Poll := false } : api_Ctl)), 0, 3) else (if 0 ≤ x106 ∧ x106 < ((a0).length : Int) then (if x106 = 2 then (if 0 ≤ (1 : Int) ∧ (1 : Int) < ((a0).length : Int) then (if 0 ≤ (3 : Int) ∧ (3 : Int) < ((a0).length : Int) then (signalmanref6_ReadCtl.j10 x106 (w64 ((w64 ((a0).getD ((0 : Int)).toNat 0)) + (w64 (256 * (w64 ((a0).getD ((1 : Int)).toNat 0)))))) (w64 ((w64 ((a0).getD (x106).toNat 0)) + (w64 (256 * (w64 ((a0).getD ((3 : Int)).toNat 0))))))) else none) else none) else (signalmanref6_ReadCtl.j10 x106 (w64 ((a0).getD ((0 : Int)).toNat 0)) (w64 ((a0).getD (x106).toNat 0)))) else none))
def signalmanref6_ReadCtl.j0 (k : Nat) (a0 : List Int) (a1 : Int) (x5 : Bool) : Option (api_Ctl × Int × Int) := (if x5 = true then some ((({ Kind := 0, Ns := 0, Nr := 0, Poll := false } : api_Ctl)), 0, 1) else (if ((a0).length : Int) = 0 then some ((({ Kind := 0, Ns := 0, Nr := 0, Poll := false } : api_Ctl)), 0, 3) else (signalmanref6_ReadCtl.l1 k a0 a1 3)))
end
def signalmanref6_ReadCtl.f (k : Nat) (a0 : List Int) (a1 : Int) : Option (api_Ctl × Int × Int) := (if a1 = 128 then (signalmanref6_ReadCtl.j0 k a0 a1 false) else (signalmanref6_ReadCtl.j0 k a0 a1 (!(decide (a1 = 32768)))))
set_option maxRecDepth 100000 in
set_option maxHeartbeats 4000000 in
theorem signalmanref6_ReadCtl.calls (k : Nat) (a0 : List Int) (a1 : Int) (R : As) (w0 w : World) (sa0 : Option Addr) (sc0 : Nat) (r : api_Ctl × Int × Int) (hr0 : rdC R 1 (.slice sa0 (a0).length sc0) (a0).length ((a0).map (Value.int .u8))) (H : signalmanref6_ReadCtl.f k a0 a1 = some r) (HS : Sep.St [R] w0 w) : Calls Try.prog 15 #[Value.slice sa0 (a0).length sc0, Value.int .i64 (a1)] w (Ret fun u w => u = Value.tuple #[Value.agg #[Value.int .i64 ((r.1).Kind), Value.int .i64 ((r.1).Ns), Value.int .i64 ((r.1).Nr), Value.bool ((r.1).Poll)], Value.int .i64 (r.2.1), Value.int .i64 (r.2.2)] ∧ Sep.St [R] w0 w) := by
  unfold signalmanref6_ReadCtl.f at H
  refine calls_enter Try.func15 rfl rfl ?_
  have H : _ = some r := H
  refine V.seq ?_
  refine V.region ?_
  refine W.ev (Y.alloc (z := Value.agg (#[Value.int .i64 (0), Value.int .i64 (0), Value.int .i64 (0), Value.bool (false)])) HS ze23) rfl rfl rfl ?_
  rintro _ w ⟨nb1, rfl, HS⟩
  have HS : Sep.St [blk nb1 (#[Value.int .i64 (0), Value.int .i64 (0), Value.int .i64 (0), Value.bool (false)]) 23, R] w0 w := HS
  refine W.rd (X.assign rfl) rfl rfl rfl ?_
  refine W.rd (X.assign rfl) rfl rfl rfl ?_
  refine W.nil ?_
  refine At.next ?_
  refine V.keep [(0, Value.slice sa0 (a0).length sc0), (1, Value.int .i64 (a1)), (4, Value.pointer (some ⟨nb1, 0, none⟩))] ⟨rfl, rfl, rfl, trivial⟩ ?_
  refine V.seq ?_
  refine V.region ?_
  refine W.ev (Y.alloc (z := Value.agg (#[Value.int .i64 (0), Value.int .i64 (0), Value.int .i64 (0), Value.bool (false)])) HS ze23) rfl rfl rfl ?_
  rintro _ w ⟨nb2, rfl, HS⟩
  have HS : Sep.St [blk nb2 (#[Value.int .i64 (0), Value.int .i64 (0), Value.int .i64 (0), Value.bool (false)]) 23, blk nb1 (#[Value.int .i64 (0), Value.int .i64 (0), Value.int .i64 (0), Value.bool (false)]) 23, R] w0 w := HS
  refine W.nil ?_
  refine At.next ?_
  refine V.keep [(0, Value.slice sa0 (a0).length sc0), (1, Value.int .i64 (a1)), (4, Value.pointer (some ⟨nb1, 0, none⟩)), (7, Value.pointer (some ⟨nb2, 0, none⟩))] ⟨rfl, rfl, rfl, rfl, trivial⟩ ?_
  refine V.seq ?_
  refine V.meet (σ := Bool) (fun st w => match st with | x5 => Sep.St [api_Ctl.at nb1 (({ Kind := 0, Ns := 0, Nr := 0, Poll := false } : api_Ctl)), api_Ctl.at nb2 (({ Kind := 0, Ns := 0, Nr := 0, Poll := false } : api_Ctl)), R] w0 w ∧ signalmanref6_ReadCtl.j0 k a0 a1 x5 = some r) (fun st => match st with | x5 => [(0, Value.slice sa0 (a0).length sc0), (1, Value.int .i64 (a1)), (4, Value.pointer (some ⟨nb1, 0, none⟩)), (7, Value.pointer (some ⟨nb2, 0, none⟩)), (20, Value.bool (x5))]) ?_ ?_
  · refine V.region ?_
    refine W.rd (X.move rfl) rfl rfl rfl ?_
    refine W.rd (X.cmp (!(decide (a1 = 128))) rfl rfl rfl rfl) rfl rfl rfl ?_
    refine W.rd (X.move rfl) rfl rfl rfl ?_
    by_cases c124 : a1 = 128
    · replace H := ite_t c124 H
      refine W.pass 17 rfl (sb (n_t (decide_eq_true c124))) rfl rfl ?_
      refine W.pass 17 rfl (sb (n_t (decide_eq_true c124))) rfl rfl ?_
      refine W.rd (X.pickF (sb (n_t (decide_eq_true c124))) rfl) rfl rfl rfl ?_
      refine W.nil ?_
      replace HS := HS.re [1, 0, 2] rfl
      have HS : Sep.St [blk nb1 (#[Value.int .i64 (0), Value.int .i64 (0), Value.int .i64 (0), Value.bool (false)]) 23, blk nb2 (#[Value.int .i64 (0), Value.int .i64 (0), Value.int .i64 (0), Value.bool (false)]) 23, R] w0 w := HS
      replace HS := api_Ctl.close (({ Kind := 0, Ns := 0, Nr := 0, Poll := false } : api_Ctl)) trivial HS
      have HS : Sep.St [api_Ctl.at nb1 (({ Kind := 0, Ns := 0, Nr := 0, Poll := false } : api_Ctl)), blk nb2 (#[Value.int .i64 (0), Value.int .i64 (0), Value.int .i64 (0), Value.bool (false)]) 23, R] w0 w := HS
      replace HS := HS.re [1, 0, 2] rfl
      have HS : Sep.St [blk nb2 (#[Value.int .i64 (0), Value.int .i64 (0), Value.int .i64 (0), Value.bool (false)]) 23, api_Ctl.at nb1 (({ Kind := 0, Ns := 0, Nr := 0, Poll := false } : api_Ctl)), R] w0 w := HS
      replace HS := api_Ctl.close (({ Kind := 0, Ns := 0, Nr := 0, Poll := false } : api_Ctl)) trivial HS
      have HS : Sep.St [api_Ctl.at nb2 (({ Kind := 0, Ns := 0, Nr := 0, Poll := false } : api_Ctl)), api_Ctl.at nb1 (({ Kind := 0, Ns := 0, Nr := 0, Poll := false } : api_Ctl)), R] w0 w := HS
      replace HS := HS.sel [1, 0, 2] [] rfl
      exact At.meet (false) ⟨rfl, rfl, rfl, rfl, rfl, trivial⟩ ⟨HS, H⟩
    · replace H := ite_f c124 H
      refine W.want 17 rfl (sb (n_f (decide_eq_false c124))) ?_
      refine W.rd (X.move rfl) rfl rfl rfl ?_
      refine W.want 17 rfl (sb (n_f (decide_eq_false c124))) ?_
      refine W.rd (X.cmp (!(decide (a1 = 32768))) rfl rfl rfl rfl) rfl rfl rfl ?_
      refine W.rd (X.pickT (sb (n_f (decide_eq_false c124))) rfl) rfl rfl rfl ?_
      refine W.nil ?_
      replace HS := HS.re [1, 0, 2] rfl
      have HS : Sep.St [blk nb1 (#[Value.int .i64 (0), Value.int .i64 (0), Value.int .i64 (0), Value.bool (false)]) 23, blk nb2 (#[Value.int .i64 (0), Value.int .i64 (0), Value.int .i64 (0), Value.bool (false)]) 23, R] w0 w := HS
      replace HS := api_Ctl.close (({ Kind := 0, Ns := 0, Nr := 0, Poll := false } : api_Ctl)) trivial HS
      have HS : Sep.St [api_Ctl.at nb1 (({ Kind := 0, Ns := 0, Nr := 0, Poll := false } : api_Ctl)), blk nb2 (#[Value.int .i64 (0), Value.int .i64 (0), Value.int .i64 (0), Value.bool (false)]) 23, R] w0 w := HS
      replace HS := HS.re [1, 0, 2] rfl
      have HS : Sep.St [blk nb2 (#[Value.int .i64 (0), Value.int .i64 (0), Value.int .i64 (0), Value.bool (false)]) 23, api_Ctl.at nb1 (({ Kind := 0, Ns := 0, Nr := 0, Poll := false } : api_Ctl)), R] w0 w := HS
      replace HS := api_Ctl.close (({ Kind := 0, Ns := 0, Nr := 0, Poll := false } : api_Ctl)) trivial HS
      have HS : Sep.St [api_Ctl.at nb2 (({ Kind := 0, Ns := 0, Nr := 0, Poll := false } : api_Ctl)), api_Ctl.at nb1 (({ Kind := 0, Ns := 0, Nr := 0, Poll := false } : api_Ctl)), R] w0 w := HS
      replace HS := HS.sel [1, 0, 2] [] rfl
      exact At.meet (!(decide (a1 = 32768))) ⟨rfl, rfl, rfl, rfl, rfl, trivial⟩ ⟨HS, H⟩
  · rintro x5 w ⟨HS, H⟩
    unfold signalmanref6_ReadCtl.j0 at H
    have HS : Sep.St [api_Ctl.at nb1 (({ Kind := 0, Ns := 0, Nr := 0, Poll := false } : api_Ctl)), api_Ctl.at nb2 (({ Kind := 0, Ns := 0, Nr := 0, Poll := false } : api_Ctl)), R] w0 w := HS
    by_cases c6 : x5 = true
    · replace H := ite_t c6 H
      refine V.condT (sb c6) ?_
      refine V.seq ?_
      refine V.region ?_
      replace HS := HS.front 1 rfl
      have HS : Sep.St [api_Ctl.at nb2 (({ Kind := 0, Ns := 0, Nr := 0, Poll := false } : api_Ctl)), api_Ctl.at nb1 (({ Kind := 0, Ns := 0, Nr := 0, Poll := false } : api_Ctl)), R] w0 w := HS
      obtain ⟨hi8, HS⟩ := api_Ctl.open HS
      have HS : Sep.St [blk nb2 (#[Value.int .i64 ((({ Kind := 0, Ns := 0, Nr := 0, Poll := false } : api_Ctl)).Kind), Value.int .i64 ((({ Kind := 0, Ns := 0, Nr := 0, Poll := false } : api_Ctl)).Ns), Value.int .i64 ((({ Kind := 0, Ns := 0, Nr := 0, Poll := false } : api_Ctl)).Nr), Value.bool ((({ Kind := 0, Ns := 0, Nr := 0, Poll := false } : api_Ctl)).Poll)]) 23, api_Ctl.at nb1 (({ Kind := 0, Ns := 0, Nr := 0, Poll := false } : api_Ctl)), R] w0 w := HS
      refine W.rd (X.loadSt 0 [Value.int .i64 ((({ Kind := 0, Ns := 0, Nr := 0, Poll := false } : api_Ctl)).Kind), Value.int .i64 ((({ Kind := 0, Ns := 0, Nr := 0, Poll := false } : api_Ctl)).Ns), Value.int .i64 ((({ Kind := 0, Ns := 0, Nr := 0, Poll := false } : api_Ctl)).Nr), Value.bool ((({ Kind := 0, Ns := 0, Nr := 0, Poll := false } : api_Ctl)).Poll)] HS rfl Try.underlying23 rfl inf23 rfl rfl) rfl rfl rfl ?_
      replace HS := HS.front 1 rfl
      have HS : Sep.St [api_Ctl.at nb1 (({ Kind := 0, Ns := 0, Nr := 0, Poll := false } : api_Ctl)), blk nb2 (#[Value.int .i64 ((({ Kind := 0, Ns := 0, Nr := 0, Poll := false } : api_Ctl)).Kind), Value.int .i64 ((({ Kind := 0, Ns := 0, Nr := 0, Poll := false } : api_Ctl)).Ns), Value.int .i64 ((({ Kind := 0, Ns := 0, Nr := 0, Poll := false } : api_Ctl)).Nr), Value.bool ((({ Kind := 0, Ns := 0, Nr := 0, Poll := false } : api_Ctl)).Poll)]) 23, R] w0 w := HS
      obtain ⟨hi10, HS⟩ := api_Ctl.open HS
      have HS : Sep.St [blk nb1 (#[Value.int .i64 ((({ Kind := 0, Ns := 0, Nr := 0, Poll := false } : api_Ctl)).Kind), Value.int .i64 ((({ Kind := 0, Ns := 0, Nr := 0, Poll := false } : api_Ctl)).Ns), Value.int .i64 ((({ Kind := 0, Ns := 0, Nr := 0, Poll := false } : api_Ctl)).Nr), Value.bool ((({ Kind := 0, Ns := 0, Nr := 0, Poll := false } : api_Ctl)).Poll)]) 23, blk nb2 (#[Value.int .i64 ((({ Kind := 0, Ns := 0, Nr := 0, Poll := false } : api_Ctl)).Kind), Value.int .i64 ((({ Kind := 0, Ns := 0, Nr := 0, Poll := false } : api_Ctl)).Ns), Value.int .i64 ((({ Kind := 0, Ns := 0, Nr := 0, Poll := false } : api_Ctl)).Nr), Value.bool ((({ Kind := 0, Ns := 0, Nr := 0, Poll := false } : api_Ctl)).Poll)]) 23, R] w0 w := HS
      refine W.ev_none (Y.storeSt (c' := #[Value.int .i64 ((({ Kind := 0, Ns := 0, Nr := 0, Poll := false } : api_Ctl)).Kind), Value.int .i64 ((({ Kind := 0, Ns := 0, Nr := 0, Poll := false } : api_Ctl)).Ns), Value.int .i64 ((({ Kind := 0, Ns := 0, Nr := 0, Poll := false } : api_Ctl)).Nr), Value.bool ((({ Kind := 0, Ns := 0, Nr := 0, Poll := false } : api_Ctl)).Poll)]) 0 [Value.int .i64 ((({ Kind := 0, Ns := 0, Nr := 0, Poll := false } : api_Ctl)).Kind), Value.int .i64 ((({ Kind := 0, Ns := 0, Nr := 0, Poll := false } : api_Ctl)).Ns), Value.int .i64 ((({ Kind := 0, Ns := 0, Nr := 0, Poll := false } : api_Ctl)).Nr), Value.bool ((({ Kind := 0, Ns := 0, Nr := 0, Poll := false } : api_Ctl)).Poll)] HS rfl inf23 rfl rfl rfl rfl rfl rfl) rfl rfl ?_
      rintro _ w HS
      have HS : Sep.St [blk nb1 (#[Value.int .i64 ((({ Kind := 0, Ns := 0, Nr := 0, Poll := false } : api_Ctl)).Kind), Value.int .i64 ((({ Kind := 0, Ns := 0, Nr := 0, Poll := false } : api_Ctl)).Ns), Value.int .i64 ((({ Kind := 0, Ns := 0, Nr := 0, Poll := false } : api_Ctl)).Nr), Value.bool ((({ Kind := 0, Ns := 0, Nr := 0, Poll := false } : api_Ctl)).Poll)]) 23, blk nb2 (#[Value.int .i64 ((({ Kind := 0, Ns := 0, Nr := 0, Poll := false } : api_Ctl)).Kind), Value.int .i64 ((({ Kind := 0, Ns := 0, Nr := 0, Poll := false } : api_Ctl)).Ns), Value.int .i64 ((({ Kind := 0, Ns := 0, Nr := 0, Poll := false } : api_Ctl)).Nr), Value.bool ((({ Kind := 0, Ns := 0, Nr := 0, Poll := false } : api_Ctl)).Poll)]) 23, R] w0 w := HS
      refine W.rd (X.assign rfl) rfl rfl rfl ?_
      refine W.rd (X.assign rfl) rfl rfl rfl ?_
      refine W.nil ?_
      refine At.next ?_
      refine V.keep [(4, Value.pointer (some ⟨nb1, 0, none⟩)), (5, Value.int .i64 (0)), (6, Value.int .i64 (1))] ⟨rfl, rfl, rfl, trivial⟩ ?_
      refine V.ret ?_
      refine At.thenRet ?_
      have hv11 := run_loadSt (P := Try.prog) (p := 0) 0 [Value.int .i64 ((({ Kind := 0, Ns := 0, Nr := 0, Poll := false } : api_Ctl)).Kind), Value.int .i64 ((({ Kind := 0, Ns := 0, Nr := 0, Poll := false } : api_Ctl)).Ns), Value.int .i64 ((({ Kind := 0, Ns := 0, Nr := 0, Poll := false } : api_Ctl)).Nr), Value.bool ((({ Kind := 0, Ns := 0, Nr := 0, Poll := false } : api_Ctl)).Poll)] HS rfl Try.underlying23 rfl inf23 rfl
      replace HS := HS.sel [2] [0, 1] rfl
      cases H
      exact At.retv3 rfl ⟨_, rfl, hv11⟩ rfl rfl ⟨_, rfl, rfl, HS⟩
    · replace H := ite_f c6 H
      refine V.condF (sb (b_f c6)) ?_
      refine V.skip ?_
      refine At.next ?_
      refine V.keep [(0, Value.slice sa0 (a0).length sc0), (1, Value.int .i64 (a1)), (4, Value.pointer (some ⟨nb1, 0, none⟩)), (7, Value.pointer (some ⟨nb2, 0, none⟩))] ⟨rfl, rfl, rfl, rfl, trivial⟩ ?_
      refine V.seq ?_
      refine V.seq ?_
      refine V.region ?_
      refine W.rd (X.move rfl) rfl rfl rfl ?_
      refine W.rd (X.lenSl Try.underlying26 rfl) rfl rfl rfl ?_
      refine W.rd (X.cmp (decide (((a0).length : Int) = 0)) rfl rfl rfl rfl) rfl rfl rfl ?_
      refine W.nil ?_
      refine At.next ?_
      refine V.keep [(0, Value.slice sa0 (a0).length sc0), (1, Value.int .i64 (a1)), (4, Value.pointer (some ⟨nb1, 0, none⟩)), (7, Value.pointer (some ⟨nb2, 0, none⟩)), (24, Value.bool (decide (((a0).length : Int) = 0)))] ⟨rfl, rfl, rfl, rfl, rfl, trivial⟩ ?_
      by_cases c12 : ((a0).length : Int) = 0
      · replace H := ite_t c12 H
        refine V.condT (sb (decide_eq_true c12)) ?_
        refine V.seq ?_
        refine V.region ?_
        replace HS := HS.front 1 rfl
        have HS : Sep.St [api_Ctl.at nb2 (({ Kind := 0, Ns := 0, Nr := 0, Poll := false } : api_Ctl)), api_Ctl.at nb1 (({ Kind := 0, Ns := 0, Nr := 0, Poll := false } : api_Ctl)), R] w0 w := HS
        obtain ⟨hi14, HS⟩ := api_Ctl.open HS
        have HS : Sep.St [blk nb2 (#[Value.int .i64 ((({ Kind := 0, Ns := 0, Nr := 0, Poll := false } : api_Ctl)).Kind), Value.int .i64 ((({ Kind := 0, Ns := 0, Nr := 0, Poll := false } : api_Ctl)).Ns), Value.int .i64 ((({ Kind := 0, Ns := 0, Nr := 0, Poll := false } : api_Ctl)).Nr), Value.bool ((({ Kind := 0, Ns := 0, Nr := 0, Poll := false } : api_Ctl)).Poll)]) 23, api_Ctl.at nb1 (({ Kind := 0, Ns := 0, Nr := 0, Poll := false } : api_Ctl)), R] w0 w := HS
        refine W.rd (X.loadSt 0 [Value.int .i64 ((({ Kind := 0, Ns := 0, Nr := 0, Poll := false } : api_Ctl)).Kind), Value.int .i64 ((({ Kind := 0, Ns := 0, Nr := 0, Poll := false } : api_Ctl)).Ns), Value.int .i64 ((({ Kind := 0, Ns := 0, Nr := 0, Poll := false } : api_Ctl)).Nr), Value.bool ((({ Kind := 0, Ns := 0, Nr := 0, Poll := false } : api_Ctl)).Poll)] HS rfl Try.underlying23 rfl inf23 rfl rfl) rfl rfl rfl ?_
        replace HS := HS.front 1 rfl
        have HS : Sep.St [api_Ctl.at nb1 (({ Kind := 0, Ns := 0, Nr := 0, Poll := false } : api_Ctl)), blk nb2 (#[Value.int .i64 ((({ Kind := 0, Ns := 0, Nr := 0, Poll := false } : api_Ctl)).Kind), Value.int .i64 ((({ Kind := 0, Ns := 0, Nr := 0, Poll := false } : api_Ctl)).Ns), Value.int .i64 ((({ Kind := 0, Ns := 0, Nr := 0, Poll := false } : api_Ctl)).Nr), Value.bool ((({ Kind := 0, Ns := 0, Nr := 0, Poll := false } : api_Ctl)).Poll)]) 23, R] w0 w := HS
        obtain ⟨hi16, HS⟩ := api_Ctl.open HS
        have HS : Sep.St [blk nb1 (#[Value.int .i64 ((({ Kind := 0, Ns := 0, Nr := 0, Poll := false } : api_Ctl)).Kind), Value.int .i64 ((({ Kind := 0, Ns := 0, Nr := 0, Poll := false } : api_Ctl)).Ns), Value.int .i64 ((({ Kind := 0, Ns := 0, Nr := 0, Poll := false } : api_Ctl)).Nr), Value.bool ((({ Kind := 0, Ns := 0, Nr := 0, Poll := false } : api_Ctl)).Poll)]) 23, blk nb2 (#[Value.int .i64 ((({ Kind := 0, Ns := 0, Nr := 0, Poll := false } : api_Ctl)).Kind), Value.int .i64 ((({ Kind := 0, Ns := 0, Nr := 0, Poll := false } : api_Ctl)).Ns), Value.int .i64 ((({ Kind := 0, Ns := 0, Nr := 0, Poll := false } : api_Ctl)).Nr), Value.bool ((({ Kind := 0, Ns := 0, Nr := 0, Poll := false } : api_Ctl)).Poll)]) 23, R] w0 w := HS
        refine W.ev_none (Y.storeSt (c' := #[Value.int .i64 ((({ Kind := 0, Ns := 0, Nr := 0, Poll := false } : api_Ctl)).Kind), Value.int .i64 ((({ Kind := 0, Ns := 0, Nr := 0, Poll := false } : api_Ctl)).Ns), Value.int .i64 ((({ Kind := 0, Ns := 0, Nr := 0, Poll := false } : api_Ctl)).Nr), Value.bool ((({ Kind := 0, Ns := 0, Nr := 0, Poll := false } : api_Ctl)).Poll)]) 0 [Value.int .i64 ((({ Kind := 0, Ns := 0, Nr := 0, Poll := false } : api_Ctl)).Kind), Value.int .i64 ((({ Kind := 0, Ns := 0, Nr := 0, Poll := false } : api_Ctl)).Ns), Value.int .i64 ((({ Kind := 0, Ns := 0, Nr := 0, Poll := false } : api_Ctl)).Nr), Value.bool ((({ Kind := 0, Ns := 0, Nr := 0, Poll := false } : api_Ctl)).Poll)] HS rfl inf23 rfl rfl rfl rfl rfl rfl) rfl rfl ?_
        rintro _ w HS
        have HS : Sep.St [blk nb1 (#[Value.int .i64 ((({ Kind := 0, Ns := 0, Nr := 0, Poll := false } : api_Ctl)).Kind), Value.int .i64 ((({ Kind := 0, Ns := 0, Nr := 0, Poll := false } : api_Ctl)).Ns), Value.int .i64 ((({ Kind := 0, Ns := 0, Nr := 0, Poll := false } : api_Ctl)).Nr), Value.bool ((({ Kind := 0, Ns := 0, Nr := 0, Poll := false } : api_Ctl)).Poll)]) 23, blk nb2 (#[Value.int .i64 ((({ Kind := 0, Ns := 0, Nr := 0, Poll := false } : api_Ctl)).Kind), Value.int .i64 ((({ Kind := 0, Ns := 0, Nr := 0, Poll := false } : api_Ctl)).Ns), Value.int .i64 ((({ Kind := 0, Ns := 0, Nr := 0, Poll := false } : api_Ctl)).Nr), Value.bool ((({ Kind := 0, Ns := 0, Nr := 0, Poll := false } : api_Ctl)).Poll)]) 23, R] w0 w := HS
        refine W.rd (X.assign rfl) rfl rfl rfl ?_
        refine W.rd (X.assign rfl) rfl rfl rfl ?_
        refine W.nil ?_
        refine At.next ?_
        refine V.keep [(4, Value.pointer (some ⟨nb1, 0, none⟩)), (5, Value.int .i64 (0)), (6, Value.int .i64 (3))] ⟨rfl, rfl, rfl, trivial⟩ ?_
        refine V.ret ?_
        refine At.thenRet ?_
        have hv17 := run_loadSt (P := Try.prog) (p := 0) 0 [Value.int .i64 ((({ Kind := 0, Ns := 0, Nr := 0, Poll := false } : api_Ctl)).Kind), Value.int .i64 ((({ Kind := 0, Ns := 0, Nr := 0, Poll := false } : api_Ctl)).Ns), Value.int .i64 ((({ Kind := 0, Ns := 0, Nr := 0, Poll := false } : api_Ctl)).Nr), Value.bool ((({ Kind := 0, Ns := 0, Nr := 0, Poll := false } : api_Ctl)).Poll)] HS rfl Try.underlying23 rfl inf23 rfl
        replace HS := HS.sel [2] [0, 1] rfl
        cases H
        exact At.retv3 rfl ⟨_, rfl, hv17⟩ rfl rfl ⟨_, rfl, rfl, HS⟩
      · replace H := ite_f c12 H
        refine V.condF (sb (decide_eq_false c12)) ?_
        refine V.skip ?_
        refine At.next ?_
        refine V.keep [(0, Value.slice sa0 (a0).length sc0), (1, Value.int .i64 (a1)), (4, Value.pointer (some ⟨nb1, 0, none⟩)), (7, Value.pointer (some ⟨nb2, 0, none⟩))] ⟨rfl, rfl, rfl, rfl, trivial⟩ ?_
        refine V.seq ?_
        refine V.seq ?_
        refine V.region ?_
        refine W.rd (X.assign rfl) rfl rfl rfl ?_
        refine W.nil ?_
        refine At.next ?_
        refine V.keep [(0, Value.slice sa0 (a0).length sc0), (1, Value.int .i64 (a1)), (4, Value.pointer (some ⟨nb1, 0, none⟩)), (7, Value.pointer (some ⟨nb2, 0, none⟩)), (8, Value.int .i64 (3))] ⟨rfl, rfl, rfl, rfl, rfl, trivial⟩ ?_
        refine V.block ?_
        refine V.loop (σ := Int) (fun kq (st : Int) w => match st with | x18 => Sep.St [api_Ctl.at nb1 (({ Kind := 0, Ns := 0, Nr := 0, Poll := false } : api_Ctl)), api_Ctl.at nb2 (({ Kind := 0, Ns := 0, Nr := 0, Poll := false } : api_Ctl)), R] w0 w ∧ signalmanref6_ReadCtl.l1 kq a0 a1 x18 = some r ∧ kq ≤ k) (fun st => match st with | x18 => [(0, Value.slice sa0 (a0).length sc0), (1, Value.int .i64 (a1)), (4, Value.pointer (some ⟨nb1, 0, none⟩)), (7, Value.pointer (some ⟨nb2, 0, none⟩)), (8, Value.int .i64 (x18))]) k (3) ⟨rfl, rfl, rfl, rfl, rfl, trivial⟩ ⟨HS, H, Nat.le_refl _⟩ ?_
        rintro kq19 x18 w ⟨HS, H, hk20⟩
        cases kq19 with
        | zero => exact absurd H (by simp [signalmanref6_ReadCtl.l1])
        | succ kq19 =>
          simp only [signalmanref6_ReadCtl.l1] at H
          have HS : Sep.St [api_Ctl.at nb1 (({ Kind := 0, Ns := 0, Nr := 0, Poll := false } : api_Ctl)), api_Ctl.at nb2 (({ Kind := 0, Ns := 0, Nr := 0, Poll := false } : api_Ctl)), R] w0 w := HS
          refine V.seq ?_
          refine V.seq ?_
          refine V.region ?_
          refine W.rd (X.move rfl) rfl rfl rfl ?_
          refine W.rd (X.cmp (decide (x18 ≤ 7)) rfl rfl rfl rfl) rfl rfl rfl ?_
          refine W.nil ?_
          refine At.next ?_
          refine V.keep [(0, Value.slice sa0 (a0).length sc0), (1, Value.int .i64 (a1)), (4, Value.pointer (some ⟨nb1, 0, none⟩)), (7, Value.pointer (some ⟨nb2, 0, none⟩)), (8, Value.int .i64 (x18)), (27, Value.bool (decide (x18 ≤ 7)))] ⟨rfl, rfl, rfl, rfl, rfl, rfl, trivial⟩ ?_
          by_cases c21 : x18 ≤ 7
          · replace H := ite_t c21 H
            refine V.condT (sb (decide_eq_true c21)) ?_
            refine V.skip ?_
            refine At.next ?_
            refine V.keep [(0, Value.slice sa0 (a0).length sc0), (1, Value.int .i64 (a1)), (4, Value.pointer (some ⟨nb1, 0, none⟩)), (7, Value.pointer (some ⟨nb2, 0, none⟩)), (8, Value.int .i64 (x18))] ⟨rfl, rfl, rfl, rfl, rfl, trivial⟩ ?_
            refine V.seq ?_
            refine V.block ?_
            refine V.seq ?_
            refine V.region ?_
            refine W.rd (X.assign rfl) rfl rfl rfl ?_
            refine W.nil ?_
            refine At.next ?_
            refine V.keep [(0, Value.slice sa0 (a0).length sc0), (1, Value.int .i64 (a1)), (4, Value.pointer (some ⟨nb1, 0, none⟩)), (7, Value.pointer (some ⟨nb2, 0, none⟩)), (8, Value.int .i64 (x18)), (9, Value.int .i64 (0))] ⟨rfl, rfl, rfl, rfl, rfl, rfl, trivial⟩ ?_
            refine V.block ?_
            refine V.loop (σ := Int) (fun kq (st : Int) w => match st with | x22 => Sep.St [api_Ctl.at nb1 (({ Kind := 0, Ns := 0, Nr := 0, Poll := false } : api_Ctl)), api_Ctl.at nb2 (({ Kind := 0, Ns := 0, Nr := 0, Poll := false } : api_Ctl)), R] w0 w ∧ signalmanref6_ReadCtl.l2 kq a0 a1 x18 x22 = some r ∧ kq ≤ kq19) (fun st => match st with | x22 => [(0, Value.slice sa0 (a0).length sc0), (1, Value.int .i64 (a1)), (4, Value.pointer (some ⟨nb1, 0, none⟩)), (7, Value.pointer (some ⟨nb2, 0, none⟩)), (8, Value.int .i64 (x18)), (9, Value.int .i64 (x22))]) kq19 (0) ⟨rfl, rfl, rfl, rfl, rfl, rfl, trivial⟩ ⟨HS, H, Nat.le_refl _⟩ ?_
            rintro kq23 x22 w ⟨HS, H, hk24⟩
            cases kq23 with
            | zero => exact absurd H (by simp [signalmanref6_ReadCtl.l2])
            | succ kq23 =>
              simp only [signalmanref6_ReadCtl.l2] at H
              have HS : Sep.St [api_Ctl.at nb1 (({ Kind := 0, Ns := 0, Nr := 0, Poll := false } : api_Ctl)), api_Ctl.at nb2 (({ Kind := 0, Ns := 0, Nr := 0, Poll := false } : api_Ctl)), R] w0 w := HS
              refine V.seq ?_
              refine V.seq ?_
              refine V.region ?_
              refine W.rd (X.move rfl) rfl rfl rfl ?_
              refine W.rd (X.cmp (decide (x22 < 2)) rfl rfl rfl rfl) rfl rfl rfl ?_
              refine W.nil ?_
              refine At.next ?_
              refine V.keep [(0, Value.slice sa0 (a0).length sc0), (1, Value.int .i64 (a1)), (4, Value.pointer (some ⟨nb1, 0, none⟩)), (7, Value.pointer (some ⟨nb2, 0, none⟩)), (8, Value.int .i64 (x18)), (9, Value.int .i64 (x22)), (31, Value.bool (decide (x22 < 2)))] ⟨rfl, rfl, rfl, rfl, rfl, rfl, rfl, trivial⟩ ?_
              by_cases c25 : x22 < 2
              · replace H := ite_t c25 H
                refine V.condT (sb (decide_eq_true c25)) ?_
                refine V.skip ?_
                refine At.next ?_
                refine V.keep [(0, Value.slice sa0 (a0).length sc0), (1, Value.int .i64 (a1)), (4, Value.pointer (some ⟨nb1, 0, none⟩)), (7, Value.pointer (some ⟨nb2, 0, none⟩)), (8, Value.int .i64 (x18)), (9, Value.int .i64 (x22))] ⟨rfl, rfl, rfl, rfl, rfl, rfl, trivial⟩ ?_
                refine V.seq ?_
                refine V.block ?_
                refine V.seq ?_
                obtain ⟨c26, H⟩ := ite_n H
                obtain ⟨eb27, eo28, hh⟩ := ((rdC.at 2 hr0 HS rfl)).some (by decide) c26.1 c26.2; subst hh
                refine V.draw (es := [5]) (bl := [8, 9]) (f := [(34, Value.slice (some ⟨eb27, eo28, none⟩) (a0).length sc0), (35, Value.pointer (some ⟨eb27, eo28 + ((0 : Int)).toNat * 1, none⟩)), (36, Value.int .u8 ((a0).getD ((0 : Int)).toNat 0)), (37, Value.int .i64 (w64 ((a0).getD ((0 : Int)).toNat 0))), (38, Value.int .i64 (x18)), (40, Value.int .i64 (x22)), (41, Value.int .i64 (w64 (16 * x22)))]) (fun w => Sep.St [api_Ctl.at nb1 (({ Kind := 0, Ns := 0, Nr := 0, Poll := false } : api_Ctl)), api_Ctl.at nb2 (({ Kind := 0, Ns := 0, Nr := 0, Poll := false } : api_Ctl)), R] w0 w) mo HS.drew rfl ?_
                refine T.event _ [(38, Value.int .i64 (x18))] rfl rfl ⟨⟨_, Value.slice (some ⟨eb27, eo28, none⟩) (a0).length sc0, [(0, Value.slice (some ⟨eb27, eo28, none⟩) (a0).length sc0)], 34, rfl, rfl, ⟨.inl ⟨rfl, rfl⟩, trivial⟩, .run rfl (fun w HS => X.move rfl), rfl, rfl, rfl⟩, ⟨_, Value.pointer (some ⟨eb27, eo28 + ((0 : Int)).toNat * 1, none⟩), [(34, Value.slice (some ⟨eb27, eo28, none⟩) (a0).length sc0)], 35, rfl, rfl, ⟨.inr ⟨rfl, rfl⟩, trivial⟩, .run rfl (fun w HS => X.indexSl Try.underlying26 inf5 rfl rfl c26.1 c26.2), rfl, rfl, rfl⟩, ⟨_, Value.int .u8 ((a0).getD ((0 : Int)).toNat 0), [(35, Value.pointer (some ⟨eb27, eo28 + ((0 : Int)).toNat * 1, none⟩))], 36, rfl, rfl, ⟨.inr ⟨rfl, rfl⟩, trivial⟩, .run rfl (fun w HS => X.load Try.underlying5 rfl rfl (((rdC.at 2 hr0 HS rfl)).cellI c26.1 c26.2)), rfl, rfl, rfl⟩, ⟨_, Value.int .i64 (w64 ((a0).getD ((0 : Int)).toNat 0)), [(36, Value.int .u8 ((a0).getD ((0 : Int)).toNat 0))], 37, rfl, rfl, ⟨.inr ⟨rfl, rfl⟩, trivial⟩, .run rfl (fun w HS => X.conv Try.underlying5 Try.underlying3 rfl), rfl, rfl, rfl⟩, ⟨_, Value.int .i64 (x18), [(8, Value.int .i64 (x18))], 38, rfl, rfl, ⟨.inl ⟨rfl, rfl⟩, trivial⟩, .run rfl (fun w HS => X.move rfl), rfl, rfl, rfl⟩, ⟨_, Value.int .i64 (x22), [(9, Value.int .i64 (x22))], 40, rfl, rfl, ⟨.inl ⟨rfl, rfl⟩, trivial⟩, .run rfl (fun w HS => X.move rfl), rfl, rfl, rfl⟩, ⟨_, Value.int .i64 (w64 (16 * x22)), [(40, Value.int .i64 (x22))], 41, rfl, rfl, ⟨.inr ⟨rfl, rfl⟩, trivial⟩, .run rfl (fun w HS => X.mul rfl rfl), rfl, rfl, rfl⟩, trivial⟩ rfl ⟨.inr ⟨rfl, rfl⟩, trivial⟩ (Or.inl rfl) (by intro d hd; cases hd; exact ⟨by decide, rfl, rfl⟩) [] [4] rfl rfl (fun w HS => ?_)
                have HS : Sep.St [api_Ctl.at nb1 (({ Kind := 0, Ns := 0, Nr := 0, Poll := false } : api_Ctl)), api_Ctl.at nb2 (({ Kind := 0, Ns := 0, Nr := 0, Poll := false } : api_Ctl)), R] w0 w := HS
                obtain ⟨t29, A30, H⟩ := bind_s H
                refine ⟨_, Y.call Try.func23 (by kernel_rfl) rfl (vs := [Value.int .i64 (x18)]) rfl (signalmanref6_bare.calls x18 _ w0 _  t29  A30 (Sep.St.tailJoin (m := []) (r := [api_Ctl.at nb1 (({ Kind := 0, Ns := 0, Nr := 0, Poll := false } : api_Ctl)), api_Ctl.at nb2 (({ Kind := 0, Ns := 0, Nr := 0, Poll := false } : api_Ctl)), R]) HS)), ?_⟩
                rintro _ w ⟨rfl, HS⟩
                replace HS := Sep.St.tailOpen (m := []) (r := [api_Ctl.at nb1 (({ Kind := 0, Ns := 0, Nr := 0, Poll := false } : api_Ctl)), api_Ctl.at nb2 (({ Kind := 0, Ns := 0, Nr := 0, Poll := false } : api_Ctl)), R]) HS
                have HS : Sep.St [api_Ctl.at nb1 (({ Kind := 0, Ns := 0, Nr := 0, Poll := false } : api_Ctl)), api_Ctl.at nb2 (({ Kind := 0, Ns := 0, Nr := 0, Poll := false } : api_Ctl)), R] w0 w := HS
                refine ⟨[(39, Value.int .i64 (t29)), (42, Value.int .i64 (w64 (t29 + (w64 (16 * x22))))), (43, Value.bool (decide ((w64 ((a0).getD ((0 : Int)).toNat 0)) = (w64 (t29 + (w64 (16 * x22)))))))], fun w => Sep.St [api_Ctl.at nb1 (({ Kind := 0, Ns := 0, Nr := 0, Poll := false } : api_Ctl)), api_Ctl.at nb2 (({ Kind := 0, Ns := 0, Nr := 0, Poll := false } : api_Ctl)), R] w0 w, ⟨.inl ⟨rfl, rfl⟩, ⟨.inr ⟨by decide, rfl⟩, ⟨.inr ⟨by decide, rfl⟩, trivial⟩⟩⟩, ?_, HS⟩
                refine T.fin [(0, Value.slice (some ⟨eb27, eo28, none⟩) (a0).length sc0), (1, Value.int .i64 (a1)), (4, Value.pointer (some ⟨nb1, 0, none⟩)), (7, Value.pointer (some ⟨nb2, 0, none⟩)), (8, Value.int .i64 (x18)), (9, Value.int .i64 (x22)), (43, Value.bool (decide ((w64 ((a0).getD ((0 : Int)).toNat 0)) = (w64 (t29 + (w64 (16 * x22)))))))] rfl ⟨⟨_, Value.slice (some ⟨eb27, eo28, none⟩) (a0).length sc0, [(0, Value.slice (some ⟨eb27, eo28, none⟩) (a0).length sc0)], 34, rfl, rfl, ⟨.inl ⟨rfl, rfl⟩, trivial⟩, .run rfl (fun w HS => X.move rfl), rfl, rfl, rfl⟩, ⟨_, Value.pointer (some ⟨eb27, eo28 + ((0 : Int)).toNat * 1, none⟩), [(34, Value.slice (some ⟨eb27, eo28, none⟩) (a0).length sc0)], 35, rfl, rfl, ⟨.inr ⟨rfl, rfl⟩, trivial⟩, .run rfl (fun w HS => X.indexSl Try.underlying26 inf5 rfl rfl c26.1 c26.2), rfl, rfl, rfl⟩, ⟨_, Value.int .u8 ((a0).getD ((0 : Int)).toNat 0), [(35, Value.pointer (some ⟨eb27, eo28 + ((0 : Int)).toNat * 1, none⟩))], 36, rfl, rfl, ⟨.inr ⟨rfl, rfl⟩, trivial⟩, .run rfl (fun w HS => X.load Try.underlying5 rfl rfl (((rdC.at 2 hr0 HS rfl)).cellI c26.1 c26.2)), rfl, rfl, rfl⟩, ⟨_, Value.int .i64 (w64 ((a0).getD ((0 : Int)).toNat 0)), [(36, Value.int .u8 ((a0).getD ((0 : Int)).toNat 0))], 37, rfl, rfl, ⟨.inr ⟨rfl, rfl⟩, trivial⟩, .run rfl (fun w HS => X.conv Try.underlying5 Try.underlying3 rfl), rfl, rfl, rfl⟩, ⟨_, Value.int .i64 (x22), [(9, Value.int .i64 (x22))], 40, rfl, rfl, ⟨.inl ⟨rfl, rfl⟩, trivial⟩, .run rfl (fun w HS => X.move rfl), rfl, rfl, rfl⟩, ⟨_, Value.int .i64 (w64 (16 * x22)), [(40, Value.int .i64 (x22))], 41, rfl, rfl, ⟨.inr ⟨rfl, rfl⟩, trivial⟩, .run rfl (fun w HS => X.mul rfl rfl), rfl, rfl, rfl⟩, ⟨_, Value.int .i64 (w64 (t29 + (w64 (16 * x22)))), [(39, Value.int .i64 (t29)), (41, Value.int .i64 (w64 (16 * x22)))], 42, rfl, rfl, ⟨.inr ⟨rfl, rfl⟩, ⟨.inr ⟨rfl, rfl⟩, trivial⟩⟩, .run rfl (fun w HS => X.add rfl rfl), rfl, rfl, rfl⟩, ⟨_, Value.bool (decide ((w64 ((a0).getD ((0 : Int)).toNat 0)) = (w64 (t29 + (w64 (16 * x22)))))), [(37, Value.int .i64 (w64 ((a0).getD ((0 : Int)).toNat 0))), (42, Value.int .i64 (w64 (t29 + (w64 (16 * x22)))))], 43, rfl, rfl, ⟨.inr ⟨rfl, rfl⟩, ⟨.inr ⟨rfl, rfl⟩, trivial⟩⟩, .run rfl (fun w HS => X.cmp (decide ((w64 ((a0).getD ((0 : Int)).toNat 0)) = (w64 (t29 + (w64 (16 * x22)))))) rfl rfl rfl rfl), rfl, rfl, rfl⟩, trivial⟩ ⟨.inl ⟨rfl, rfl⟩, ⟨.inl ⟨rfl, rfl⟩, ⟨.inl ⟨rfl, rfl⟩, ⟨.inl ⟨rfl, rfl⟩, ⟨.inl ⟨rfl, rfl⟩, ⟨.inl ⟨rfl, rfl⟩, ⟨.inr ⟨rfl, rfl⟩, trivial⟩⟩⟩⟩⟩⟩⟩ (fun w HS => ?_)
                have HS : Sep.St [api_Ctl.at nb1 (({ Kind := 0, Ns := 0, Nr := 0, Poll := false } : api_Ctl)), api_Ctl.at nb2 (({ Kind := 0, Ns := 0, Nr := 0, Poll := false } : api_Ctl)), R] w0 w := HS
                refine At.next ?_
                refine V.keep [(0, Value.slice (some ⟨eb27, eo28, none⟩) (a0).length sc0), (1, Value.int .i64 (a1)), (4, Value.pointer (some ⟨nb1, 0, none⟩)), (7, Value.pointer (some ⟨nb2, 0, none⟩)), (8, Value.int .i64 (x18)), (9, Value.int .i64 (x22)), (43, Value.bool (decide ((w64 ((a0).getD ((0 : Int)).toNat 0)) = (w64 (t29 + (w64 (16 * x22)))))))] ⟨rfl, rfl, rfl, rfl, rfl, rfl, rfl, trivial⟩ ?_
                by_cases c31 : (w64 ((a0).getD ((0 : Int)).toNat 0)) = (w64 (t29 + (w64 (16 * x22))))
                · replace H := ite_t c31 H
                  refine V.condT (sb (decide_eq_true c31)) ?_
                  refine V.seq ?_
                  refine V.region ?_
                  refine W.rd (X.move rfl) rfl rfl rfl ?_
                  refine W.rd (X.move rfl) rfl rfl rfl ?_
                  refine W.rd (X.cmp (decide (x22 = 1)) rfl rfl rfl rfl) rfl rfl rfl ?_
                  refine W.rd (X.build (vs := #[(0, Value.int .i64 (x18)), (3, Value.bool (decide (x22 = 1)))]) (v := Value.agg #[Value.int .i64 (x18), Value.int .i64 (0), Value.int .i64 (0), Value.bool (decide (x22 = 1))]) (fun a ha => by simp only [List.map_toArray, List.map_cons, List.map_nil]; rw [ha.ev (x := .tmp 44) (v := Value.int .i64 (x18)) rfl]; rw [ha.ev (x := .tmp 46) (v := Value.bool (decide (x22 = 1))) rfl]; try rfl) (fun _ => by kernel_rfl)) rfl rfl rfl ?_
                  obtain ⟨hi33, HS⟩ := api_Ctl.open HS
                  have HS : Sep.St [blk nb1 (#[Value.int .i64 ((({ Kind := 0, Ns := 0, Nr := 0, Poll := false } : api_Ctl)).Kind), Value.int .i64 ((({ Kind := 0, Ns := 0, Nr := 0, Poll := false } : api_Ctl)).Ns), Value.int .i64 ((({ Kind := 0, Ns := 0, Nr := 0, Poll := false } : api_Ctl)).Nr), Value.bool ((({ Kind := 0, Ns := 0, Nr := 0, Poll := false } : api_Ctl)).Poll)]) 23, api_Ctl.at nb2 (({ Kind := 0, Ns := 0, Nr := 0, Poll := false } : api_Ctl)), R] w0 w := HS
                  refine W.ev_none (Y.storeSt (c' := #[Value.int .i64 (x18), Value.int .i64 (0), Value.int .i64 (0), Value.bool (decide (x22 = 1))]) 0 [Value.int .i64 (x18), Value.int .i64 (0), Value.int .i64 (0), Value.bool (decide (x22 = 1))] HS rfl inf23 rfl rfl rfl rfl rfl rfl) rfl rfl ?_
                  rintro _ w HS
                  have HS : Sep.St [blk nb1 (#[Value.int .i64 (x18), Value.int .i64 (0), Value.int .i64 (0), Value.bool (decide (x22 = 1))]) 23, api_Ctl.at nb2 (({ Kind := 0, Ns := 0, Nr := 0, Poll := false } : api_Ctl)), R] w0 w := HS
                  refine W.rd (X.assign rfl) rfl rfl rfl ?_
                  refine W.rd (X.assign rfl) rfl rfl rfl ?_
                  refine W.nil ?_
                  refine At.next ?_
                  refine V.keep [(4, Value.pointer (some ⟨nb1, 0, none⟩)), (5, Value.int .i64 (1)), (6, Value.int .i64 (0))] ⟨rfl, rfl, rfl, trivial⟩ ?_
                  refine V.ret ?_
                  refine At.blockRet ?_
                  refine At.thenRet ?_
                  refine At.thenRet ?_
                  refine At.blockRet ?_
                  refine At.blockRet ?_
                  refine At.thenRet ?_
                  refine At.thenRet ?_
                  refine At.blockRet ?_
                  refine At.thenRet ?_
                  have hv34 := run_loadSt (P := Try.prog) (p := 0) 0 [Value.int .i64 (x18), Value.int .i64 (0), Value.int .i64 (0), Value.bool (decide (x22 = 1))] HS rfl Try.underlying23 rfl inf23 rfl
                  replace HS := HS.sel [2] [0, 1] rfl
                  cases H
                  exact At.retv3 rfl ⟨_, rfl, hv34⟩ rfl rfl ⟨_, rfl, rfl, HS⟩
                · replace H := ite_f c31 H
                  refine V.condF (sb (decide_eq_false c31)) ?_
                  refine V.skip ?_
                  refine At.blockEnd ?_
                  refine At.next ?_
                  refine V.keep [(0, Value.slice (some ⟨eb27, eo28, none⟩) (a0).length sc0), (1, Value.int .i64 (a1)), (4, Value.pointer (some ⟨nb1, 0, none⟩)), (7, Value.pointer (some ⟨nb2, 0, none⟩)), (8, Value.int .i64 (x18)), (9, Value.int .i64 (x22))] ⟨rfl, rfl, rfl, rfl, rfl, rfl, trivial⟩ ?_
                  refine V.region ?_
                  refine W.rd (X.move rfl) rfl rfl rfl ?_
                  refine W.rd (X.add rfl rfl) rfl rfl rfl ?_
                  refine W.rd (X.assign rfl) rfl rfl rfl ?_
                  refine W.nil ?_
                  exact At.round kq23 (by omega) (w64 (x22 + 1)) ⟨rfl, rfl, rfl, rfl, rfl, rfl, trivial⟩ ⟨HS, H, by omega⟩
              · replace H := ite_f c25 H
                refine V.condF (sb (decide_eq_false c25)) ?_
                refine V.exit ?_
                refine At.thenExit ?_
                refine At.thenExit ?_
                refine At.blockExit ?_
                refine At.blockEnd ?_
                refine At.next ?_
                refine V.keep [(0, Value.slice sa0 (a0).length sc0), (1, Value.int .i64 (a1)), (4, Value.pointer (some ⟨nb1, 0, none⟩)), (7, Value.pointer (some ⟨nb2, 0, none⟩)), (8, Value.int .i64 (x18))] ⟨rfl, rfl, rfl, rfl, rfl, trivial⟩ ?_
                refine V.region ?_
                refine W.rd (X.move rfl) rfl rfl rfl ?_
                refine W.rd (X.add rfl rfl) rfl rfl rfl ?_
                refine W.rd (X.assign rfl) rfl rfl rfl ?_
                refine W.nil ?_
                exact At.round kq23 (by omega) (w64 (x18 + 1)) ⟨rfl, rfl, rfl, rfl, rfl, trivial⟩ ⟨HS, H, by omega⟩
          · replace H := ite_f c21 H
            refine V.condF (sb (decide_eq_false c21)) ?_
            refine V.exit ?_
            refine At.thenExit ?_
            refine At.thenExit ?_
            refine At.blockExit ?_
            refine At.next ?_
            refine V.keep [(0, Value.slice sa0 (a0).length sc0), (1, Value.int .i64 (a1)), (4, Value.pointer (some ⟨nb1, 0, none⟩)), (7, Value.pointer (some ⟨nb2, 0, none⟩))] ⟨rfl, rfl, rfl, rfl, trivial⟩ ?_
            refine V.seq ?_
            refine V.region ?_
            refine W.rd (X.assign rfl) rfl rfl rfl ?_
            refine W.nil ?_
            refine At.next ?_
            refine V.keep [(0, Value.slice sa0 (a0).length sc0), (1, Value.int .i64 (a1)), (4, Value.pointer (some ⟨nb1, 0, none⟩)), (7, Value.pointer (some ⟨nb2, 0, none⟩)), (10, Value.int .i64 (0))] ⟨rfl, rfl, rfl, rfl, rfl, trivial⟩ ?_
            refine V.seq ?_
            refine V.block ?_
            refine V.seq ?_
            refine V.region ?_
            refine W.rd (X.move rfl) rfl rfl rfl ?_
            obtain ⟨c35, H⟩ := ite_n H
            obtain ⟨eb36, eo37, hh⟩ := ((rdC.at 2 hr0 HS rfl)).some (by decide) c35.1 c35.2; subst hh
            refine W.rd (X.indexSl Try.underlying26 inf5 rfl rfl c35.1 c35.2) rfl rfl rfl ?_
            refine W.rd (X.load Try.underlying5 rfl rfl (((rdC.at 2 hr0 HS rfl)).cellI c35.1 c35.2)) rfl rfl rfl ?_
            refine W.rd (X.cmp (decide (((a0).getD ((0 : Int)).toNat 0) = 1)) rfl rfl rfl rfl) rfl rfl rfl ?_
            refine W.rd (X.assign rfl) rfl rfl rfl ?_
            refine W.nil ?_
            refine At.next ?_
            refine V.keep [(0, Value.slice (some ⟨eb36, eo37, none⟩) (a0).length sc0), (1, Value.int .i64 (a1)), (4, Value.pointer (some ⟨nb1, 0, none⟩)), (7, Value.pointer (some ⟨nb2, 0, none⟩)), (10, Value.int .i64 (0)), (48, Value.bool (decide (((a0).getD ((0 : Int)).toNat 0) = 1)))] ⟨rfl, rfl, rfl, rfl, rfl, rfl, trivial⟩ ?_
            by_cases c38 : ((a0).getD ((0 : Int)).toNat 0) = 1
            · replace H := ite_t c38 H
              refine V.condT (sb (decide_eq_true c38)) ?_
              refine V.region ?_
              refine W.rd (X.assign rfl) rfl rfl rfl ?_
              refine W.nil ?_
              refine At.blockEnd ?_
              refine At.next ?_
              refine V.keep [(0, Value.slice (some ⟨eb36, eo37, none⟩) (a0).length sc0), (1, Value.int .i64 (a1)), (4, Value.pointer (some ⟨nb1, 0, none⟩)), (7, Value.pointer (some ⟨nb2, 0, none⟩)), (10, Value.int .i64 (1))] ⟨rfl, rfl, rfl, rfl, rfl, trivial⟩ ?_
              refine V.seq ?_
              refine V.region ?_
              refine W.rd (X.assign rfl) rfl rfl rfl ?_
              refine W.nil ?_
              refine At.next ?_
              refine V.keep [(0, Value.slice (some ⟨eb36, eo37, none⟩) (a0).length sc0), (1, Value.int .i64 (a1)), (4, Value.pointer (some ⟨nb1, 0, none⟩)), (7, Value.pointer (some ⟨nb2, 0, none⟩)), (10, Value.int .i64 (1)), (11, Value.int .i64 (1))] ⟨rfl, rfl, rfl, rfl, rfl, rfl, trivial⟩ ?_
              refine V.meet (σ := Int) (fun st w => match st with | x39 => Sep.St [api_Ctl.at nb1 (({ Kind := 0, Ns := 0, Nr := 0, Poll := false } : api_Ctl)), api_Ctl.at nb2 (({ Kind := 0, Ns := 0, Nr := 0, Poll := false } : api_Ctl)), R] w0 w ∧ signalmanref6_ReadCtl.j3 a0 x39 = some r) (fun st => match st with | x39 => [(0, Value.slice (some ⟨eb36, eo37, none⟩) (a0).length sc0), (4, Value.pointer (some ⟨nb1, 0, none⟩)), (7, Value.pointer (some ⟨nb2, 0, none⟩)), (10, Value.int .i64 (1)), (11, Value.int .i64 (x39))]) ?_ ?_
              · refine V.seq ?_
                refine V.region ?_
                refine W.rd (X.move rfl) rfl rfl rfl ?_
                refine W.rd (X.cmp (!(decide (a1 = 128))) rfl rfl rfl rfl) rfl rfl rfl ?_
                refine W.nil ?_
                refine At.next ?_
                refine V.keep [(0, Value.slice (some ⟨eb36, eo37, none⟩) (a0).length sc0), (4, Value.pointer (some ⟨nb1, 0, none⟩)), (7, Value.pointer (some ⟨nb2, 0, none⟩)), (10, Value.int .i64 (1)), (11, Value.int .i64 (1)), (66, Value.bool (!(decide (a1 = 128))))] ⟨rfl, rfl, rfl, rfl, rfl, rfl, trivial⟩ ?_
                by_cases c68 : a1 = 128
                · replace H := ite_t c68 H
                  refine V.condF (sb (n_t (decide_eq_true c68))) ?_
                  refine V.skip ?_
                  exact At.meet (1) ⟨rfl, rfl, rfl, rfl, rfl, trivial⟩ ⟨HS, H⟩
                · replace H := ite_f c68 H
                  refine V.condT (sb (n_f (decide_eq_false c68))) ?_
                  refine V.region ?_
                  refine W.rd (X.assign rfl) rfl rfl rfl ?_
                  refine W.nil ?_
                  exact At.meet (2) ⟨rfl, rfl, rfl, rfl, rfl, trivial⟩ ⟨HS, H⟩
              · rintro x39 w ⟨HS, H⟩
                unfold signalmanref6_ReadCtl.j3 at H
                have HS : Sep.St [api_Ctl.at nb1 (({ Kind := 0, Ns := 0, Nr := 0, Poll := false } : api_Ctl)), api_Ctl.at nb2 (({ Kind := 0, Ns := 0, Nr := 0, Poll := false } : api_Ctl)), R] w0 w := HS
                refine V.seq ?_
                refine V.seq ?_
                refine V.region ?_
                refine W.rd (X.move rfl) rfl rfl rfl ?_
                refine W.rd (X.lenSl Try.underlying26 rfl) rfl rfl rfl ?_
                refine W.rd (X.move rfl) rfl rfl rfl ?_
                refine W.rd (X.mul rfl rfl) rfl rfl rfl ?_
                refine W.rd (X.cmp (decide (((a0).length : Int) < (w64 (2 * x39)))) rfl rfl rfl rfl) rfl rfl rfl ?_
                refine W.nil ?_
                refine At.next ?_
                refine V.keep [(0, Value.slice (some ⟨eb36, eo37, none⟩) (a0).length sc0), (4, Value.pointer (some ⟨nb1, 0, none⟩)), (7, Value.pointer (some ⟨nb2, 0, none⟩)), (10, Value.int .i64 (1)), (11, Value.int .i64 (x39)), (71, Value.bool (decide (((a0).length : Int) < (w64 (2 * x39)))))] ⟨rfl, rfl, rfl, rfl, rfl, rfl, trivial⟩ ?_
                by_cases c40 : ((a0).length : Int) < (w64 (2 * x39))
                · replace H := ite_t c40 H
                  refine V.condT (sb (decide_eq_true c40)) ?_
                  refine V.seq ?_
                  refine V.region ?_
                  replace HS := HS.front 1 rfl
                  have HS : Sep.St [api_Ctl.at nb2 (({ Kind := 0, Ns := 0, Nr := 0, Poll := false } : api_Ctl)), api_Ctl.at nb1 (({ Kind := 0, Ns := 0, Nr := 0, Poll := false } : api_Ctl)), R] w0 w := HS
                  obtain ⟨hi42, HS⟩ := api_Ctl.open HS
                  have HS : Sep.St [blk nb2 (#[Value.int .i64 ((({ Kind := 0, Ns := 0, Nr := 0, Poll := false } : api_Ctl)).Kind), Value.int .i64 ((({ Kind := 0, Ns := 0, Nr := 0, Poll := false } : api_Ctl)).Ns), Value.int .i64 ((({ Kind := 0, Ns := 0, Nr := 0, Poll := false } : api_Ctl)).Nr), Value.bool ((({ Kind := 0, Ns := 0, Nr := 0, Poll := false } : api_Ctl)).Poll)]) 23, api_Ctl.at nb1 (({ Kind := 0, Ns := 0, Nr := 0, Poll := false } : api_Ctl)), R] w0 w := HS
                  refine W.rd (X.loadSt 0 [Value.int .i64 ((({ Kind := 0, Ns := 0, Nr := 0, Poll := false } : api_Ctl)).Kind), Value.int .i64 ((({ Kind := 0, Ns := 0, Nr := 0, Poll := false } : api_Ctl)).Ns), Value.int .i64 ((({ Kind := 0, Ns := 0, Nr := 0, Poll := false } : api_Ctl)).Nr), Value.bool ((({ Kind := 0, Ns := 0, Nr := 0, Poll := false } : api_Ctl)).Poll)] HS rfl Try.underlying23 rfl inf23 rfl rfl) rfl rfl rfl ?_
                  replace HS := HS.front 1 rfl
                  have HS : Sep.St [api_Ctl.at nb1 (({ Kind := 0, Ns := 0, Nr := 0, Poll := false } : api_Ctl)), blk nb2 (#[Value.int .i64 ((({ Kind := 0, Ns := 0, Nr := 0, Poll := false } : api_Ctl)).Kind), Value.int .i64 ((({ Kind := 0, Ns := 0, Nr := 0, Poll := false } : api_Ctl)).Ns), Value.int .i64 ((({ Kind := 0, Ns := 0, Nr := 0, Poll := false } : api_Ctl)).Nr), Value.bool ((({ Kind := 0, Ns := 0, Nr := 0, Poll := false } : api_Ctl)).Poll)]) 23, R] w0 w := HS
                  obtain ⟨hi44, HS⟩ := api_Ctl.open HS
                  have HS : Sep.St [blk nb1 (#[Value.int .i64 ((({ Kind := 0, Ns := 0, Nr := 0, Poll := false } : api_Ctl)).Kind), Value.int .i64 ((({ Kind := 0, Ns := 0, Nr := 0, Poll := false } : api_Ctl)).Ns), Value.int .i64 ((({ Kind := 0, Ns := 0, Nr := 0, Poll := false } : api_Ctl)).Nr), Value.bool ((({ Kind := 0, Ns := 0, Nr := 0, Poll := false } : api_Ctl)).Poll)]) 23, blk nb2 (#[Value.int .i64 ((({ Kind := 0, Ns := 0, Nr := 0, Poll := false } : api_Ctl)).Kind), Value.int .i64 ((({ Kind := 0, Ns := 0, Nr := 0, Poll := false } : api_Ctl)).Ns), Value.int .i64 ((({ Kind := 0, Ns := 0, Nr := 0, Poll := false } : api_Ctl)).Nr), Value.bool ((({ Kind := 0, Ns := 0, Nr := 0, Poll := false } : api_Ctl)).Poll)]) 23, R] w0 w := HS
                  refine W.ev_none (Y.storeSt (c' := #[Value.int .i64 ((({ Kind := 0, Ns := 0, Nr := 0, Poll := false } : api_Ctl)).Kind), Value.int .i64 ((({ Kind := 0, Ns := 0, Nr := 0, Poll := false } : api_Ctl)).Ns), Value.int .i64 ((({ Kind := 0, Ns := 0, Nr := 0, Poll := false } : api_Ctl)).Nr), Value.bool ((({ Kind := 0, Ns := 0, Nr := 0, Poll := false } : api_Ctl)).Poll)]) 0 [Value.int .i64 ((({ Kind := 0, Ns := 0, Nr := 0, Poll := false } : api_Ctl)).Kind), Value.int .i64 ((({ Kind := 0, Ns := 0, Nr := 0, Poll := false } : api_Ctl)).Ns), Value.int .i64 ((({ Kind := 0, Ns := 0, Nr := 0, Poll := false } : api_Ctl)).Nr), Value.bool ((({ Kind := 0, Ns := 0, Nr := 0, Poll := false } : api_Ctl)).Poll)] HS rfl inf23 rfl rfl rfl rfl rfl rfl) rfl rfl ?_
                  rintro _ w HS
                  have HS : Sep.St [blk nb1 (#[Value.int .i64 ((({ Kind := 0, Ns := 0, Nr := 0, Poll := false } : api_Ctl)).Kind), Value.int .i64 ((({ Kind := 0, Ns := 0, Nr := 0, Poll := false } : api_Ctl)).Ns), Value.int .i64 ((({ Kind := 0, Ns := 0, Nr := 0, Poll := false } : api_Ctl)).Nr), Value.bool ((({ Kind := 0, Ns := 0, Nr := 0, Poll := false } : api_Ctl)).Poll)]) 23, blk nb2 (#[Value.int .i64 ((({ Kind := 0, Ns := 0, Nr := 0, Poll := false } : api_Ctl)).Kind), Value.int .i64 ((({ Kind := 0, Ns := 0, Nr := 0, Poll := false } : api_Ctl)).Ns), Value.int .i64 ((({ Kind := 0, Ns := 0, Nr := 0, Poll := false } : api_Ctl)).Nr), Value.bool ((({ Kind := 0, Ns := 0, Nr := 0, Poll := false } : api_Ctl)).Poll)]) 23, R] w0 w := HS
                  refine W.rd (X.assign rfl) rfl rfl rfl ?_
                  refine W.rd (X.assign rfl) rfl rfl rfl ?_
                  refine W.nil ?_
                  refine At.next ?_
                  refine V.keep [(4, Value.pointer (some ⟨nb1, 0, none⟩)), (5, Value.int .i64 (0)), (6, Value.int .i64 (3))] ⟨rfl, rfl, rfl, trivial⟩ ?_
                  refine V.ret ?_
                  refine At.thenRet ?_
                  have hv45 := run_loadSt (P := Try.prog) (p := 0) 0 [Value.int .i64 ((({ Kind := 0, Ns := 0, Nr := 0, Poll := false } : api_Ctl)).Kind), Value.int .i64 ((({ Kind := 0, Ns := 0, Nr := 0, Poll := false } : api_Ctl)).Ns), Value.int .i64 ((({ Kind := 0, Ns := 0, Nr := 0, Poll := false } : api_Ctl)).Nr), Value.bool ((({ Kind := 0, Ns := 0, Nr := 0, Poll := false } : api_Ctl)).Poll)] HS rfl Try.underlying23 rfl inf23 rfl
                  replace HS := HS.sel [2] [0, 1] rfl
                  cases H
                  exact At.retv3 rfl ⟨_, rfl, hv45⟩ rfl rfl ⟨_, rfl, rfl, HS⟩
                · replace H := ite_f c40 H
                  refine V.condF (sb (decide_eq_false c40)) ?_
                  refine V.skip ?_
                  refine At.next ?_
                  refine V.keep [(0, Value.slice (some ⟨eb36, eo37, none⟩) (a0).length sc0), (4, Value.pointer (some ⟨nb1, 0, none⟩)), (7, Value.pointer (some ⟨nb2, 0, none⟩)), (10, Value.int .i64 (1)), (11, Value.int .i64 (x39))] ⟨rfl, rfl, rfl, rfl, rfl, trivial⟩ ?_
                  refine V.seq ?_
                  refine V.region ?_
                  refine W.rd (X.move rfl) rfl rfl rfl ?_
                  refine W.rd (X.indexSl Try.underlying26 inf5 rfl rfl c35.1 c35.2) rfl rfl rfl ?_
                  refine W.rd (X.load Try.underlying5 rfl rfl (((rdC.at 2 hr0 HS rfl)).cellI c35.1 c35.2)) rfl rfl rfl ?_
                  refine W.rd (X.conv Try.underlying5 Try.underlying3 rfl) rfl rfl rfl ?_
                  refine W.rd (X.assign rfl) rfl rfl rfl ?_
                  refine W.nil ?_
                  refine At.next ?_
                  refine V.keep [(0, Value.slice (some ⟨eb36, eo37, none⟩) (a0).length sc0), (4, Value.pointer (some ⟨nb1, 0, none⟩)), (7, Value.pointer (some ⟨nb2, 0, none⟩)), (10, Value.int .i64 (1)), (11, Value.int .i64 (x39)), (12, Value.int .i64 (w64 ((a0).getD ((0 : Int)).toNat 0)))] ⟨rfl, rfl, rfl, rfl, rfl, rfl, trivial⟩ ?_
                  refine V.seq ?_
                  refine V.region ?_
                  refine W.rd (X.move rfl) rfl rfl rfl ?_
                  refine W.rd (X.move rfl) rfl rfl rfl ?_
                  obtain ⟨c46, H⟩ := ite_n H
                  refine W.rd (X.indexSl Try.underlying26 inf5 rfl rfl c46.1 c46.2) rfl rfl rfl ?_
                  refine W.rd (X.load Try.underlying5 rfl rfl (((rdC.at 2 hr0 HS rfl)).cellI c46.1 c46.2)) rfl rfl rfl ?_
                  refine W.rd (X.conv Try.underlying5 Try.underlying3 rfl) rfl rfl rfl ?_
                  refine W.rd (X.assign rfl) rfl rfl rfl ?_
                  refine W.nil ?_
                  refine At.next ?_
                  refine V.keep [(0, Value.slice (some ⟨eb36, eo37, none⟩) (a0).length sc0), (4, Value.pointer (some ⟨nb1, 0, none⟩)), (7, Value.pointer (some ⟨nb2, 0, none⟩)), (10, Value.int .i64 (1)), (11, Value.int .i64 (x39)), (12, Value.int .i64 (w64 ((a0).getD ((0 : Int)).toNat 0))), (13, Value.int .i64 (w64 ((a0).getD (x39).toNat 0)))] ⟨rfl, rfl, rfl, rfl, rfl, rfl, rfl, trivial⟩ ?_
                  refine V.meet (σ := Int × Int) (fun st w => match st with | (x47, x48) => Sep.St [api_Ctl.at nb1 (({ Kind := 0, Ns := 0, Nr := 0, Poll := false } : api_Ctl)), api_Ctl.at nb2 (({ Kind := 0, Ns := 0, Nr := 0, Poll := false } : api_Ctl)), R] w0 w ∧ signalmanref6_ReadCtl.j4 a0 x39 x47 x48 = some r) (fun st => match st with | (x47, x48) => [(0, Value.slice (some ⟨eb36, eo37, none⟩) (a0).length sc0), (4, Value.pointer (some ⟨nb1, 0, none⟩)), (7, Value.pointer (some ⟨nb2, 0, none⟩)), (10, Value.int .i64 (1)), (11, Value.int .i64 (x39)), (12, Value.int .i64 (x47)), (13, Value.int .i64 (x48))]) ?_ ?_
                  · refine V.seq ?_
                    refine V.region ?_
                    refine W.rd (X.move rfl) rfl rfl rfl ?_
                    refine W.rd (X.cmp (decide (x39 = 2)) rfl rfl rfl rfl) rfl rfl rfl ?_
                    refine W.nil ?_
                    refine At.next ?_
                    refine V.keep [(0, Value.slice (some ⟨eb36, eo37, none⟩) (a0).length sc0), (4, Value.pointer (some ⟨nb1, 0, none⟩)), (7, Value.pointer (some ⟨nb2, 0, none⟩)), (10, Value.int .i64 (1)), (11, Value.int .i64 (x39)), (12, Value.int .i64 (w64 ((a0).getD ((0 : Int)).toNat 0))), (13, Value.int .i64 (w64 ((a0).getD (x39).toNat 0))), (83, Value.bool (decide (x39 = 2)))] ⟨rfl, rfl, rfl, rfl, rfl, rfl, rfl, rfl, trivial⟩ ?_
                    by_cases c65 : x39 = 2
                    · replace H := ite_t c65 H
                      refine V.condT (sb (decide_eq_true c65)) ?_
                      refine V.seq ?_
                      refine V.region ?_
                      refine W.rd (X.move rfl) rfl rfl rfl ?_
                      refine W.rd (X.move rfl) rfl rfl rfl ?_
                      obtain ⟨c66, H⟩ := ite_n H
                      refine W.rd (X.indexSl Try.underlying26 inf5 rfl rfl c66.1 c66.2) rfl rfl rfl ?_
                      refine W.rd (X.load Try.underlying5 rfl rfl (((rdC.at 2 hr0 HS rfl)).cellI c66.1 c66.2)) rfl rfl rfl ?_
                      refine W.rd (X.conv Try.underlying5 Try.underlying3 rfl) rfl rfl rfl ?_
                      refine W.rd (X.mul rfl rfl) rfl rfl rfl ?_
                      refine W.rd (X.add rfl rfl) rfl rfl rfl ?_
                      refine W.rd (X.assign rfl) rfl rfl rfl ?_
                      refine W.nil ?_
                      refine At.next ?_
                      refine V.keep [(0, Value.slice (some ⟨eb36, eo37, none⟩) (a0).length sc0), (4, Value.pointer (some ⟨nb1, 0, none⟩)), (7, Value.pointer (some ⟨nb2, 0, none⟩)), (10, Value.int .i64 (1)), (11, Value.int .i64 (x39)), (12, Value.int .i64 (w64 ((w64 ((a0).getD ((0 : Int)).toNat 0)) + (w64 (256 * (w64 ((a0).getD ((1 : Int)).toNat 0))))))), (13, Value.int .i64 (w64 ((a0).getD (x39).toNat 0)))] ⟨rfl, rfl, rfl, rfl, rfl, rfl, rfl, trivial⟩ ?_
                      refine V.region ?_
                      refine W.rd (X.move rfl) rfl rfl rfl ?_
                      refine W.rd (X.move rfl) rfl rfl rfl ?_
                      obtain ⟨c67, H⟩ := ite_n H
                      refine W.rd (X.indexSl Try.underlying26 inf5 rfl rfl c67.1 c67.2) rfl rfl rfl ?_
                      refine W.rd (X.load Try.underlying5 rfl rfl (((rdC.at 2 hr0 HS rfl)).cellI c67.1 c67.2)) rfl rfl rfl ?_
                      refine W.rd (X.conv Try.underlying5 Try.underlying3 rfl) rfl rfl rfl ?_
                      refine W.rd (X.mul rfl rfl) rfl rfl rfl ?_
                      refine W.rd (X.add rfl rfl) rfl rfl rfl ?_
                      refine W.rd (X.assign rfl) rfl rfl rfl ?_
                      refine W.nil ?_
                      exact At.meet (w64 ((w64 ((a0).getD ((0 : Int)).toNat 0)) + (w64 (256 * (w64 ((a0).getD ((1 : Int)).toNat 0))))), w64 ((w64 ((a0).getD (x39).toNat 0)) + (w64 (256 * (w64 ((a0).getD ((3 : Int)).toNat 0)))))) ⟨rfl, rfl, rfl, rfl, rfl, rfl, rfl, trivial⟩ ⟨HS, H⟩
                    · replace H := ite_f c65 H
                      refine V.condF (sb (decide_eq_false c65)) ?_
                      refine V.skip ?_
                      exact At.meet (w64 ((a0).getD ((0 : Int)).toNat 0), w64 ((a0).getD (x39).toNat 0)) ⟨rfl, rfl, rfl, rfl, rfl, rfl, rfl, trivial⟩ ⟨HS, H⟩
                  · rintro ⟨x47, x48⟩ w ⟨HS, H⟩
                    unfold signalmanref6_ReadCtl.j4 at H
                    have HS : Sep.St [api_Ctl.at nb1 (({ Kind := 0, Ns := 0, Nr := 0, Poll := false } : api_Ctl)), api_Ctl.at nb2 (({ Kind := 0, Ns := 0, Nr := 0, Poll := false } : api_Ctl)), R] w0 w := HS
                    refine V.seq ?_
                    refine V.region ?_
                    refine W.rd (X.move rfl) rfl rfl rfl ?_
                    refine W.rd (X.move rfl) rfl rfl rfl ?_
                    refine W.rd (X.quo rfl rfl (by decide)) rfl rfl rfl ?_
                    refine W.rd (X.move rfl) rfl rfl rfl ?_
                    refine W.rd (X.rem rfl rfl (by decide)) rfl rfl rfl ?_
                    refine W.rd (X.cmp (decide (((x48).tmod (2)) = 1)) rfl rfl rfl rfl) rfl rfl rfl ?_
                    refine W.rd (X.build (vs := #[(0, Value.int .i64 (1)), (2, Value.int .i64 (w64 ((x48).tdiv (2)))), (3, Value.bool (decide (((x48).tmod (2)) = 1)))]) (v := Value.agg #[Value.int .i64 (1), Value.int .i64 (0), Value.int .i64 (w64 ((x48).tdiv (2))), Value.bool (decide (((x48).tmod (2)) = 1))]) (fun a ha => by simp only [List.map_toArray, List.map_cons, List.map_nil]; rw [ha.ev (x := .tmp 98) (v := Value.int .i64 (1)) rfl]; rw [ha.ev (x := .tmp 100) (v := Value.int .i64 (w64 ((x48).tdiv (2)))) rfl]; rw [ha.ev (x := .tmp 103) (v := Value.bool (decide (((x48).tmod (2)) = 1))) rfl]; try rfl) (fun _ => by kernel_rfl)) rfl rfl rfl ?_
                    refine W.ev (Y.alloc (z := Value.agg (#[Value.int .i64 (0), Value.int .i64 (0), Value.int .i64 (0), Value.bool (false)])) HS ze23) rfl rfl rfl ?_
                    rintro _ w ⟨nb49, rfl, HS⟩
                    have HS : Sep.St [blk nb49 (#[Value.int .i64 (0), Value.int .i64 (0), Value.int .i64 (0), Value.bool (false)]) 23, api_Ctl.at nb1 (({ Kind := 0, Ns := 0, Nr := 0, Poll := false } : api_Ctl)), api_Ctl.at nb2 (({ Kind := 0, Ns := 0, Nr := 0, Poll := false } : api_Ctl)), R] w0 w := HS
                    refine W.ev_none (Y.storeSt (c' := #[Value.int .i64 (1), Value.int .i64 (0), Value.int .i64 (w64 ((x48).tdiv (2))), Value.bool (decide (((x48).tmod (2)) = 1))]) 0 [Value.int .i64 (1), Value.int .i64 (0), Value.int .i64 (w64 ((x48).tdiv (2))), Value.bool (decide (((x48).tmod (2)) = 1))] HS rfl inf23 rfl rfl rfl rfl rfl rfl) rfl rfl ?_
                    rintro _ w HS
                    have HS : Sep.St [blk nb49 (#[Value.int .i64 (1), Value.int .i64 (0), Value.int .i64 (w64 ((x48).tdiv (2))), Value.bool (decide (((x48).tmod (2)) = 1))]) 23, api_Ctl.at nb1 (({ Kind := 0, Ns := 0, Nr := 0, Poll := false } : api_Ctl)), api_Ctl.at nb2 (({ Kind := 0, Ns := 0, Nr := 0, Poll := false } : api_Ctl)), R] w0 w := HS
                    refine W.nil ?_
                    refine At.next ?_
                    refine V.keep [(0, Value.slice (some ⟨eb36, eo37, none⟩) (a0).length sc0), (4, Value.pointer (some ⟨nb1, 0, none⟩)), (7, Value.pointer (some ⟨nb2, 0, none⟩)), (10, Value.int .i64 (1)), (11, Value.int .i64 (x39)), (12, Value.int .i64 (x47)), (14, Value.pointer (some ⟨nb49, 0, none⟩))] ⟨rfl, rfl, rfl, rfl, rfl, rfl, rfl, trivial⟩ ?_
                    refine V.seq ?_
                    refine V.seq ?_
                    refine V.region ?_
                    refine W.rd (X.move rfl) rfl rfl rfl ?_
                    refine W.rd (X.cmp false (by decide) rfl rfl rfl) rfl rfl rfl ?_
                    refine W.nil ?_
                    refine At.next ?_
                    refine V.keep [(0, Value.slice (some ⟨eb36, eo37, none⟩) (a0).length sc0), (4, Value.pointer (some ⟨nb1, 0, none⟩)), (7, Value.pointer (some ⟨nb2, 0, none⟩)), (11, Value.int .i64 (x39)), (12, Value.int .i64 (x47)), (14, Value.pointer (some ⟨nb49, 0, none⟩)), (106, Value.bool (false))] ⟨rfl, rfl, rfl, rfl, rfl, rfl, rfl, trivial⟩ ?_
                    refine V.condF rfl ?_
                    refine V.meet (σ := Bool) (fun st w => match st with | x51 => Sep.St [api_Ctl.at nb49 (({ Kind := 1, Ns := 0, Nr := w64 ((x48).tdiv (2)), Poll := decide (((x48).tmod (2)) = 1) } : api_Ctl)), api_Ctl.at nb1 (({ Kind := 0, Ns := 0, Nr := 0, Poll := false } : api_Ctl)), api_Ctl.at nb2 (({ Kind := 0, Ns := 0, Nr := 0, Poll := false } : api_Ctl)), R] w0 w ∧ signalmanref6_ReadCtl.j5 x39 x48 x51 = some r) (fun st => match st with | x51 => [(4, Value.pointer (some ⟨nb1, 0, none⟩)), (7, Value.pointer (some ⟨nb2, 0, none⟩)), (11, Value.int .i64 (x39)), (14, Value.pointer (some ⟨nb49, 0, none⟩)), (117, Value.bool (x51))]) ?_ ?_
                    · refine V.region ?_
                      refine W.rd (X.move rfl) rfl rfl rfl ?_
                      refine W.rd (X.cmp (decide (x39 = 2)) rfl rfl rfl rfl) rfl rfl rfl ?_
                      refine W.rd (X.move rfl) rfl rfl rfl ?_
                      by_cases c63 : x39 = 2
                      · replace H := ite_t c63 H
                        refine W.want 112 rfl (sb (decide_eq_true c63)) ?_
                        refine W.rd (X.move rfl) rfl rfl rfl ?_
                        refine W.want 112 rfl (sb (decide_eq_true c63)) ?_
                        obtain ⟨c64, H⟩ := ite_n H
                        refine W.rd (X.indexSl Try.underlying26 inf5 rfl rfl c64.1 c64.2) rfl rfl rfl ?_
                        refine W.want 112 rfl (sb (decide_eq_true c63)) ?_
                        refine W.rd (X.load Try.underlying5 rfl rfl (((rdC.at 3 hr0 HS rfl)).cellI c64.1 c64.2)) rfl rfl rfl ?_
                        refine W.want 112 rfl (sb (decide_eq_true c63)) ?_
                        refine W.rd (X.cmp (!(decide (((a0).getD ((1 : Int)).toNat 0) = 0))) rfl rfl rfl rfl) rfl rfl rfl ?_
                        refine W.rd (X.pickT (sb (decide_eq_true c63)) rfl) rfl rfl rfl ?_
                        refine W.nil ?_
                        replace HS := api_Ctl.close (({ Kind := 1, Ns := 0, Nr := w64 ((x48).tdiv (2)), Poll := decide (((x48).tmod (2)) = 1) } : api_Ctl)) trivial HS
                        have HS : Sep.St [api_Ctl.at nb49 (({ Kind := 1, Ns := 0, Nr := w64 ((x48).tdiv (2)), Poll := decide (((x48).tmod (2)) = 1) } : api_Ctl)), api_Ctl.at nb1 (({ Kind := 0, Ns := 0, Nr := 0, Poll := false } : api_Ctl)), api_Ctl.at nb2 (({ Kind := 0, Ns := 0, Nr := 0, Poll := false } : api_Ctl)), R] w0 w := HS
                        exact At.meet (!(decide (((a0).getD ((1 : Int)).toNat 0) = 0))) ⟨rfl, rfl, rfl, rfl, rfl, trivial⟩ ⟨HS, H⟩
                      · replace H := ite_f c63 H
                        refine W.pass 112 rfl (sb (decide_eq_false c63)) rfl rfl ?_
                        refine W.pass 112 rfl (sb (decide_eq_false c63)) rfl rfl ?_
                        refine W.pass 112 rfl (sb (decide_eq_false c63)) rfl rfl ?_
                        refine W.pass 112 rfl (sb (decide_eq_false c63)) rfl rfl ?_
                        refine W.rd (X.pickF (sb (decide_eq_false c63)) rfl) rfl rfl rfl ?_
                        refine W.nil ?_
                        replace HS := api_Ctl.close (({ Kind := 1, Ns := 0, Nr := w64 ((x48).tdiv (2)), Poll := decide (((x48).tmod (2)) = 1) } : api_Ctl)) trivial HS
                        have HS : Sep.St [api_Ctl.at nb49 (({ Kind := 1, Ns := 0, Nr := w64 ((x48).tdiv (2)), Poll := decide (((x48).tmod (2)) = 1) } : api_Ctl)), api_Ctl.at nb1 (({ Kind := 0, Ns := 0, Nr := 0, Poll := false } : api_Ctl)), api_Ctl.at nb2 (({ Kind := 0, Ns := 0, Nr := 0, Poll := false } : api_Ctl)), R] w0 w := HS
                        exact At.meet (false) ⟨rfl, rfl, rfl, rfl, rfl, trivial⟩ ⟨HS, H⟩
                    · rintro x51 w ⟨HS, H⟩
                      unfold signalmanref6_ReadCtl.j5 at H
                      have HS : Sep.St [api_Ctl.at nb49 (({ Kind := 1, Ns := 0, Nr := w64 ((x48).tdiv (2)), Poll := decide (((x48).tmod (2)) = 1) } : api_Ctl)), api_Ctl.at nb1 (({ Kind := 0, Ns := 0, Nr := 0, Poll := false } : api_Ctl)), api_Ctl.at nb2 (({ Kind := 0, Ns := 0, Nr := 0, Poll := false } : api_Ctl)), R] w0 w := HS
                      by_cases c52 : x51 = true
                      · replace H := ite_t c52 H
                        refine V.condT (sb c52) ?_
                        refine V.seq ?_
                        refine V.region ?_
                        replace HS := HS.front 2 rfl
                        have HS : Sep.St [api_Ctl.at nb2 (({ Kind := 0, Ns := 0, Nr := 0, Poll := false } : api_Ctl)), api_Ctl.at nb49 (({ Kind := 1, Ns := 0, Nr := w64 ((x48).tdiv (2)), Poll := decide (((x48).tmod (2)) = 1) } : api_Ctl)), api_Ctl.at nb1 (({ Kind := 0, Ns := 0, Nr := 0, Poll := false } : api_Ctl)), R] w0 w := HS
                        obtain ⟨hi54, HS⟩ := api_Ctl.open HS
                        have HS : Sep.St [blk nb2 (#[Value.int .i64 ((({ Kind := 0, Ns := 0, Nr := 0, Poll := false } : api_Ctl)).Kind), Value.int .i64 ((({ Kind := 0, Ns := 0, Nr := 0, Poll := false } : api_Ctl)).Ns), Value.int .i64 ((({ Kind := 0, Ns := 0, Nr := 0, Poll := false } : api_Ctl)).Nr), Value.bool ((({ Kind := 0, Ns := 0, Nr := 0, Poll := false } : api_Ctl)).Poll)]) 23, api_Ctl.at nb49 (({ Kind := 1, Ns := 0, Nr := w64 ((x48).tdiv (2)), Poll := decide (((x48).tmod (2)) = 1) } : api_Ctl)), api_Ctl.at nb1 (({ Kind := 0, Ns := 0, Nr := 0, Poll := false } : api_Ctl)), R] w0 w := HS
                        refine W.rd (X.loadSt 0 [Value.int .i64 ((({ Kind := 0, Ns := 0, Nr := 0, Poll := false } : api_Ctl)).Kind), Value.int .i64 ((({ Kind := 0, Ns := 0, Nr := 0, Poll := false } : api_Ctl)).Ns), Value.int .i64 ((({ Kind := 0, Ns := 0, Nr := 0, Poll := false } : api_Ctl)).Nr), Value.bool ((({ Kind := 0, Ns := 0, Nr := 0, Poll := false } : api_Ctl)).Poll)] HS rfl Try.underlying23 rfl inf23 rfl rfl) rfl rfl rfl ?_
                        replace HS := HS.front 2 rfl
                        have HS : Sep.St [api_Ctl.at nb1 (({ Kind := 0, Ns := 0, Nr := 0, Poll := false } : api_Ctl)), blk nb2 (#[Value.int .i64 ((({ Kind := 0, Ns := 0, Nr := 0, Poll := false } : api_Ctl)).Kind), Value.int .i64 ((({ Kind := 0, Ns := 0, Nr := 0, Poll := false } : api_Ctl)).Ns), Value.int .i64 ((({ Kind := 0, Ns := 0, Nr := 0, Poll := false } : api_Ctl)).Nr), Value.bool ((({ Kind := 0, Ns := 0, Nr := 0, Poll := false } : api_Ctl)).Poll)]) 23, api_Ctl.at nb49 (({ Kind := 1, Ns := 0, Nr := w64 ((x48).tdiv (2)), Poll := decide (((x48).tmod (2)) = 1) } : api_Ctl)), R] w0 w := HS
                        obtain ⟨hi56, HS⟩ := api_Ctl.open HS
                        have HS : Sep.St [blk nb1 (#[Value.int .i64 ((({ Kind := 0, Ns := 0, Nr := 0, Poll := false } : api_Ctl)).Kind), Value.int .i64 ((({ Kind := 0, Ns := 0, Nr := 0, Poll := false } : api_Ctl)).Ns), Value.int .i64 ((({ Kind := 0, Ns := 0, Nr := 0, Poll := false } : api_Ctl)).Nr), Value.bool ((({ Kind := 0, Ns := 0, Nr := 0, Poll := false } : api_Ctl)).Poll)]) 23, blk nb2 (#[Value.int .i64 ((({ Kind := 0, Ns := 0, Nr := 0, Poll := false } : api_Ctl)).Kind), Value.int .i64 ((({ Kind := 0, Ns := 0, Nr := 0, Poll := false } : api_Ctl)).Ns), Value.int .i64 ((({ Kind := 0, Ns := 0, Nr := 0, Poll := false } : api_Ctl)).Nr), Value.bool ((({ Kind := 0, Ns := 0, Nr := 0, Poll := false } : api_Ctl)).Poll)]) 23, api_Ctl.at nb49 (({ Kind := 1, Ns := 0, Nr := w64 ((x48).tdiv (2)), Poll := decide (((x48).tmod (2)) = 1) } : api_Ctl)), R] w0 w := HS
                        refine W.ev_none (Y.storeSt (c' := #[Value.int .i64 ((({ Kind := 0, Ns := 0, Nr := 0, Poll := false } : api_Ctl)).Kind), Value.int .i64 ((({ Kind := 0, Ns := 0, Nr := 0, Poll := false } : api_Ctl)).Ns), Value.int .i64 ((({ Kind := 0, Ns := 0, Nr := 0, Poll := false } : api_Ctl)).Nr), Value.bool ((({ Kind := 0, Ns := 0, Nr := 0, Poll := false } : api_Ctl)).Poll)]) 0 [Value.int .i64 ((({ Kind := 0, Ns := 0, Nr := 0, Poll := false } : api_Ctl)).Kind), Value.int .i64 ((({ Kind := 0, Ns := 0, Nr := 0, Poll := false } : api_Ctl)).Ns), Value.int .i64 ((({ Kind := 0, Ns := 0, Nr := 0, Poll := false } : api_Ctl)).Nr), Value.bool ((({ Kind := 0, Ns := 0, Nr := 0, Poll := false } : api_Ctl)).Poll)] HS rfl inf23 rfl rfl rfl rfl rfl rfl) rfl rfl ?_
                        rintro _ w HS
                        have HS : Sep.St [blk nb1 (#[Value.int .i64 ((({ Kind := 0, Ns := 0, Nr := 0, Poll := false } : api_Ctl)).Kind), Value.int .i64 ((({ Kind := 0, Ns := 0, Nr := 0, Poll := false } : api_Ctl)).Ns), Value.int .i64 ((({ Kind := 0, Ns := 0, Nr := 0, Poll := false } : api_Ctl)).Nr), Value.bool ((({ Kind := 0, Ns := 0, Nr := 0, Poll := false } : api_Ctl)).Poll)]) 23, blk nb2 (#[Value.int .i64 ((({ Kind := 0, Ns := 0, Nr := 0, Poll := false } : api_Ctl)).Kind), Value.int .i64 ((({ Kind := 0, Ns := 0, Nr := 0, Poll := false } : api_Ctl)).Ns), Value.int .i64 ((({ Kind := 0, Ns := 0, Nr := 0, Poll := false } : api_Ctl)).Nr), Value.bool ((({ Kind := 0, Ns := 0, Nr := 0, Poll := false } : api_Ctl)).Poll)]) 23, api_Ctl.at nb49 (({ Kind := 1, Ns := 0, Nr := w64 ((x48).tdiv (2)), Poll := decide (((x48).tmod (2)) = 1) } : api_Ctl)), R] w0 w := HS
                        refine W.rd (X.assign rfl) rfl rfl rfl ?_
                        refine W.rd (X.assign rfl) rfl rfl rfl ?_
                        refine W.nil ?_
                        refine At.next ?_
                        refine V.keep [(4, Value.pointer (some ⟨nb1, 0, none⟩)), (5, Value.int .i64 (0)), (6, Value.int .i64 (2))] ⟨rfl, rfl, rfl, trivial⟩ ?_
                        refine V.ret ?_
                        refine At.thenRet ?_
                        have hv57 := run_loadSt (P := Try.prog) (p := 0) 0 [Value.int .i64 ((({ Kind := 0, Ns := 0, Nr := 0, Poll := false } : api_Ctl)).Kind), Value.int .i64 ((({ Kind := 0, Ns := 0, Nr := 0, Poll := false } : api_Ctl)).Ns), Value.int .i64 ((({ Kind := 0, Ns := 0, Nr := 0, Poll := false } : api_Ctl)).Nr), Value.bool ((({ Kind := 0, Ns := 0, Nr := 0, Poll := false } : api_Ctl)).Poll)] HS rfl Try.underlying23 rfl inf23 rfl
                        replace HS := HS.sel [3] [0, 1, 2] rfl
                        cases H
                        exact At.retv3 rfl ⟨_, rfl, hv57⟩ rfl rfl ⟨_, rfl, rfl, HS⟩
                      · replace H := ite_f c52 H
                        refine V.condF (sb (b_f c52)) ?_
                        refine V.skip ?_
                        refine At.next ?_
                        refine V.keep [(4, Value.pointer (some ⟨nb1, 0, none⟩)), (11, Value.int .i64 (x39)), (14, Value.pointer (some ⟨nb49, 0, none⟩))] ⟨rfl, rfl, rfl, trivial⟩ ?_
                        refine V.seq ?_
                        refine V.region ?_
                        obtain ⟨hi59, HS⟩ := api_Ctl.open HS
                        have HS : Sep.St [blk nb49 (#[Value.int .i64 ((({ Kind := 1, Ns := 0, Nr := w64 ((x48).tdiv (2)), Poll := decide (((x48).tmod (2)) = 1) } : api_Ctl)).Kind), Value.int .i64 ((({ Kind := 1, Ns := 0, Nr := w64 ((x48).tdiv (2)), Poll := decide (((x48).tmod (2)) = 1) } : api_Ctl)).Ns), Value.int .i64 ((({ Kind := 1, Ns := 0, Nr := w64 ((x48).tdiv (2)), Poll := decide (((x48).tmod (2)) = 1) } : api_Ctl)).Nr), Value.bool ((({ Kind := 1, Ns := 0, Nr := w64 ((x48).tdiv (2)), Poll := decide (((x48).tmod (2)) = 1) } : api_Ctl)).Poll)]) 23, api_Ctl.at nb1 (({ Kind := 0, Ns := 0, Nr := 0, Poll := false } : api_Ctl)), api_Ctl.at nb2 (({ Kind := 0, Ns := 0, Nr := 0, Poll := false } : api_Ctl)), R] w0 w := HS
                        refine W.rd (X.loadSt 0 [Value.int .i64 ((({ Kind := 1, Ns := 0, Nr := w64 ((x48).tdiv (2)), Poll := decide (((x48).tmod (2)) = 1) } : api_Ctl)).Kind), Value.int .i64 ((({ Kind := 1, Ns := 0, Nr := w64 ((x48).tdiv (2)), Poll := decide (((x48).tmod (2)) = 1) } : api_Ctl)).Ns), Value.int .i64 ((({ Kind := 1, Ns := 0, Nr := w64 ((x48).tdiv (2)), Poll := decide (((x48).tmod (2)) = 1) } : api_Ctl)).Nr), Value.bool ((({ Kind := 1, Ns := 0, Nr := w64 ((x48).tdiv (2)), Poll := decide (((x48).tmod (2)) = 1) } : api_Ctl)).Poll)] HS rfl Try.underlying23 rfl inf23 rfl rfl) rfl rfl rfl ?_
                        refine W.rd (X.move rfl) rfl rfl rfl ?_
                        refine W.rd (X.mul rfl rfl) rfl rfl rfl ?_
                        replace HS := HS.front 1 rfl
                        have HS : Sep.St [api_Ctl.at nb1 (({ Kind := 0, Ns := 0, Nr := 0, Poll := false } : api_Ctl)), blk nb49 (#[Value.int .i64 ((({ Kind := 1, Ns := 0, Nr := w64 ((x48).tdiv (2)), Poll := decide (((x48).tmod (2)) = 1) } : api_Ctl)).Kind), Value.int .i64 ((({ Kind := 1, Ns := 0, Nr := w64 ((x48).tdiv (2)), Poll := decide (((x48).tmod (2)) = 1) } : api_Ctl)).Ns), Value.int .i64 ((({ Kind := 1, Ns := 0, Nr := w64 ((x48).tdiv (2)), Poll := decide (((x48).tmod (2)) = 1) } : api_Ctl)).Nr), Value.bool ((({ Kind := 1, Ns := 0, Nr := w64 ((x48).tdiv (2)), Poll := decide (((x48).tmod (2)) = 1) } : api_Ctl)).Poll)]) 23, api_Ctl.at nb2 (({ Kind := 0, Ns := 0, Nr := 0, Poll := false } : api_Ctl)), R] w0 w := HS
                        obtain ⟨hi61, HS⟩ := api_Ctl.open HS
                        have HS : Sep.St [blk nb1 (#[Value.int .i64 ((({ Kind := 0, Ns := 0, Nr := 0, Poll := false } : api_Ctl)).Kind), Value.int .i64 ((({ Kind := 0, Ns := 0, Nr := 0, Poll := false } : api_Ctl)).Ns), Value.int .i64 ((({ Kind := 0, Ns := 0, Nr := 0, Poll := false } : api_Ctl)).Nr), Value.bool ((({ Kind := 0, Ns := 0, Nr := 0, Poll := false } : api_Ctl)).Poll)]) 23, blk nb49 (#[Value.int .i64 ((({ Kind := 1, Ns := 0, Nr := w64 ((x48).tdiv (2)), Poll := decide (((x48).tmod (2)) = 1) } : api_Ctl)).Kind), Value.int .i64 ((({ Kind := 1, Ns := 0, Nr := w64 ((x48).tdiv (2)), Poll := decide (((x48).tmod (2)) = 1) } : api_Ctl)).Ns), Value.int .i64 ((({ Kind := 1, Ns := 0, Nr := w64 ((x48).tdiv (2)), Poll := decide (((x48).tmod (2)) = 1) } : api_Ctl)).Nr), Value.bool ((({ Kind := 1, Ns := 0, Nr := w64 ((x48).tdiv (2)), Poll := decide (((x48).tmod (2)) = 1) } : api_Ctl)).Poll)]) 23, api_Ctl.at nb2 (({ Kind := 0, Ns := 0, Nr := 0, Poll := false } : api_Ctl)), R] w0 w := HS
                        refine W.ev_none (Y.storeSt (c' := #[Value.int .i64 ((({ Kind := 1, Ns := 0, Nr := w64 ((x48).tdiv (2)), Poll := decide (((x48).tmod (2)) = 1) } : api_Ctl)).Kind), Value.int .i64 ((({ Kind := 1, Ns := 0, Nr := w64 ((x48).tdiv (2)), Poll := decide (((x48).tmod (2)) = 1) } : api_Ctl)).Ns), Value.int .i64 ((({ Kind := 1, Ns := 0, Nr := w64 ((x48).tdiv (2)), Poll := decide (((x48).tmod (2)) = 1) } : api_Ctl)).Nr), Value.bool ((({ Kind := 1, Ns := 0, Nr := w64 ((x48).tdiv (2)), Poll := decide (((x48).tmod (2)) = 1) } : api_Ctl)).Poll)]) 0 [Value.int .i64 ((({ Kind := 1, Ns := 0, Nr := w64 ((x48).tdiv (2)), Poll := decide (((x48).tmod (2)) = 1) } : api_Ctl)).Kind), Value.int .i64 ((({ Kind := 1, Ns := 0, Nr := w64 ((x48).tdiv (2)), Poll := decide (((x48).tmod (2)) = 1) } : api_Ctl)).Ns), Value.int .i64 ((({ Kind := 1, Ns := 0, Nr := w64 ((x48).tdiv (2)), Poll := decide (((x48).tmod (2)) = 1) } : api_Ctl)).Nr), Value.bool ((({ Kind := 1, Ns := 0, Nr := w64 ((x48).tdiv (2)), Poll := decide (((x48).tmod (2)) = 1) } : api_Ctl)).Poll)] HS rfl inf23 rfl rfl rfl rfl rfl rfl) rfl rfl ?_
                        rintro _ w HS
                        have HS : Sep.St [blk nb1 (#[Value.int .i64 ((({ Kind := 1, Ns := 0, Nr := w64 ((x48).tdiv (2)), Poll := decide (((x48).tmod (2)) = 1) } : api_Ctl)).Kind), Value.int .i64 ((({ Kind := 1, Ns := 0, Nr := w64 ((x48).tdiv (2)), Poll := decide (((x48).tmod (2)) = 1) } : api_Ctl)).Ns), Value.int .i64 ((({ Kind := 1, Ns := 0, Nr := w64 ((x48).tdiv (2)), Poll := decide (((x48).tmod (2)) = 1) } : api_Ctl)).Nr), Value.bool ((({ Kind := 1, Ns := 0, Nr := w64 ((x48).tdiv (2)), Poll := decide (((x48).tmod (2)) = 1) } : api_Ctl)).Poll)]) 23, blk nb49 (#[Value.int .i64 ((({ Kind := 1, Ns := 0, Nr := w64 ((x48).tdiv (2)), Poll := decide (((x48).tmod (2)) = 1) } : api_Ctl)).Kind), Value.int .i64 ((({ Kind := 1, Ns := 0, Nr := w64 ((x48).tdiv (2)), Poll := decide (((x48).tmod (2)) = 1) } : api_Ctl)).Ns), Value.int .i64 ((({ Kind := 1, Ns := 0, Nr := w64 ((x48).tdiv (2)), Poll := decide (((x48).tmod (2)) = 1) } : api_Ctl)).Nr), Value.bool ((({ Kind := 1, Ns := 0, Nr := w64 ((x48).tdiv (2)), Poll := decide (((x48).tmod (2)) = 1) } : api_Ctl)).Poll)]) 23, api_Ctl.at nb2 (({ Kind := 0, Ns := 0, Nr := 0, Poll := false } : api_Ctl)), R] w0 w := HS
                        refine W.rd (X.assign rfl) rfl rfl rfl ?_
                        refine W.rd (X.assign rfl) rfl rfl rfl ?_
                        refine W.nil ?_
                        refine At.next ?_
                        refine V.keep [(4, Value.pointer (some ⟨nb1, 0, none⟩)), (5, Value.int .i64 (w64 (2 * x39))), (6, Value.int .i64 (0))] ⟨rfl, rfl, rfl, trivial⟩ ?_
                        refine V.ret ?_
                        have hv62 := run_loadSt (P := Try.prog) (p := 0) 0 [Value.int .i64 ((({ Kind := 1, Ns := 0, Nr := w64 ((x48).tdiv (2)), Poll := decide (((x48).tmod (2)) = 1) } : api_Ctl)).Kind), Value.int .i64 ((({ Kind := 1, Ns := 0, Nr := w64 ((x48).tdiv (2)), Poll := decide (((x48).tmod (2)) = 1) } : api_Ctl)).Ns), Value.int .i64 ((({ Kind := 1, Ns := 0, Nr := w64 ((x48).tdiv (2)), Poll := decide (((x48).tmod (2)) = 1) } : api_Ctl)).Nr), Value.bool ((({ Kind := 1, Ns := 0, Nr := w64 ((x48).tdiv (2)), Poll := decide (((x48).tmod (2)) = 1) } : api_Ctl)).Poll)] HS rfl Try.underlying23 rfl inf23 rfl
                        replace HS := HS.sel [3] [0, 1, 2] rfl
                        cases H
                        exact At.retv3 rfl ⟨_, rfl, hv62⟩ rfl rfl ⟨_, rfl, rfl, HS⟩
            · replace H := ite_f c38 H
              refine V.condF (sb (decide_eq_false c38)) ?_
              refine V.seq ?_
              refine V.region ?_
              refine W.rd (X.move rfl) rfl rfl rfl ?_
              refine W.rd (X.indexSl Try.underlying26 inf5 rfl rfl c35.1 c35.2) rfl rfl rfl ?_
              refine W.rd (X.load Try.underlying5 rfl rfl (((rdC.at 2 hr0 HS rfl)).cellI c35.1 c35.2)) rfl rfl rfl ?_
              refine W.rd (X.cmp (decide (((a0).getD ((0 : Int)).toNat 0) = 9)) rfl rfl rfl rfl) rfl rfl rfl ?_
              refine W.rd (X.assign rfl) rfl rfl rfl ?_
              refine W.nil ?_
              refine At.next ?_
              refine V.keep [(0, Value.slice (some ⟨eb36, eo37, none⟩) (a0).length sc0), (1, Value.int .i64 (a1)), (4, Value.pointer (some ⟨nb1, 0, none⟩)), (7, Value.pointer (some ⟨nb2, 0, none⟩)), (10, Value.int .i64 (0)), (53, Value.bool (decide (((a0).getD ((0 : Int)).toNat 0) = 9)))] ⟨rfl, rfl, rfl, rfl, rfl, rfl, trivial⟩ ?_
              by_cases c69 : ((a0).getD ((0 : Int)).toNat 0) = 9
              · replace H := ite_t c69 H
                refine V.condT (sb (decide_eq_true c69)) ?_
                refine V.region ?_
                refine W.rd (X.assign rfl) rfl rfl rfl ?_
                refine W.nil ?_
                refine At.blockEnd ?_
                refine At.next ?_
                refine V.keep [(0, Value.slice (some ⟨eb36, eo37, none⟩) (a0).length sc0), (1, Value.int .i64 (a1)), (4, Value.pointer (some ⟨nb1, 0, none⟩)), (7, Value.pointer (some ⟨nb2, 0, none⟩)), (10, Value.int .i64 (2))] ⟨rfl, rfl, rfl, rfl, rfl, trivial⟩ ?_
                refine V.seq ?_
                refine V.region ?_
                refine W.rd (X.assign rfl) rfl rfl rfl ?_
                refine W.nil ?_
                refine At.next ?_
                refine V.keep [(0, Value.slice (some ⟨eb36, eo37, none⟩) (a0).length sc0), (1, Value.int .i64 (a1)), (4, Value.pointer (some ⟨nb1, 0, none⟩)), (7, Value.pointer (some ⟨nb2, 0, none⟩)), (10, Value.int .i64 (2)), (11, Value.int .i64 (1))] ⟨rfl, rfl, rfl, rfl, rfl, rfl, trivial⟩ ?_
                refine V.meet (σ := Int) (fun st w => match st with | x70 => Sep.St [api_Ctl.at nb1 (({ Kind := 0, Ns := 0, Nr := 0, Poll := false } : api_Ctl)), api_Ctl.at nb2 (({ Kind := 0, Ns := 0, Nr := 0, Poll := false } : api_Ctl)), R] w0 w ∧ signalmanref6_ReadCtl.j6 a0 x70 = some r) (fun st => match st with | x70 => [(0, Value.slice (some ⟨eb36, eo37, none⟩) (a0).length sc0), (4, Value.pointer (some ⟨nb1, 0, none⟩)), (7, Value.pointer (some ⟨nb2, 0, none⟩)), (10, Value.int .i64 (2)), (11, Value.int .i64 (x70))]) ?_ ?_
                · refine V.seq ?_
                  refine V.region ?_
                  refine W.rd (X.move rfl) rfl rfl rfl ?_
                  refine W.rd (X.cmp (!(decide (a1 = 128))) rfl rfl rfl rfl) rfl rfl rfl ?_
                  refine W.nil ?_
                  refine At.next ?_
                  refine V.keep [(0, Value.slice (some ⟨eb36, eo37, none⟩) (a0).length sc0), (4, Value.pointer (some ⟨nb1, 0, none⟩)), (7, Value.pointer (some ⟨nb2, 0, none⟩)), (10, Value.int .i64 (2)), (11, Value.int .i64 (1)), (66, Value.bool (!(decide (a1 = 128))))] ⟨rfl, rfl, rfl, rfl, rfl, rfl, trivial⟩ ?_
                  by_cases c99 : a1 = 128
                  · replace H := ite_t c99 H
                    refine V.condF (sb (n_t (decide_eq_true c99))) ?_
                    refine V.skip ?_
                    exact At.meet (1) ⟨rfl, rfl, rfl, rfl, rfl, trivial⟩ ⟨HS, H⟩
                  · replace H := ite_f c99 H
                    refine V.condT (sb (n_f (decide_eq_false c99))) ?_
                    refine V.region ?_
                    refine W.rd (X.assign rfl) rfl rfl rfl ?_
                    refine W.nil ?_
                    exact At.meet (2) ⟨rfl, rfl, rfl, rfl, rfl, trivial⟩ ⟨HS, H⟩
                · rintro x70 w ⟨HS, H⟩
                  unfold signalmanref6_ReadCtl.j6 at H
                  have HS : Sep.St [api_Ctl.at nb1 (({ Kind := 0, Ns := 0, Nr := 0, Poll := false } : api_Ctl)), api_Ctl.at nb2 (({ Kind := 0, Ns := 0, Nr := 0, Poll := false } : api_Ctl)), R] w0 w := HS
                  refine V.seq ?_
                  refine V.seq ?_
                  refine V.region ?_
                  refine W.rd (X.move rfl) rfl rfl rfl ?_
                  refine W.rd (X.lenSl Try.underlying26 rfl) rfl rfl rfl ?_
                  refine W.rd (X.move rfl) rfl rfl rfl ?_
                  refine W.rd (X.mul rfl rfl) rfl rfl rfl ?_
                  refine W.rd (X.cmp (decide (((a0).length : Int) < (w64 (2 * x70)))) rfl rfl rfl rfl) rfl rfl rfl ?_
                  refine W.nil ?_
                  refine At.next ?_
                  refine V.keep [(0, Value.slice (some ⟨eb36, eo37, none⟩) (a0).length sc0), (4, Value.pointer (some ⟨nb1, 0, none⟩)), (7, Value.pointer (some ⟨nb2, 0, none⟩)), (10, Value.int .i64 (2)), (11, Value.int .i64 (x70)), (71, Value.bool (decide (((a0).length : Int) < (w64 (2 * x70)))))] ⟨rfl, rfl, rfl, rfl, rfl, rfl, trivial⟩ ?_
                  by_cases c71 : ((a0).length : Int) < (w64 (2 * x70))
                  · replace H := ite_t c71 H
                    refine V.condT (sb (decide_eq_true c71)) ?_
                    refine V.seq ?_
                    refine V.region ?_
                    replace HS := HS.front 1 rfl
                    have HS : Sep.St [api_Ctl.at nb2 (({ Kind := 0, Ns := 0, Nr := 0, Poll := false } : api_Ctl)), api_Ctl.at nb1 (({ Kind := 0, Ns := 0, Nr := 0, Poll := false } : api_Ctl)), R] w0 w := HS
                    obtain ⟨hi73, HS⟩ := api_Ctl.open HS
                    have HS : Sep.St [blk nb2 (#[Value.int .i64 ((({ Kind := 0, Ns := 0, Nr := 0, Poll := false } : api_Ctl)).Kind), Value.int .i64 ((({ Kind := 0, Ns := 0, Nr := 0, Poll := false } : api_Ctl)).Ns), Value.int .i64 ((({ Kind := 0, Ns := 0, Nr := 0, Poll := false } : api_Ctl)).Nr), Value.bool ((({ Kind := 0, Ns := 0, Nr := 0, Poll := false } : api_Ctl)).Poll)]) 23, api_Ctl.at nb1 (({ Kind := 0, Ns := 0, Nr := 0, Poll := false } : api_Ctl)), R] w0 w := HS
                    refine W.rd (X.loadSt 0 [Value.int .i64 ((({ Kind := 0, Ns := 0, Nr := 0, Poll := false } : api_Ctl)).Kind), Value.int .i64 ((({ Kind := 0, Ns := 0, Nr := 0, Poll := false } : api_Ctl)).Ns), Value.int .i64 ((({ Kind := 0, Ns := 0, Nr := 0, Poll := false } : api_Ctl)).Nr), Value.bool ((({ Kind := 0, Ns := 0, Nr := 0, Poll := false } : api_Ctl)).Poll)] HS rfl Try.underlying23 rfl inf23 rfl rfl) rfl rfl rfl ?_
                    replace HS := HS.front 1 rfl
                    have HS : Sep.St [api_Ctl.at nb1 (({ Kind := 0, Ns := 0, Nr := 0, Poll := false } : api_Ctl)), blk nb2 (#[Value.int .i64 ((({ Kind := 0, Ns := 0, Nr := 0, Poll := false } : api_Ctl)).Kind), Value.int .i64 ((({ Kind := 0, Ns := 0, Nr := 0, Poll := false } : api_Ctl)).Ns), Value.int .i64 ((({ Kind := 0, Ns := 0, Nr := 0, Poll := false } : api_Ctl)).Nr), Value.bool ((({ Kind := 0, Ns := 0, Nr := 0, Poll := false } : api_Ctl)).Poll)]) 23, R] w0 w := HS
                    obtain ⟨hi75, HS⟩ := api_Ctl.open HS
                    have HS : Sep.St [blk nb1 (#[Value.int .i64 ((({ Kind := 0, Ns := 0, Nr := 0, Poll := false } : api_Ctl)).Kind), Value.int .i64 ((({ Kind := 0, Ns := 0, Nr := 0, Poll := false } : api_Ctl)).Ns), Value.int .i64 ((({ Kind := 0, Ns := 0, Nr := 0, Poll := false } : api_Ctl)).Nr), Value.bool ((({ Kind := 0, Ns := 0, Nr := 0, Poll := false } : api_Ctl)).Poll)]) 23, blk nb2 (#[Value.int .i64 ((({ Kind := 0, Ns := 0, Nr := 0, Poll := false } : api_Ctl)).Kind), Value.int .i64 ((({ Kind := 0, Ns := 0, Nr := 0, Poll := false } : api_Ctl)).Ns), Value.int .i64 ((({ Kind := 0, Ns := 0, Nr := 0, Poll := false } : api_Ctl)).Nr), Value.bool ((({ Kind := 0, Ns := 0, Nr := 0, Poll := false } : api_Ctl)).Poll)]) 23, R] w0 w := HS
                    refine W.ev_none (Y.storeSt (c' := #[Value.int .i64 ((({ Kind := 0, Ns := 0, Nr := 0, Poll := false } : api_Ctl)).Kind), Value.int .i64 ((({ Kind := 0, Ns := 0, Nr := 0, Poll := false } : api_Ctl)).Ns), Value.int .i64 ((({ Kind := 0, Ns := 0, Nr := 0, Poll := false } : api_Ctl)).Nr), Value.bool ((({ Kind := 0, Ns := 0, Nr := 0, Poll := false } : api_Ctl)).Poll)]) 0 [Value.int .i64 ((({ Kind := 0, Ns := 0, Nr := 0, Poll := false } : api_Ctl)).Kind), Value.int .i64 ((({ Kind := 0, Ns := 0, Nr := 0, Poll := false } : api_Ctl)).Ns), Value.int .i64 ((({ Kind := 0, Ns := 0, Nr := 0, Poll := false } : api_Ctl)).Nr), Value.bool ((({ Kind := 0, Ns := 0, Nr := 0, Poll := false } : api_Ctl)).Poll)] HS rfl inf23 rfl rfl rfl rfl rfl rfl) rfl rfl ?_
                    rintro _ w HS
                    have HS : Sep.St [blk nb1 (#[Value.int .i64 ((({ Kind := 0, Ns := 0, Nr := 0, Poll := false } : api_Ctl)).Kind), Value.int .i64 ((({ Kind := 0, Ns := 0, Nr := 0, Poll := false } : api_Ctl)).Ns), Value.int .i64 ((({ Kind := 0, Ns := 0, Nr := 0, Poll := false } : api_Ctl)).Nr), Value.bool ((({ Kind := 0, Ns := 0, Nr := 0, Poll := false } : api_Ctl)).Poll)]) 23, blk nb2 (#[Value.int .i64 ((({ Kind := 0, Ns := 0, Nr := 0, Poll := false } : api_Ctl)).Kind), Value.int .i64 ((({ Kind := 0, Ns := 0, Nr := 0, Poll := false } : api_Ctl)).Ns), Value.int .i64 ((({ Kind := 0, Ns := 0, Nr := 0, Poll := false } : api_Ctl)).Nr), Value.bool ((({ Kind := 0, Ns := 0, Nr := 0, Poll := false } : api_Ctl)).Poll)]) 23, R] w0 w := HS
                    refine W.rd (X.assign rfl) rfl rfl rfl ?_
                    refine W.rd (X.assign rfl) rfl rfl rfl ?_
                    refine W.nil ?_
                    refine At.next ?_
                    refine V.keep [(4, Value.pointer (some ⟨nb1, 0, none⟩)), (5, Value.int .i64 (0)), (6, Value.int .i64 (3))] ⟨rfl, rfl, rfl, trivial⟩ ?_
                    refine V.ret ?_
                    refine At.thenRet ?_
                    have hv76 := run_loadSt (P := Try.prog) (p := 0) 0 [Value.int .i64 ((({ Kind := 0, Ns := 0, Nr := 0, Poll := false } : api_Ctl)).Kind), Value.int .i64 ((({ Kind := 0, Ns := 0, Nr := 0, Poll := false } : api_Ctl)).Ns), Value.int .i64 ((({ Kind := 0, Ns := 0, Nr := 0, Poll := false } : api_Ctl)).Nr), Value.bool ((({ Kind := 0, Ns := 0, Nr := 0, Poll := false } : api_Ctl)).Poll)] HS rfl Try.underlying23 rfl inf23 rfl
                    replace HS := HS.sel [2] [0, 1] rfl
                    cases H
                    exact At.retv3 rfl ⟨_, rfl, hv76⟩ rfl rfl ⟨_, rfl, rfl, HS⟩
                  · replace H := ite_f c71 H
                    refine V.condF (sb (decide_eq_false c71)) ?_
                    refine V.skip ?_
                    refine At.next ?_
                    refine V.keep [(0, Value.slice (some ⟨eb36, eo37, none⟩) (a0).length sc0), (4, Value.pointer (some ⟨nb1, 0, none⟩)), (7, Value.pointer (some ⟨nb2, 0, none⟩)), (10, Value.int .i64 (2)), (11, Value.int .i64 (x70))] ⟨rfl, rfl, rfl, rfl, rfl, trivial⟩ ?_
                    refine V.seq ?_
                    refine V.region ?_
                    refine W.rd (X.move rfl) rfl rfl rfl ?_
                    refine W.rd (X.indexSl Try.underlying26 inf5 rfl rfl c35.1 c35.2) rfl rfl rfl ?_
                    refine W.rd (X.load Try.underlying5 rfl rfl (((rdC.at 2 hr0 HS rfl)).cellI c35.1 c35.2)) rfl rfl rfl ?_
                    refine W.rd (X.conv Try.underlying5 Try.underlying3 rfl) rfl rfl rfl ?_
                    refine W.rd (X.assign rfl) rfl rfl rfl ?_
                    refine W.nil ?_
                    refine At.next ?_
                    refine V.keep [(0, Value.slice (some ⟨eb36, eo37, none⟩) (a0).length sc0), (4, Value.pointer (some ⟨nb1, 0, none⟩)), (7, Value.pointer (some ⟨nb2, 0, none⟩)), (10, Value.int .i64 (2)), (11, Value.int .i64 (x70)), (12, Value.int .i64 (w64 ((a0).getD ((0 : Int)).toNat 0)))] ⟨rfl, rfl, rfl, rfl, rfl, rfl, trivial⟩ ?_
                    refine V.seq ?_
                    refine V.region ?_
                    refine W.rd (X.move rfl) rfl rfl rfl ?_
                    refine W.rd (X.move rfl) rfl rfl rfl ?_
                    obtain ⟨c77, H⟩ := ite_n H
                    refine W.rd (X.indexSl Try.underlying26 inf5 rfl rfl c77.1 c77.2) rfl rfl rfl ?_
                    refine W.rd (X.load Try.underlying5 rfl rfl (((rdC.at 2 hr0 HS rfl)).cellI c77.1 c77.2)) rfl rfl rfl ?_
                    refine W.rd (X.conv Try.underlying5 Try.underlying3 rfl) rfl rfl rfl ?_
                    refine W.rd (X.assign rfl) rfl rfl rfl ?_
                    refine W.nil ?_
                    refine At.next ?_
                    refine V.keep [(0, Value.slice (some ⟨eb36, eo37, none⟩) (a0).length sc0), (4, Value.pointer (some ⟨nb1, 0, none⟩)), (7, Value.pointer (some ⟨nb2, 0, none⟩)), (10, Value.int .i64 (2)), (11, Value.int .i64 (x70)), (12, Value.int .i64 (w64 ((a0).getD ((0 : Int)).toNat 0))), (13, Value.int .i64 (w64 ((a0).getD (x70).toNat 0)))] ⟨rfl, rfl, rfl, rfl, rfl, rfl, rfl, trivial⟩ ?_
                    refine V.meet (σ := Int × Int) (fun st w => match st with | (x78, x79) => Sep.St [api_Ctl.at nb1 (({ Kind := 0, Ns := 0, Nr := 0, Poll := false } : api_Ctl)), api_Ctl.at nb2 (({ Kind := 0, Ns := 0, Nr := 0, Poll := false } : api_Ctl)), R] w0 w ∧ signalmanref6_ReadCtl.j7 a0 x70 x78 x79 = some r) (fun st => match st with | (x78, x79) => [(0, Value.slice (some ⟨eb36, eo37, none⟩) (a0).length sc0), (4, Value.pointer (some ⟨nb1, 0, none⟩)), (7, Value.pointer (some ⟨nb2, 0, none⟩)), (10, Value.int .i64 (2)), (11, Value.int .i64 (x70)), (12, Value.int .i64 (x78)), (13, Value.int .i64 (x79))]) ?_ ?_
                    · refine V.seq ?_
                      refine V.region ?_
                      refine W.rd (X.move rfl) rfl rfl rfl ?_
                      refine W.rd (X.cmp (decide (x70 = 2)) rfl rfl rfl rfl) rfl rfl rfl ?_
                      refine W.nil ?_
                      refine At.next ?_
                      refine V.keep [(0, Value.slice (some ⟨eb36, eo37, none⟩) (a0).length sc0), (4, Value.pointer (some ⟨nb1, 0, none⟩)), (7, Value.pointer (some ⟨nb2, 0, none⟩)), (10, Value.int .i64 (2)), (11, Value.int .i64 (x70)), (12, Value.int .i64 (w64 ((a0).getD ((0 : Int)).toNat 0))), (13, Value.int .i64 (w64 ((a0).getD (x70).toNat 0))), (83, Value.bool (decide (x70 = 2)))] ⟨rfl, rfl, rfl, rfl, rfl, rfl, rfl, rfl, trivial⟩ ?_
                      by_cases c96 : x70 = 2
                      · replace H := ite_t c96 H
                        refine V.condT (sb (decide_eq_true c96)) ?_
                        refine V.seq ?_
                        refine V.region ?_
                        refine W.rd (X.move rfl) rfl rfl rfl ?_
                        refine W.rd (X.move rfl) rfl rfl rfl ?_
                        obtain ⟨c97, H⟩ := ite_n H
                        refine W.rd (X.indexSl Try.underlying26 inf5 rfl rfl c97.1 c97.2) rfl rfl rfl ?_
                        refine W.rd (X.load Try.underlying5 rfl rfl (((rdC.at 2 hr0 HS rfl)).cellI c97.1 c97.2)) rfl rfl rfl ?_
                        refine W.rd (X.conv Try.underlying5 Try.underlying3 rfl) rfl rfl rfl ?_
                        refine W.rd (X.mul rfl rfl) rfl rfl rfl ?_
                        refine W.rd (X.add rfl rfl) rfl rfl rfl ?_
                        refine W.rd (X.assign rfl) rfl rfl rfl ?_
                        refine W.nil ?_
                        refine At.next ?_
                        refine V.keep [(0, Value.slice (some ⟨eb36, eo37, none⟩) (a0).length sc0), (4, Value.pointer (some ⟨nb1, 0, none⟩)), (7, Value.pointer (some ⟨nb2, 0, none⟩)), (10, Value.int .i64 (2)), (11, Value.int .i64 (x70)), (12, Value.int .i64 (w64 ((w64 ((a0).getD ((0 : Int)).toNat 0)) + (w64 (256 * (w64 ((a0).getD ((1 : Int)).toNat 0))))))), (13, Value.int .i64 (w64 ((a0).getD (x70).toNat 0)))] ⟨rfl, rfl, rfl, rfl, rfl, rfl, rfl, trivial⟩ ?_
                        refine V.region ?_
                        refine W.rd (X.move rfl) rfl rfl rfl ?_
                        refine W.rd (X.move rfl) rfl rfl rfl ?_
                        obtain ⟨c98, H⟩ := ite_n H
                        refine W.rd (X.indexSl Try.underlying26 inf5 rfl rfl c98.1 c98.2) rfl rfl rfl ?_
                        refine W.rd (X.load Try.underlying5 rfl rfl (((rdC.at 2 hr0 HS rfl)).cellI c98.1 c98.2)) rfl rfl rfl ?_
                        refine W.rd (X.conv Try.underlying5 Try.underlying3 rfl) rfl rfl rfl ?_
                        refine W.rd (X.mul rfl rfl) rfl rfl rfl ?_
                        refine W.rd (X.add rfl rfl) rfl rfl rfl ?_
                        refine W.rd (X.assign rfl) rfl rfl rfl ?_
                        refine W.nil ?_
                        exact At.meet (w64 ((w64 ((a0).getD ((0 : Int)).toNat 0)) + (w64 (256 * (w64 ((a0).getD ((1 : Int)).toNat 0))))), w64 ((w64 ((a0).getD (x70).toNat 0)) + (w64 (256 * (w64 ((a0).getD ((3 : Int)).toNat 0)))))) ⟨rfl, rfl, rfl, rfl, rfl, rfl, rfl, trivial⟩ ⟨HS, H⟩
                      · replace H := ite_f c96 H
                        refine V.condF (sb (decide_eq_false c96)) ?_
                        refine V.skip ?_
                        exact At.meet (w64 ((a0).getD ((0 : Int)).toNat 0), w64 ((a0).getD (x70).toNat 0)) ⟨rfl, rfl, rfl, rfl, rfl, rfl, rfl, trivial⟩ ⟨HS, H⟩
                    · rintro ⟨x78, x79⟩ w ⟨HS, H⟩
                      unfold signalmanref6_ReadCtl.j7 at H
                      have HS : Sep.St [api_Ctl.at nb1 (({ Kind := 0, Ns := 0, Nr := 0, Poll := false } : api_Ctl)), api_Ctl.at nb2 (({ Kind := 0, Ns := 0, Nr := 0, Poll := false } : api_Ctl)), R] w0 w := HS
                      refine V.seq ?_
                      refine V.region ?_
                      refine W.rd (X.move rfl) rfl rfl rfl ?_
                      refine W.rd (X.move rfl) rfl rfl rfl ?_
                      refine W.rd (X.quo rfl rfl (by decide)) rfl rfl rfl ?_
                      refine W.rd (X.move rfl) rfl rfl rfl ?_
                      refine W.rd (X.rem rfl rfl (by decide)) rfl rfl rfl ?_
                      refine W.rd (X.cmp (decide (((x79).tmod (2)) = 1)) rfl rfl rfl rfl) rfl rfl rfl ?_
                      refine W.rd (X.build (vs := #[(0, Value.int .i64 (2)), (2, Value.int .i64 (w64 ((x79).tdiv (2)))), (3, Value.bool (decide (((x79).tmod (2)) = 1)))]) (v := Value.agg #[Value.int .i64 (2), Value.int .i64 (0), Value.int .i64 (w64 ((x79).tdiv (2))), Value.bool (decide (((x79).tmod (2)) = 1))]) (fun a ha => by simp only [List.map_toArray, List.map_cons, List.map_nil]; rw [ha.ev (x := .tmp 98) (v := Value.int .i64 (2)) rfl]; rw [ha.ev (x := .tmp 100) (v := Value.int .i64 (w64 ((x79).tdiv (2)))) rfl]; rw [ha.ev (x := .tmp 103) (v := Value.bool (decide (((x79).tmod (2)) = 1))) rfl]; try rfl) (fun _ => by kernel_rfl)) rfl rfl rfl ?_
                      refine W.ev (Y.alloc (z := Value.agg (#[Value.int .i64 (0), Value.int .i64 (0), Value.int .i64 (0), Value.bool (false)])) HS ze23) rfl rfl rfl ?_
                      rintro _ w ⟨nb80, rfl, HS⟩
                      have HS : Sep.St [blk nb80 (#[Value.int .i64 (0), Value.int .i64 (0), Value.int .i64 (0), Value.bool (false)]) 23, api_Ctl.at nb1 (({ Kind := 0, Ns := 0, Nr := 0, Poll := false } : api_Ctl)), api_Ctl.at nb2 (({ Kind := 0, Ns := 0, Nr := 0, Poll := false } : api_Ctl)), R] w0 w := HS
                      refine W.ev_none (Y.storeSt (c' := #[Value.int .i64 (2), Value.int .i64 (0), Value.int .i64 (w64 ((x79).tdiv (2))), Value.bool (decide (((x79).tmod (2)) = 1))]) 0 [Value.int .i64 (2), Value.int .i64 (0), Value.int .i64 (w64 ((x79).tdiv (2))), Value.bool (decide (((x79).tmod (2)) = 1))] HS rfl inf23 rfl rfl rfl rfl rfl rfl) rfl rfl ?_
                      rintro _ w HS
                      have HS : Sep.St [blk nb80 (#[Value.int .i64 (2), Value.int .i64 (0), Value.int .i64 (w64 ((x79).tdiv (2))), Value.bool (decide (((x79).tmod (2)) = 1))]) 23, api_Ctl.at nb1 (({ Kind := 0, Ns := 0, Nr := 0, Poll := false } : api_Ctl)), api_Ctl.at nb2 (({ Kind := 0, Ns := 0, Nr := 0, Poll := false } : api_Ctl)), R] w0 w := HS
                      refine W.nil ?_
                      refine At.next ?_
                      refine V.keep [(0, Value.slice (some ⟨eb36, eo37, none⟩) (a0).length sc0), (4, Value.pointer (some ⟨nb1, 0, none⟩)), (7, Value.pointer (some ⟨nb2, 0, none⟩)), (10, Value.int .i64 (2)), (11, Value.int .i64 (x70)), (12, Value.int .i64 (x78)), (14, Value.pointer (some ⟨nb80, 0, none⟩))] ⟨rfl, rfl, rfl, rfl, rfl, rfl, rfl, trivial⟩ ?_
                      refine V.seq ?_
                      refine V.seq ?_
                      refine V.region ?_
                      refine W.rd (X.move rfl) rfl rfl rfl ?_
                      refine W.rd (X.cmp false (by decide) rfl rfl rfl) rfl rfl rfl ?_
                      refine W.nil ?_
                      refine At.next ?_
                      refine V.keep [(0, Value.slice (some ⟨eb36, eo37, none⟩) (a0).length sc0), (4, Value.pointer (some ⟨nb1, 0, none⟩)), (7, Value.pointer (some ⟨nb2, 0, none⟩)), (11, Value.int .i64 (x70)), (12, Value.int .i64 (x78)), (14, Value.pointer (some ⟨nb80, 0, none⟩)), (106, Value.bool (false))] ⟨rfl, rfl, rfl, rfl, rfl, rfl, rfl, trivial⟩ ?_
                      refine V.condF rfl ?_
                      refine V.meet (σ := Bool) (fun st w => match st with | x82 => Sep.St [api_Ctl.at nb80 (({ Kind := 2, Ns := 0, Nr := w64 ((x79).tdiv (2)), Poll := decide (((x79).tmod (2)) = 1) } : api_Ctl)), api_Ctl.at nb1 (({ Kind := 0, Ns := 0, Nr := 0, Poll := false } : api_Ctl)), api_Ctl.at nb2 (({ Kind := 0, Ns := 0, Nr := 0, Poll := false } : api_Ctl)), R] w0 w ∧ signalmanref6_ReadCtl.j8 x70 x79 x82 = some r) (fun st => match st with | x82 => [(4, Value.pointer (some ⟨nb1, 0, none⟩)), (7, Value.pointer (some ⟨nb2, 0, none⟩)), (11, Value.int .i64 (x70)), (14, Value.pointer (some ⟨nb80, 0, none⟩)), (117, Value.bool (x82))]) ?_ ?_
                      · refine V.region ?_
                        refine W.rd (X.move rfl) rfl rfl rfl ?_
                        refine W.rd (X.cmp (decide (x70 = 2)) rfl rfl rfl rfl) rfl rfl rfl ?_
                        refine W.rd (X.move rfl) rfl rfl rfl ?_
                        by_cases c94 : x70 = 2
                        · replace H := ite_t c94 H
                          refine W.want 112 rfl (sb (decide_eq_true c94)) ?_
                          refine W.rd (X.move rfl) rfl rfl rfl ?_
                          refine W.want 112 rfl (sb (decide_eq_true c94)) ?_
                          obtain ⟨c95, H⟩ := ite_n H
                          refine W.rd (X.indexSl Try.underlying26 inf5 rfl rfl c95.1 c95.2) rfl rfl rfl ?_
                          refine W.want 112 rfl (sb (decide_eq_true c94)) ?_
                          refine W.rd (X.load Try.underlying5 rfl rfl (((rdC.at 3 hr0 HS rfl)).cellI c95.1 c95.2)) rfl rfl rfl ?_
                          refine W.want 112 rfl (sb (decide_eq_true c94)) ?_
                          refine W.rd (X.cmp (!(decide (((a0).getD ((1 : Int)).toNat 0) = 0))) rfl rfl rfl rfl) rfl rfl rfl ?_
                          refine W.rd (X.pickT (sb (decide_eq_true c94)) rfl) rfl rfl rfl ?_
                          refine W.nil ?_
                          replace HS := api_Ctl.close (({ Kind := 2, Ns := 0, Nr := w64 ((x79).tdiv (2)), Poll := decide (((x79).tmod (2)) = 1) } : api_Ctl)) trivial HS
                          have HS : Sep.St [api_Ctl.at nb80 (({ Kind := 2, Ns := 0, Nr := w64 ((x79).tdiv (2)), Poll := decide (((x79).tmod (2)) = 1) } : api_Ctl)), api_Ctl.at nb1 (({ Kind := 0, Ns := 0, Nr := 0, Poll := false } : api_Ctl)), api_Ctl.at nb2 (({ Kind := 0, Ns := 0, Nr := 0, Poll := false } : api_Ctl)), R] w0 w := HS
                          exact At.meet (!(decide (((a0).getD ((1 : Int)).toNat 0) = 0))) ⟨rfl, rfl, rfl, rfl, rfl, trivial⟩ ⟨HS, H⟩
                        · replace H := ite_f c94 H
                          refine W.pass 112 rfl (sb (decide_eq_false c94)) rfl rfl ?_
                          refine W.pass 112 rfl (sb (decide_eq_false c94)) rfl rfl ?_
                          refine W.pass 112 rfl (sb (decide_eq_false c94)) rfl rfl ?_
                          refine W.pass 112 rfl (sb (decide_eq_false c94)) rfl rfl ?_
                          refine W.rd (X.pickF (sb (decide_eq_false c94)) rfl) rfl rfl rfl ?_
                          refine W.nil ?_
                          replace HS := api_Ctl.close (({ Kind := 2, Ns := 0, Nr := w64 ((x79).tdiv (2)), Poll := decide (((x79).tmod (2)) = 1) } : api_Ctl)) trivial HS
                          have HS : Sep.St [api_Ctl.at nb80 (({ Kind := 2, Ns := 0, Nr := w64 ((x79).tdiv (2)), Poll := decide (((x79).tmod (2)) = 1) } : api_Ctl)), api_Ctl.at nb1 (({ Kind := 0, Ns := 0, Nr := 0, Poll := false } : api_Ctl)), api_Ctl.at nb2 (({ Kind := 0, Ns := 0, Nr := 0, Poll := false } : api_Ctl)), R] w0 w := HS
                          exact At.meet (false) ⟨rfl, rfl, rfl, rfl, rfl, trivial⟩ ⟨HS, H⟩
                      · rintro x82 w ⟨HS, H⟩
                        unfold signalmanref6_ReadCtl.j8 at H
                        have HS : Sep.St [api_Ctl.at nb80 (({ Kind := 2, Ns := 0, Nr := w64 ((x79).tdiv (2)), Poll := decide (((x79).tmod (2)) = 1) } : api_Ctl)), api_Ctl.at nb1 (({ Kind := 0, Ns := 0, Nr := 0, Poll := false } : api_Ctl)), api_Ctl.at nb2 (({ Kind := 0, Ns := 0, Nr := 0, Poll := false } : api_Ctl)), R] w0 w := HS
                        by_cases c83 : x82 = true
                        · replace H := ite_t c83 H
                          refine V.condT (sb c83) ?_
                          refine V.seq ?_
                          refine V.region ?_
                          replace HS := HS.front 2 rfl
                          have HS : Sep.St [api_Ctl.at nb2 (({ Kind := 0, Ns := 0, Nr := 0, Poll := false } : api_Ctl)), api_Ctl.at nb80 (({ Kind := 2, Ns := 0, Nr := w64 ((x79).tdiv (2)), Poll := decide (((x79).tmod (2)) = 1) } : api_Ctl)), api_Ctl.at nb1 (({ Kind := 0, Ns := 0, Nr := 0, Poll := false } : api_Ctl)), R] w0 w := HS
                          obtain ⟨hi85, HS⟩ := api_Ctl.open HS
                          have HS : Sep.St [blk nb2 (#[Value.int .i64 ((({ Kind := 0, Ns := 0, Nr := 0, Poll := false } : api_Ctl)).Kind), Value.int .i64 ((({ Kind := 0, Ns := 0, Nr := 0, Poll := false } : api_Ctl)).Ns), Value.int .i64 ((({ Kind := 0, Ns := 0, Nr := 0, Poll := false } : api_Ctl)).Nr), Value.bool ((({ Kind := 0, Ns := 0, Nr := 0, Poll := false } : api_Ctl)).Poll)]) 23, api_Ctl.at nb80 (({ Kind := 2, Ns := 0, Nr := w64 ((x79).tdiv (2)), Poll := decide (((x79).tmod (2)) = 1) } : api_Ctl)), api_Ctl.at nb1 (({ Kind := 0, Ns := 0, Nr := 0, Poll := false } : api_Ctl)), R] w0 w := HS
                          refine W.rd (X.loadSt 0 [Value.int .i64 ((({ Kind := 0, Ns := 0, Nr := 0, Poll := false } : api_Ctl)).Kind), Value.int .i64 ((({ Kind := 0, Ns := 0, Nr := 0, Poll := false } : api_Ctl)).Ns), Value.int .i64 ((({ Kind := 0, Ns := 0, Nr := 0, Poll := false } : api_Ctl)).Nr), Value.bool ((({ Kind := 0, Ns := 0, Nr := 0, Poll := false } : api_Ctl)).Poll)] HS rfl Try.underlying23 rfl inf23 rfl rfl) rfl rfl rfl ?_
                          replace HS := HS.front 2 rfl
                          have HS : Sep.St [api_Ctl.at nb1 (({ Kind := 0, Ns := 0, Nr := 0, Poll := false } : api_Ctl)), blk nb2 (#[Value.int .i64 ((({ Kind := 0, Ns := 0, Nr := 0, Poll := false } : api_Ctl)).Kind), Value.int .i64 ((({ Kind := 0, Ns := 0, Nr := 0, Poll := false } : api_Ctl)).Ns), Value.int .i64 ((({ Kind := 0, Ns := 0, Nr := 0, Poll := false } : api_Ctl)).Nr), Value.bool ((({ Kind := 0, Ns := 0, Nr := 0, Poll := false } : api_Ctl)).Poll)]) 23, api_Ctl.at nb80 (({ Kind := 2, Ns := 0, Nr := w64 ((x79).tdiv (2)), Poll := decide (((x79).tmod (2)) = 1) } : api_Ctl)), R] w0 w := HS
                          obtain ⟨hi87, HS⟩ := api_Ctl.open HS
                          have HS : Sep.St [blk nb1 (#[Value.int .i64 ((({ Kind := 0, Ns := 0, Nr := 0, Poll := false } : api_Ctl)).Kind), Value.int .i64 ((({ Kind := 0, Ns := 0, Nr := 0, Poll := false } : api_Ctl)).Ns), Value.int .i64 ((({ Kind := 0, Ns := 0, Nr := 0, Poll := false } : api_Ctl)).Nr), Value.bool ((({ Kind := 0, Ns := 0, Nr := 0, Poll := false } : api_Ctl)).Poll)]) 23, blk nb2 (#[Value.int .i64 ((({ Kind := 0, Ns := 0, Nr := 0, Poll := false } : api_Ctl)).Kind), Value.int .i64 ((({ Kind := 0, Ns := 0, Nr := 0, Poll := false } : api_Ctl)).Ns), Value.int .i64 ((({ Kind := 0, Ns := 0, Nr := 0, Poll := false } : api_Ctl)).Nr), Value.bool ((({ Kind := 0, Ns := 0, Nr := 0, Poll := false } : api_Ctl)).Poll)]) 23, api_Ctl.at nb80 (({ Kind := 2, Ns := 0, Nr := w64 ((x79).tdiv (2)), Poll := decide (((x79).tmod (2)) = 1) } : api_Ctl)), R] w0 w := HS
                          refine W.ev_none (Y.storeSt (c' := #[Value.int .i64 ((({ Kind := 0, Ns := 0, Nr := 0, Poll := false } : api_Ctl)).Kind), Value.int .i64 ((({ Kind := 0, Ns := 0, Nr := 0, Poll := false } : api_Ctl)).Ns), Value.int .i64 ((({ Kind := 0, Ns := 0, Nr := 0, Poll := false } : api_Ctl)).Nr), Value.bool ((({ Kind := 0, Ns := 0, Nr := 0, Poll := false } : api_Ctl)).Poll)]) 0 [Value.int .i64 ((({ Kind := 0, Ns := 0, Nr := 0, Poll := false } : api_Ctl)).Kind), Value.int .i64 ((({ Kind := 0, Ns := 0, Nr := 0, Poll := false } : api_Ctl)).Ns), Value.int .i64 ((({ Kind := 0, Ns := 0, Nr := 0, Poll := false } : api_Ctl)).Nr), Value.bool ((({ Kind := 0, Ns := 0, Nr := 0, Poll := false } : api_Ctl)).Poll)] HS rfl inf23 rfl rfl rfl rfl rfl rfl) rfl rfl ?_
                          rintro _ w HS
                          have HS : Sep.St [blk nb1 (#[Value.int .i64 ((({ Kind := 0, Ns := 0, Nr := 0, Poll := false } : api_Ctl)).Kind), Value.int .i64 ((({ Kind := 0, Ns := 0, Nr := 0, Poll := false } : api_Ctl)).Ns), Value.int .i64 ((({ Kind := 0, Ns := 0, Nr := 0, Poll := false } : api_Ctl)).Nr), Value.bool ((({ Kind := 0, Ns := 0, Nr := 0, Poll := false } : api_Ctl)).Poll)]) 23, blk nb2 (#[Value.int .i64 ((({ Kind := 0, Ns := 0, Nr := 0, Poll := false } : api_Ctl)).Kind), Value.int .i64 ((({ Kind := 0, Ns := 0, Nr := 0, Poll := false } : api_Ctl)).Ns), Value.int .i64 ((({ Kind := 0, Ns := 0, Nr := 0, Poll := false } : api_Ctl)).Nr), Value.bool ((({ Kind := 0, Ns := 0, Nr := 0, Poll := false } : api_Ctl)).Poll)]) 23, api_Ctl.at nb80 (({ Kind := 2, Ns := 0, Nr := w64 ((x79).tdiv (2)), Poll := decide (((x79).tmod (2)) = 1) } : api_Ctl)), R] w0 w := HS
                          refine W.rd (X.assign rfl) rfl rfl rfl ?_
                          refine W.rd (X.assign rfl) rfl rfl rfl ?_
                          refine W.nil ?_
                          refine At.next ?_
                          refine V.keep [(4, Value.pointer (some ⟨nb1, 0, none⟩)), (5, Value.int .i64 (0)), (6, Value.int .i64 (2))] ⟨rfl, rfl, rfl, trivial⟩ ?_
                          refine V.ret ?_
                          refine At.thenRet ?_
                          have hv88 := run_loadSt (P := Try.prog) (p := 0) 0 [Value.int .i64 ((({ Kind := 0, Ns := 0, Nr := 0, Poll := false } : api_Ctl)).Kind), Value.int .i64 ((({ Kind := 0, Ns := 0, Nr := 0, Poll := false } : api_Ctl)).Ns), Value.int .i64 ((({ Kind := 0, Ns := 0, Nr := 0, Poll := false } : api_Ctl)).Nr), Value.bool ((({ Kind := 0, Ns := 0, Nr := 0, Poll := false } : api_Ctl)).Poll)] HS rfl Try.underlying23 rfl inf23 rfl
                          replace HS := HS.sel [3] [0, 1, 2] rfl
                          cases H
                          exact At.retv3 rfl ⟨_, rfl, hv88⟩ rfl rfl ⟨_, rfl, rfl, HS⟩
                        · replace H := ite_f c83 H
                          refine V.condF (sb (b_f c83)) ?_
                          refine V.skip ?_
                          refine At.next ?_
                          refine V.keep [(4, Value.pointer (some ⟨nb1, 0, none⟩)), (11, Value.int .i64 (x70)), (14, Value.pointer (some ⟨nb80, 0, none⟩))] ⟨rfl, rfl, rfl, trivial⟩ ?_
                          refine V.seq ?_
                          refine V.region ?_
                          obtain ⟨hi90, HS⟩ := api_Ctl.open HS
                          have HS : Sep.St [blk nb80 (#[Value.int .i64 ((({ Kind := 2, Ns := 0, Nr := w64 ((x79).tdiv (2)), Poll := decide (((x79).tmod (2)) = 1) } : api_Ctl)).Kind), Value.int .i64 ((({ Kind := 2, Ns := 0, Nr := w64 ((x79).tdiv (2)), Poll := decide (((x79).tmod (2)) = 1) } : api_Ctl)).Ns), Value.int .i64 ((({ Kind := 2, Ns := 0, Nr := w64 ((x79).tdiv (2)), Poll := decide (((x79).tmod (2)) = 1) } : api_Ctl)).Nr), Value.bool ((({ Kind := 2, Ns := 0, Nr := w64 ((x79).tdiv (2)), Poll := decide (((x79).tmod (2)) = 1) } : api_Ctl)).Poll)]) 23, api_Ctl.at nb1 (({ Kind := 0, Ns := 0, Nr := 0, Poll := false } : api_Ctl)), api_Ctl.at nb2 (({ Kind := 0, Ns := 0, Nr := 0, Poll := false } : api_Ctl)), R] w0 w := HS
                          refine W.rd (X.loadSt 0 [Value.int .i64 ((({ Kind := 2, Ns := 0, Nr := w64 ((x79).tdiv (2)), Poll := decide (((x79).tmod (2)) = 1) } : api_Ctl)).Kind), Value.int .i64 ((({ Kind := 2, Ns := 0, Nr := w64 ((x79).tdiv (2)), Poll := decide (((x79).tmod (2)) = 1) } : api_Ctl)).Ns), Value.int .i64 ((({ Kind := 2, Ns := 0, Nr := w64 ((x79).tdiv (2)), Poll := decide (((x79).tmod (2)) = 1) } : api_Ctl)).Nr), Value.bool ((({ Kind := 2, Ns := 0, Nr := w64 ((x79).tdiv (2)), Poll := decide (((x79).tmod (2)) = 1) } : api_Ctl)).Poll)] HS rfl Try.underlying23 rfl inf23 rfl rfl) rfl rfl rfl ?_
                          refine W.rd (X.move rfl) rfl rfl rfl ?_
                          refine W.rd (X.mul rfl rfl) rfl rfl rfl ?_
                          replace HS := HS.front 1 rfl
                          have HS : Sep.St [api_Ctl.at nb1 (({ Kind := 0, Ns := 0, Nr := 0, Poll := false } : api_Ctl)), blk nb80 (#[Value.int .i64 ((({ Kind := 2, Ns := 0, Nr := w64 ((x79).tdiv (2)), Poll := decide (((x79).tmod (2)) = 1) } : api_Ctl)).Kind), Value.int .i64 ((({ Kind := 2, Ns := 0, Nr := w64 ((x79).tdiv (2)), Poll := decide (((x79).tmod (2)) = 1) } : api_Ctl)).Ns), Value.int .i64 ((({ Kind := 2, Ns := 0, Nr := w64 ((x79).tdiv (2)), Poll := decide (((x79).tmod (2)) = 1) } : api_Ctl)).Nr), Value.bool ((({ Kind := 2, Ns := 0, Nr := w64 ((x79).tdiv (2)), Poll := decide (((x79).tmod (2)) = 1) } : api_Ctl)).Poll)]) 23, api_Ctl.at nb2 (({ Kind := 0, Ns := 0, Nr := 0, Poll := false } : api_Ctl)), R] w0 w := HS
                          obtain ⟨hi92, HS⟩ := api_Ctl.open HS
                          have HS : Sep.St [blk nb1 (#[Value.int .i64 ((({ Kind := 0, Ns := 0, Nr := 0, Poll := false } : api_Ctl)).Kind), Value.int .i64 ((({ Kind := 0, Ns := 0, Nr := 0, Poll := false } : api_Ctl)).Ns), Value.int .i64 ((({ Kind := 0, Ns := 0, Nr := 0, Poll := false } : api_Ctl)).Nr), Value.bool ((({ Kind := 0, Ns := 0, Nr := 0, Poll := false } : api_Ctl)).Poll)]) 23, blk nb80 (#[Value.int .i64 ((({ Kind := 2, Ns := 0, Nr := w64 ((x79).tdiv (2)), Poll := decide (((x79).tmod (2)) = 1) } : api_Ctl)).Kind), Value.int .i64 ((({ Kind := 2, Ns := 0, Nr := w64 ((x79).tdiv (2)), Poll := decide (((x79).tmod (2)) = 1) } : api_Ctl)).Ns), Value.int .i64 ((({ Kind := 2, Ns := 0, Nr := w64 ((x79).tdiv (2)), Poll := decide (((x79).tmod (2)) = 1) } : api_Ctl)).Nr), Value.bool ((({ Kind := 2, Ns := 0, Nr := w64 ((x79).tdiv (2)), Poll := decide (((x79).tmod (2)) = 1) } : api_Ctl)).Poll)]) 23, api_Ctl.at nb2 (({ Kind := 0, Ns := 0, Nr := 0, Poll := false } : api_Ctl)), R] w0 w := HS
                          refine W.ev_none (Y.storeSt (c' := #[Value.int .i64 ((({ Kind := 2, Ns := 0, Nr := w64 ((x79).tdiv (2)), Poll := decide (((x79).tmod (2)) = 1) } : api_Ctl)).Kind), Value.int .i64 ((({ Kind := 2, Ns := 0, Nr := w64 ((x79).tdiv (2)), Poll := decide (((x79).tmod (2)) = 1) } : api_Ctl)).Ns), Value.int .i64 ((({ Kind := 2, Ns := 0, Nr := w64 ((x79).tdiv (2)), Poll := decide (((x79).tmod (2)) = 1) } : api_Ctl)).Nr), Value.bool ((({ Kind := 2, Ns := 0, Nr := w64 ((x79).tdiv (2)), Poll := decide (((x79).tmod (2)) = 1) } : api_Ctl)).Poll)]) 0 [Value.int .i64 ((({ Kind := 2, Ns := 0, Nr := w64 ((x79).tdiv (2)), Poll := decide (((x79).tmod (2)) = 1) } : api_Ctl)).Kind), Value.int .i64 ((({ Kind := 2, Ns := 0, Nr := w64 ((x79).tdiv (2)), Poll := decide (((x79).tmod (2)) = 1) } : api_Ctl)).Ns), Value.int .i64 ((({ Kind := 2, Ns := 0, Nr := w64 ((x79).tdiv (2)), Poll := decide (((x79).tmod (2)) = 1) } : api_Ctl)).Nr), Value.bool ((({ Kind := 2, Ns := 0, Nr := w64 ((x79).tdiv (2)), Poll := decide (((x79).tmod (2)) = 1) } : api_Ctl)).Poll)] HS rfl inf23 rfl rfl rfl rfl rfl rfl) rfl rfl ?_
                          rintro _ w HS
                          have HS : Sep.St [blk nb1 (#[Value.int .i64 ((({ Kind := 2, Ns := 0, Nr := w64 ((x79).tdiv (2)), Poll := decide (((x79).tmod (2)) = 1) } : api_Ctl)).Kind), Value.int .i64 ((({ Kind := 2, Ns := 0, Nr := w64 ((x79).tdiv (2)), Poll := decide (((x79).tmod (2)) = 1) } : api_Ctl)).Ns), Value.int .i64 ((({ Kind := 2, Ns := 0, Nr := w64 ((x79).tdiv (2)), Poll := decide (((x79).tmod (2)) = 1) } : api_Ctl)).Nr), Value.bool ((({ Kind := 2, Ns := 0, Nr := w64 ((x79).tdiv (2)), Poll := decide (((x79).tmod (2)) = 1) } : api_Ctl)).Poll)]) 23, blk nb80 (#[Value.int .i64 ((({ Kind := 2, Ns := 0, Nr := w64 ((x79).tdiv (2)), Poll := decide (((x79).tmod (2)) = 1) } : api_Ctl)).Kind), Value.int .i64 ((({ Kind := 2, Ns := 0, Nr := w64 ((x79).tdiv (2)), Poll := decide (((x79).tmod (2)) = 1) } : api_Ctl)).Ns), Value.int .i64 ((({ Kind := 2, Ns := 0, Nr := w64 ((x79).tdiv (2)), Poll := decide (((x79).tmod (2)) = 1) } : api_Ctl)).Nr), Value.bool ((({ Kind := 2, Ns := 0, Nr := w64 ((x79).tdiv (2)), Poll := decide (((x79).tmod (2)) = 1) } : api_Ctl)).Poll)]) 23, api_Ctl.at nb2 (({ Kind := 0, Ns := 0, Nr := 0, Poll := false } : api_Ctl)), R] w0 w := HS
                          refine W.rd (X.assign rfl) rfl rfl rfl ?_
                          refine W.rd (X.assign rfl) rfl rfl rfl ?_
                          refine W.nil ?_
                          refine At.next ?_
                          refine V.keep [(4, Value.pointer (some ⟨nb1, 0, none⟩)), (5, Value.int .i64 (w64 (2 * x70))), (6, Value.int .i64 (0))] ⟨rfl, rfl, rfl, trivial⟩ ?_
                          refine V.ret ?_
                          have hv93 := run_loadSt (P := Try.prog) (p := 0) 0 [Value.int .i64 ((({ Kind := 2, Ns := 0, Nr := w64 ((x79).tdiv (2)), Poll := decide (((x79).tmod (2)) = 1) } : api_Ctl)).Kind), Value.int .i64 ((({ Kind := 2, Ns := 0, Nr := w64 ((x79).tdiv (2)), Poll := decide (((x79).tmod (2)) = 1) } : api_Ctl)).Ns), Value.int .i64 ((({ Kind := 2, Ns := 0, Nr := w64 ((x79).tdiv (2)), Poll := decide (((x79).tmod (2)) = 1) } : api_Ctl)).Nr), Value.bool ((({ Kind := 2, Ns := 0, Nr := w64 ((x79).tdiv (2)), Poll := decide (((x79).tmod (2)) = 1) } : api_Ctl)).Poll)] HS rfl Try.underlying23 rfl inf23 rfl
                          replace HS := HS.sel [3] [0, 1, 2] rfl
                          cases H
                          exact At.retv3 rfl ⟨_, rfl, hv93⟩ rfl rfl ⟨_, rfl, rfl, HS⟩
              · replace H := ite_f c69 H
                refine V.condF (sb (decide_eq_false c69)) ?_
                refine V.seq ?_
                refine V.region ?_
                refine W.rd (X.move rfl) rfl rfl rfl ?_
                refine W.rd (X.indexSl Try.underlying26 inf5 rfl rfl c35.1 c35.2) rfl rfl rfl ?_
                refine W.rd (X.load Try.underlying5 rfl rfl (((rdC.at 2 hr0 HS rfl)).cellI c35.1 c35.2)) rfl rfl rfl ?_
                refine W.rd (X.rem rfl rfl (by decide)) rfl rfl rfl ?_
                refine W.rd (X.cmp (decide ((((a0).getD ((0 : Int)).toNat 0).tmod (2)) = 1)) rfl rfl rfl rfl) rfl rfl rfl ?_
                refine W.rd (X.assign rfl) rfl rfl rfl ?_
                refine W.nil ?_
                refine At.next ?_
                refine V.keep [(0, Value.slice (some ⟨eb36, eo37, none⟩) (a0).length sc0), (1, Value.int .i64 (a1)), (4, Value.pointer (some ⟨nb1, 0, none⟩)), (7, Value.pointer (some ⟨nb2, 0, none⟩)), (10, Value.int .i64 (0)), (58, Value.bool (decide ((((a0).getD ((0 : Int)).toNat 0).tmod (2)) = 1)))] ⟨rfl, rfl, rfl, rfl, rfl, rfl, trivial⟩ ?_
                by_cases c100 : (((a0).getD ((0 : Int)).toNat 0).tmod (2)) = 1
                · replace H := ite_t c100 H
                  refine V.condT (sb (decide_eq_true c100)) ?_
                  refine V.seq ?_
                  refine V.region ?_
                  replace HS := HS.front 1 rfl
                  have HS : Sep.St [api_Ctl.at nb2 (({ Kind := 0, Ns := 0, Nr := 0, Poll := false } : api_Ctl)), api_Ctl.at nb1 (({ Kind := 0, Ns := 0, Nr := 0, Poll := false } : api_Ctl)), R] w0 w := HS
                  obtain ⟨hi102, HS⟩ := api_Ctl.open HS
                  have HS : Sep.St [blk nb2 (#[Value.int .i64 ((({ Kind := 0, Ns := 0, Nr := 0, Poll := false } : api_Ctl)).Kind), Value.int .i64 ((({ Kind := 0, Ns := 0, Nr := 0, Poll := false } : api_Ctl)).Ns), Value.int .i64 ((({ Kind := 0, Ns := 0, Nr := 0, Poll := false } : api_Ctl)).Nr), Value.bool ((({ Kind := 0, Ns := 0, Nr := 0, Poll := false } : api_Ctl)).Poll)]) 23, api_Ctl.at nb1 (({ Kind := 0, Ns := 0, Nr := 0, Poll := false } : api_Ctl)), R] w0 w := HS
                  refine W.rd (X.loadSt 0 [Value.int .i64 ((({ Kind := 0, Ns := 0, Nr := 0, Poll := false } : api_Ctl)).Kind), Value.int .i64 ((({ Kind := 0, Ns := 0, Nr := 0, Poll := false } : api_Ctl)).Ns), Value.int .i64 ((({ Kind := 0, Ns := 0, Nr := 0, Poll := false } : api_Ctl)).Nr), Value.bool ((({ Kind := 0, Ns := 0, Nr := 0, Poll := false } : api_Ctl)).Poll)] HS rfl Try.underlying23 rfl inf23 rfl rfl) rfl rfl rfl ?_
                  replace HS := HS.front 1 rfl
                  have HS : Sep.St [api_Ctl.at nb1 (({ Kind := 0, Ns := 0, Nr := 0, Poll := false } : api_Ctl)), blk nb2 (#[Value.int .i64 ((({ Kind := 0, Ns := 0, Nr := 0, Poll := false } : api_Ctl)).Kind), Value.int .i64 ((({ Kind := 0, Ns := 0, Nr := 0, Poll := false } : api_Ctl)).Ns), Value.int .i64 ((({ Kind := 0, Ns := 0, Nr := 0, Poll := false } : api_Ctl)).Nr), Value.bool ((({ Kind := 0, Ns := 0, Nr := 0, Poll := false } : api_Ctl)).Poll)]) 23, R] w0 w := HS
                  obtain ⟨hi104, HS⟩ := api_Ctl.open HS
                  have HS : Sep.St [blk nb1 (#[Value.int .i64 ((({ Kind := 0, Ns := 0, Nr := 0, Poll := false } : api_Ctl)).Kind), Value.int .i64 ((({ Kind := 0, Ns := 0, Nr := 0, Poll := false } : api_Ctl)).Ns), Value.int .i64 ((({ Kind := 0, Ns := 0, Nr := 0, Poll := false } : api_Ctl)).Nr), Value.bool ((({ Kind := 0, Ns := 0, Nr := 0, Poll := false } : api_Ctl)).Poll)]) 23, blk nb2 (#[Value.int .i64 ((({ Kind := 0, Ns := 0, Nr := 0, Poll := false } : api_Ctl)).Kind), Value.int .i64 ((({ Kind := 0, Ns := 0, Nr := 0, Poll := false } : api_Ctl)).Ns), Value.int .i64 ((({ Kind := 0, Ns := 0, Nr := 0, Poll := false } : api_Ctl)).Nr), Value.bool ((({ Kind := 0, Ns := 0, Nr := 0, Poll := false } : api_Ctl)).Poll)]) 23, R] w0 w := HS
                  refine W.ev_none (Y.storeSt (c' := #[Value.int .i64 ((({ Kind := 0, Ns := 0, Nr := 0, Poll := false } : api_Ctl)).Kind), Value.int .i64 ((({ Kind := 0, Ns := 0, Nr := 0, Poll := false } : api_Ctl)).Ns), Value.int .i64 ((({ Kind := 0, Ns := 0, Nr := 0, Poll := false } : api_Ctl)).Nr), Value.bool ((({ Kind := 0, Ns := 0, Nr := 0, Poll := false } : api_Ctl)).Poll)]) 0 [Value.int .i64 ((({ Kind := 0, Ns := 0, Nr := 0, Poll := false } : api_Ctl)).Kind), Value.int .i64 ((({ Kind := 0, Ns := 0, Nr := 0, Poll := false } : api_Ctl)).Ns), Value.int .i64 ((({ Kind := 0, Ns := 0, Nr := 0, Poll := false } : api_Ctl)).Nr), Value.bool ((({ Kind := 0, Ns := 0, Nr := 0, Poll := false } : api_Ctl)).Poll)] HS rfl inf23 rfl rfl rfl rfl rfl rfl) rfl rfl ?_
                  rintro _ w HS
                  have HS : Sep.St [blk nb1 (#[Value.int .i64 ((({ Kind := 0, Ns := 0, Nr := 0, Poll := false } : api_Ctl)).Kind), Value.int .i64 ((({ Kind := 0, Ns := 0, Nr := 0, Poll := false } : api_Ctl)).Ns), Value.int .i64 ((({ Kind := 0, Ns := 0, Nr := 0, Poll := false } : api_Ctl)).Nr), Value.bool ((({ Kind := 0, Ns := 0, Nr := 0, Poll := false } : api_Ctl)).Poll)]) 23, blk nb2 (#[Value.int .i64 ((({ Kind := 0, Ns := 0, Nr := 0, Poll := false } : api_Ctl)).Kind), Value.int .i64 ((({ Kind := 0, Ns := 0, Nr := 0, Poll := false } : api_Ctl)).Ns), Value.int .i64 ((({ Kind := 0, Ns := 0, Nr := 0, Poll := false } : api_Ctl)).Nr), Value.bool ((({ Kind := 0, Ns := 0, Nr := 0, Poll := false } : api_Ctl)).Poll)]) 23, R] w0 w := HS
                  refine W.rd (X.assign rfl) rfl rfl rfl ?_
                  refine W.rd (X.assign rfl) rfl rfl rfl ?_
                  refine W.nil ?_
                  refine At.next ?_
                  refine V.keep [(4, Value.pointer (some ⟨nb1, 0, none⟩)), (5, Value.int .i64 (0)), (6, Value.int .i64 (2))] ⟨rfl, rfl, rfl, trivial⟩ ?_
                  refine V.ret ?_
                  refine At.blockRet ?_
                  refine At.thenRet ?_
                  have hv105 := run_loadSt (P := Try.prog) (p := 0) 0 [Value.int .i64 ((({ Kind := 0, Ns := 0, Nr := 0, Poll := false } : api_Ctl)).Kind), Value.int .i64 ((({ Kind := 0, Ns := 0, Nr := 0, Poll := false } : api_Ctl)).Ns), Value.int .i64 ((({ Kind := 0, Ns := 0, Nr := 0, Poll := false } : api_Ctl)).Nr), Value.bool ((({ Kind := 0, Ns := 0, Nr := 0, Poll := false } : api_Ctl)).Poll)] HS rfl Try.underlying23 rfl inf23 rfl
                  replace HS := HS.sel [2] [0, 1] rfl
                  cases H
                  exact At.retv3 rfl ⟨_, rfl, hv105⟩ rfl rfl ⟨_, rfl, rfl, HS⟩
                · replace H := ite_f c100 H
                  refine V.condF (sb (decide_eq_false c100)) ?_
                  refine V.skip ?_
                  refine At.blockEnd ?_
                  refine At.next ?_
                  refine V.keep [(0, Value.slice (some ⟨eb36, eo37, none⟩) (a0).length sc0), (1, Value.int .i64 (a1)), (4, Value.pointer (some ⟨nb1, 0, none⟩)), (7, Value.pointer (some ⟨nb2, 0, none⟩)), (10, Value.int .i64 (0))] ⟨rfl, rfl, rfl, rfl, rfl, trivial⟩ ?_
                  refine V.seq ?_
                  refine V.region ?_
                  refine W.rd (X.assign rfl) rfl rfl rfl ?_
                  refine W.nil ?_
                  refine At.next ?_
                  refine V.keep [(0, Value.slice (some ⟨eb36, eo37, none⟩) (a0).length sc0), (1, Value.int .i64 (a1)), (4, Value.pointer (some ⟨nb1, 0, none⟩)), (7, Value.pointer (some ⟨nb2, 0, none⟩)), (10, Value.int .i64 (0)), (11, Value.int .i64 (1))] ⟨rfl, rfl, rfl, rfl, rfl, rfl, trivial⟩ ?_
                  refine V.meet (σ := Int) (fun st w => match st with | x106 => Sep.St [api_Ctl.at nb1 (({ Kind := 0, Ns := 0, Nr := 0, Poll := false } : api_Ctl)), api_Ctl.at nb2 (({ Kind := 0, Ns := 0, Nr := 0, Poll := false } : api_Ctl)), R] w0 w ∧ signalmanref6_ReadCtl.j9 a0 x106 = some r) (fun st => match st with | x106 => [(0, Value.slice (some ⟨eb36, eo37, none⟩) (a0).length sc0), (4, Value.pointer (some ⟨nb1, 0, none⟩)), (7, Value.pointer (some ⟨nb2, 0, none⟩)), (10, Value.int .i64 (0)), (11, Value.int .i64 (x106))]) ?_ ?_
                  · refine V.seq ?_
                    refine V.region ?_
                    refine W.rd (X.move rfl) rfl rfl rfl ?_
                    refine W.rd (X.cmp (!(decide (a1 = 128))) rfl rfl rfl rfl) rfl rfl rfl ?_
                    refine W.nil ?_
                    refine At.next ?_
                    refine V.keep [(0, Value.slice (some ⟨eb36, eo37, none⟩) (a0).length sc0), (4, Value.pointer (some ⟨nb1, 0, none⟩)), (7, Value.pointer (some ⟨nb2, 0, none⟩)), (10, Value.int .i64 (0)), (11, Value.int .i64 (1)), (66, Value.bool (!(decide (a1 = 128))))] ⟨rfl, rfl, rfl, rfl, rfl, rfl, trivial⟩ ?_
                    by_cases c123 : a1 = 128
                    · replace H := ite_t c123 H
                      refine V.condF (sb (n_t (decide_eq_true c123))) ?_
                      refine V.skip ?_
                      exact At.meet (1) ⟨rfl, rfl, rfl, rfl, rfl, trivial⟩ ⟨HS, H⟩
                    · replace H := ite_f c123 H
                      refine V.condT (sb (n_f (decide_eq_false c123))) ?_
                      refine V.region ?_
                      refine W.rd (X.assign rfl) rfl rfl rfl ?_
                      refine W.nil ?_
                      exact At.meet (2) ⟨rfl, rfl, rfl, rfl, rfl, trivial⟩ ⟨HS, H⟩
                  · rintro x106 w ⟨HS, H⟩
                    unfold signalmanref6_ReadCtl.j9 at H
                    have HS : Sep.St [api_Ctl.at nb1 (({ Kind := 0, Ns := 0, Nr := 0, Poll := false } : api_Ctl)), api_Ctl.at nb2 (({ Kind := 0, Ns := 0, Nr := 0, Poll := false } : api_Ctl)), R] w0 w := HS
                    refine V.seq ?_
                    refine V.seq ?_
                    refine V.region ?_
                    refine W.rd (X.move rfl) rfl rfl rfl ?_
                    refine W.rd (X.lenSl Try.underlying26 rfl) rfl rfl rfl ?_
                    refine W.rd (X.move rfl) rfl rfl rfl ?_
                    refine W.rd (X.mul rfl rfl) rfl rfl rfl ?_
                    refine W.rd (X.cmp (decide (((a0).length : Int) < (w64 (2 * x106)))) rfl rfl rfl rfl) rfl rfl rfl ?_
                    refine W.nil ?_
                    refine At.next ?_
                    refine V.keep [(0, Value.slice (some ⟨eb36, eo37, none⟩) (a0).length sc0), (4, Value.pointer (some ⟨nb1, 0, none⟩)), (7, Value.pointer (some ⟨nb2, 0, none⟩)), (10, Value.int .i64 (0)), (11, Value.int .i64 (x106)), (71, Value.bool (decide (((a0).length : Int) < (w64 (2 * x106)))))] ⟨rfl, rfl, rfl, rfl, rfl, rfl, trivial⟩ ?_
                    by_cases c107 : ((a0).length : Int) < (w64 (2 * x106))
                    · replace H := ite_t c107 H
                      refine V.condT (sb (decide_eq_true c107)) ?_
                      refine V.seq ?_
                      refine V.region ?_
                      replace HS := HS.front 1 rfl
                      have HS : Sep.St [api_Ctl.at nb2 (({ Kind := 0, Ns := 0, Nr := 0, Poll := false } : api_Ctl)), api_Ctl.at nb1 (({ Kind := 0, Ns := 0, Nr := 0, Poll := false } : api_Ctl)), R] w0 w := HS
                      obtain ⟨hi109, HS⟩ := api_Ctl.open HS
                      have HS : Sep.St [blk nb2 (#[Value.int .i64 ((({ Kind := 0, Ns := 0, Nr := 0, Poll := false } : api_Ctl)).Kind), Value.int .i64 ((({ Kind := 0, Ns := 0, Nr := 0, Poll := false } : api_Ctl)).Ns), Value.int .i64 ((({ Kind := 0, Ns := 0, Nr := 0, Poll := false } : api_Ctl)).Nr), Value.bool ((({ Kind := 0, Ns := 0, Nr := 0, Poll := false } : api_Ctl)).Poll)]) 23, api_Ctl.at nb1 (({ Kind := 0, Ns := 0, Nr := 0, Poll := false } : api_Ctl)), R] w0 w := HS
                      refine W.rd (X.loadSt 0 [Value.int .i64 ((({ Kind := 0, Ns := 0, Nr := 0, Poll := false } : api_Ctl)).Kind), Value.int .i64 ((({ Kind := 0, Ns := 0, Nr := 0, Poll := false } : api_Ctl)).Ns), Value.int .i64 ((({ Kind := 0, Ns := 0, Nr := 0, Poll := false } : api_Ctl)).Nr), Value.bool ((({ Kind := 0, Ns := 0, Nr := 0, Poll := false } : api_Ctl)).Poll)] HS rfl Try.underlying23 rfl inf23 rfl rfl) rfl rfl rfl ?_
                      replace HS := HS.front 1 rfl
                      have HS : Sep.St [api_Ctl.at nb1 (({ Kind := 0, Ns := 0, Nr := 0, Poll := false } : api_Ctl)), blk nb2 (#[Value.int .i64 ((({ Kind := 0, Ns := 0, Nr := 0, Poll := false } : api_Ctl)).Kind), Value.int .i64 ((({ Kind := 0, Ns := 0, Nr := 0, Poll := false } : api_Ctl)).Ns), Value.int .i64 ((({ Kind := 0, Ns := 0, Nr := 0, Poll := false } : api_Ctl)).Nr), Value.bool ((({ Kind := 0, Ns := 0, Nr := 0, Poll := false } : api_Ctl)).Poll)]) 23, R] w0 w := HS
                      obtain ⟨hi111, HS⟩ := api_Ctl.open HS
                      have HS : Sep.St [blk nb1 (#[Value.int .i64 ((({ Kind := 0, Ns := 0, Nr := 0, Poll := false } : api_Ctl)).Kind), Value.int .i64 ((({ Kind := 0, Ns := 0, Nr := 0, Poll := false } : api_Ctl)).Ns), Value.int .i64 ((({ Kind := 0, Ns := 0, Nr := 0, Poll := false } : api_Ctl)).Nr), Value.bool ((({ Kind := 0, Ns := 0, Nr := 0, Poll := false } : api_Ctl)).Poll)]) 23, blk nb2 (#[Value.int .i64 ((({ Kind := 0, Ns := 0, Nr := 0, Poll := false } : api_Ctl)).Kind), Value.int .i64 ((({ Kind := 0, Ns := 0, Nr := 0, Poll := false } : api_Ctl)).Ns), Value.int .i64 ((({ Kind := 0, Ns := 0, Nr := 0, Poll := false } : api_Ctl)).Nr), Value.bool ((({ Kind := 0, Ns := 0, Nr := 0, Poll := false } : api_Ctl)).Poll)]) 23, R] w0 w := HS
                      refine W.ev_none (Y.storeSt (c' := #[Value.int .i64 ((({ Kind := 0, Ns := 0, Nr := 0, Poll := false } : api_Ctl)).Kind), Value.int .i64 ((({ Kind := 0, Ns := 0, Nr := 0, Poll := false } : api_Ctl)).Ns), Value.int .i64 ((({ Kind := 0, Ns := 0, Nr := 0, Poll := false } : api_Ctl)).Nr), Value.bool ((({ Kind := 0, Ns := 0, Nr := 0, Poll := false } : api_Ctl)).Poll)]) 0 [Value.int .i64 ((({ Kind := 0, Ns := 0, Nr := 0, Poll := false } : api_Ctl)).Kind), Value.int .i64 ((({ Kind := 0, Ns := 0, Nr := 0, Poll := false } : api_Ctl)).Ns), Value.int .i64 ((({ Kind := 0, Ns := 0, Nr := 0, Poll := false } : api_Ctl)).Nr), Value.bool ((({ Kind := 0, Ns := 0, Nr := 0, Poll := false } : api_Ctl)).Poll)] HS rfl inf23 rfl rfl rfl rfl rfl rfl) rfl rfl ?_
                      rintro _ w HS
                      have HS : Sep.St [blk nb1 (#[Value.int .i64 ((({ Kind := 0, Ns := 0, Nr := 0, Poll := false } : api_Ctl)).Kind), Value.int .i64 ((({ Kind := 0, Ns := 0, Nr := 0, Poll := false } : api_Ctl)).Ns), Value.int .i64 ((({ Kind := 0, Ns := 0, Nr := 0, Poll := false } : api_Ctl)).Nr), Value.bool ((({ Kind := 0, Ns := 0, Nr := 0, Poll := false } : api_Ctl)).Poll)]) 23, blk nb2 (#[Value.int .i64 ((({ Kind := 0, Ns := 0, Nr := 0, Poll := false } : api_Ctl)).Kind), Value.int .i64 ((({ Kind := 0, Ns := 0, Nr := 0, Poll := false } : api_Ctl)).Ns), Value.int .i64 ((({ Kind := 0, Ns := 0, Nr := 0, Poll := false } : api_Ctl)).Nr), Value.bool ((({ Kind := 0, Ns := 0, Nr := 0, Poll := false } : api_Ctl)).Poll)]) 23, R] w0 w := HS
                      refine W.rd (X.assign rfl) rfl rfl rfl ?_
                      refine W.rd (X.assign rfl) rfl rfl rfl ?_
                      refine W.nil ?_
                      refine At.next ?_
                      refine V.keep [(4, Value.pointer (some ⟨nb1, 0, none⟩)), (5, Value.int .i64 (0)), (6, Value.int .i64 (3))] ⟨rfl, rfl, rfl, trivial⟩ ?_
                      refine V.ret ?_
                      refine At.thenRet ?_
                      have hv112 := run_loadSt (P := Try.prog) (p := 0) 0 [Value.int .i64 ((({ Kind := 0, Ns := 0, Nr := 0, Poll := false } : api_Ctl)).Kind), Value.int .i64 ((({ Kind := 0, Ns := 0, Nr := 0, Poll := false } : api_Ctl)).Ns), Value.int .i64 ((({ Kind := 0, Ns := 0, Nr := 0, Poll := false } : api_Ctl)).Nr), Value.bool ((({ Kind := 0, Ns := 0, Nr := 0, Poll := false } : api_Ctl)).Poll)] HS rfl Try.underlying23 rfl inf23 rfl
                      replace HS := HS.sel [2] [0, 1] rfl
                      cases H
                      exact At.retv3 rfl ⟨_, rfl, hv112⟩ rfl rfl ⟨_, rfl, rfl, HS⟩
                    · replace H := ite_f c107 H
                      refine V.condF (sb (decide_eq_false c107)) ?_
                      refine V.skip ?_
                      refine At.next ?_
                      refine V.keep [(0, Value.slice (some ⟨eb36, eo37, none⟩) (a0).length sc0), (4, Value.pointer (some ⟨nb1, 0, none⟩)), (7, Value.pointer (some ⟨nb2, 0, none⟩)), (10, Value.int .i64 (0)), (11, Value.int .i64 (x106))] ⟨rfl, rfl, rfl, rfl, rfl, trivial⟩ ?_
                      refine V.seq ?_
                      refine V.region ?_
                      refine W.rd (X.move rfl) rfl rfl rfl ?_
                      refine W.rd (X.indexSl Try.underlying26 inf5 rfl rfl c35.1 c35.2) rfl rfl rfl ?_
                      refine W.rd (X.load Try.underlying5 rfl rfl (((rdC.at 2 hr0 HS rfl)).cellI c35.1 c35.2)) rfl rfl rfl ?_
                      refine W.rd (X.conv Try.underlying5 Try.underlying3 rfl) rfl rfl rfl ?_
                      refine W.rd (X.assign rfl) rfl rfl rfl ?_
                      refine W.nil ?_
                      refine At.next ?_
                      refine V.keep [(0, Value.slice (some ⟨eb36, eo37, none⟩) (a0).length sc0), (4, Value.pointer (some ⟨nb1, 0, none⟩)), (7, Value.pointer (some ⟨nb2, 0, none⟩)), (10, Value.int .i64 (0)), (11, Value.int .i64 (x106)), (12, Value.int .i64 (w64 ((a0).getD ((0 : Int)).toNat 0)))] ⟨rfl, rfl, rfl, rfl, rfl, rfl, trivial⟩ ?_
                      refine V.seq ?_
                      refine V.region ?_
                      refine W.rd (X.move rfl) rfl rfl rfl ?_
                      refine W.rd (X.move rfl) rfl rfl rfl ?_
                      obtain ⟨c113, H⟩ := ite_n H
                      refine W.rd (X.indexSl Try.underlying26 inf5 rfl rfl c113.1 c113.2) rfl rfl rfl ?_
                      refine W.rd (X.load Try.underlying5 rfl rfl (((rdC.at 2 hr0 HS rfl)).cellI c113.1 c113.2)) rfl rfl rfl ?_
                      refine W.rd (X.conv Try.underlying5 Try.underlying3 rfl) rfl rfl rfl ?_
                      refine W.rd (X.assign rfl) rfl rfl rfl ?_
                      refine W.nil ?_
                      refine At.next ?_
                      refine V.keep [(0, Value.slice (some ⟨eb36, eo37, none⟩) (a0).length sc0), (4, Value.pointer (some ⟨nb1, 0, none⟩)), (7, Value.pointer (some ⟨nb2, 0, none⟩)), (10, Value.int .i64 (0)), (11, Value.int .i64 (x106)), (12, Value.int .i64 (w64 ((a0).getD ((0 : Int)).toNat 0))), (13, Value.int .i64 (w64 ((a0).getD (x106).toNat 0)))] ⟨rfl, rfl, rfl, rfl, rfl, rfl, rfl, trivial⟩ ?_
                      refine V.meet (σ := Int × Int) (fun st w => match st with | (x114, x115) => Sep.St [api_Ctl.at nb1 (({ Kind := 0, Ns := 0, Nr := 0, Poll := false } : api_Ctl)), api_Ctl.at nb2 (({ Kind := 0, Ns := 0, Nr := 0, Poll := false } : api_Ctl)), R] w0 w ∧ signalmanref6_ReadCtl.j10 x106 x114 x115 = some r) (fun st => match st with | (x114, x115) => [(0, Value.slice (some ⟨eb36, eo37, none⟩) (a0).length sc0), (4, Value.pointer (some ⟨nb1, 0, none⟩)), (7, Value.pointer (some ⟨nb2, 0, none⟩)), (10, Value.int .i64 (0)), (11, Value.int .i64 (x106)), (12, Value.int .i64 (x114)), (13, Value.int .i64 (x115))]) ?_ ?_
                      · refine V.seq ?_
                        refine V.region ?_
                        refine W.rd (X.move rfl) rfl rfl rfl ?_
                        refine W.rd (X.cmp (decide (x106 = 2)) rfl rfl rfl rfl) rfl rfl rfl ?_
                        refine W.nil ?_
                        refine At.next ?_
                        refine V.keep [(0, Value.slice (some ⟨eb36, eo37, none⟩) (a0).length sc0), (4, Value.pointer (some ⟨nb1, 0, none⟩)), (7, Value.pointer (some ⟨nb2, 0, none⟩)), (10, Value.int .i64 (0)), (11, Value.int .i64 (x106)), (12, Value.int .i64 (w64 ((a0).getD ((0 : Int)).toNat 0))), (13, Value.int .i64 (w64 ((a0).getD (x106).toNat 0))), (83, Value.bool (decide (x106 = 2)))] ⟨rfl, rfl, rfl, rfl, rfl, rfl, rfl, rfl, trivial⟩ ?_
                        by_cases c120 : x106 = 2
                        · replace H := ite_t c120 H
                          refine V.condT (sb (decide_eq_true c120)) ?_
                          refine V.seq ?_
                          refine V.region ?_
                          refine W.rd (X.move rfl) rfl rfl rfl ?_
                          refine W.rd (X.move rfl) rfl rfl rfl ?_
                          obtain ⟨c121, H⟩ := ite_n H
                          refine W.rd (X.indexSl Try.underlying26 inf5 rfl rfl c121.1 c121.2) rfl rfl rfl ?_
                          refine W.rd (X.load Try.underlying5 rfl rfl (((rdC.at 2 hr0 HS rfl)).cellI c121.1 c121.2)) rfl rfl rfl ?_
                          refine W.rd (X.conv Try.underlying5 Try.underlying3 rfl) rfl rfl rfl ?_
                          refine W.rd (X.mul rfl rfl) rfl rfl rfl ?_
                          refine W.rd (X.add rfl rfl) rfl rfl rfl ?_
                          refine W.rd (X.assign rfl) rfl rfl rfl ?_
                          refine W.nil ?_
                          refine At.next ?_
                          refine V.keep [(0, Value.slice (some ⟨eb36, eo37, none⟩) (a0).length sc0), (4, Value.pointer (some ⟨nb1, 0, none⟩)), (7, Value.pointer (some ⟨nb2, 0, none⟩)), (10, Value.int .i64 (0)), (11, Value.int .i64 (x106)), (12, Value.int .i64 (w64 ((w64 ((a0).getD ((0 : Int)).toNat 0)) + (w64 (256 * (w64 ((a0).getD ((1 : Int)).toNat 0))))))), (13, Value.int .i64 (w64 ((a0).getD (x106).toNat 0)))] ⟨rfl, rfl, rfl, rfl, rfl, rfl, rfl, trivial⟩ ?_
                          refine V.region ?_
                          refine W.rd (X.move rfl) rfl rfl rfl ?_
                          refine W.rd (X.move rfl) rfl rfl rfl ?_
                          obtain ⟨c122, H⟩ := ite_n H
                          refine W.rd (X.indexSl Try.underlying26 inf5 rfl rfl c122.1 c122.2) rfl rfl rfl ?_
                          refine W.rd (X.load Try.underlying5 rfl rfl (((rdC.at 2 hr0 HS rfl)).cellI c122.1 c122.2)) rfl rfl rfl ?_
                          refine W.rd (X.conv Try.underlying5 Try.underlying3 rfl) rfl rfl rfl ?_
                          refine W.rd (X.mul rfl rfl) rfl rfl rfl ?_
                          refine W.rd (X.add rfl rfl) rfl rfl rfl ?_
                          refine W.rd (X.assign rfl) rfl rfl rfl ?_
                          refine W.nil ?_
                          exact At.meet (w64 ((w64 ((a0).getD ((0 : Int)).toNat 0)) + (w64 (256 * (w64 ((a0).getD ((1 : Int)).toNat 0))))), w64 ((w64 ((a0).getD (x106).toNat 0)) + (w64 (256 * (w64 ((a0).getD ((3 : Int)).toNat 0)))))) ⟨rfl, rfl, rfl, rfl, rfl, rfl, rfl, trivial⟩ ⟨HS, H⟩
                        · replace H := ite_f c120 H
                          refine V.condF (sb (decide_eq_false c120)) ?_
                          refine V.skip ?_
                          exact At.meet (w64 ((a0).getD ((0 : Int)).toNat 0), w64 ((a0).getD (x106).toNat 0)) ⟨rfl, rfl, rfl, rfl, rfl, rfl, rfl, trivial⟩ ⟨HS, H⟩
                      · rintro ⟨x114, x115⟩ w ⟨HS, H⟩
                        unfold signalmanref6_ReadCtl.j10 at H
                        have HS : Sep.St [api_Ctl.at nb1 (({ Kind := 0, Ns := 0, Nr := 0, Poll := false } : api_Ctl)), api_Ctl.at nb2 (({ Kind := 0, Ns := 0, Nr := 0, Poll := false } : api_Ctl)), R] w0 w := HS
                        refine V.seq ?_
                        refine V.region ?_
                        refine W.rd (X.move rfl) rfl rfl rfl ?_
                        refine W.rd (X.move rfl) rfl rfl rfl ?_
                        refine W.rd (X.quo rfl rfl (by decide)) rfl rfl rfl ?_
                        refine W.rd (X.move rfl) rfl rfl rfl ?_
                        refine W.rd (X.rem rfl rfl (by decide)) rfl rfl rfl ?_
                        refine W.rd (X.cmp (decide (((x115).tmod (2)) = 1)) rfl rfl rfl rfl) rfl rfl rfl ?_
                        refine W.rd (X.build (vs := #[(0, Value.int .i64 (0)), (2, Value.int .i64 (w64 ((x115).tdiv (2)))), (3, Value.bool (decide (((x115).tmod (2)) = 1)))]) (v := Value.agg #[Value.int .i64 (0), Value.int .i64 (0), Value.int .i64 (w64 ((x115).tdiv (2))), Value.bool (decide (((x115).tmod (2)) = 1))]) (fun a ha => by simp only [List.map_toArray, List.map_cons, List.map_nil]; rw [ha.ev (x := .tmp 98) (v := Value.int .i64 (0)) rfl]; rw [ha.ev (x := .tmp 100) (v := Value.int .i64 (w64 ((x115).tdiv (2)))) rfl]; rw [ha.ev (x := .tmp 103) (v := Value.bool (decide (((x115).tmod (2)) = 1))) rfl]; try rfl) (fun _ => by kernel_rfl)) rfl rfl rfl ?_
                        refine W.ev (Y.alloc (z := Value.agg (#[Value.int .i64 (0), Value.int .i64 (0), Value.int .i64 (0), Value.bool (false)])) HS ze23) rfl rfl rfl ?_
                        rintro _ w ⟨nb116, rfl, HS⟩
                        have HS : Sep.St [blk nb116 (#[Value.int .i64 (0), Value.int .i64 (0), Value.int .i64 (0), Value.bool (false)]) 23, api_Ctl.at nb1 (({ Kind := 0, Ns := 0, Nr := 0, Poll := false } : api_Ctl)), api_Ctl.at nb2 (({ Kind := 0, Ns := 0, Nr := 0, Poll := false } : api_Ctl)), R] w0 w := HS
                        refine W.ev_none (Y.storeSt (c' := #[Value.int .i64 (0), Value.int .i64 (0), Value.int .i64 (w64 ((x115).tdiv (2))), Value.bool (decide (((x115).tmod (2)) = 1))]) 0 [Value.int .i64 (0), Value.int .i64 (0), Value.int .i64 (w64 ((x115).tdiv (2))), Value.bool (decide (((x115).tmod (2)) = 1))] HS rfl inf23 rfl rfl rfl rfl rfl rfl) rfl rfl ?_
                        rintro _ w HS
                        have HS : Sep.St [blk nb116 (#[Value.int .i64 (0), Value.int .i64 (0), Value.int .i64 (w64 ((x115).tdiv (2))), Value.bool (decide (((x115).tmod (2)) = 1))]) 23, api_Ctl.at nb1 (({ Kind := 0, Ns := 0, Nr := 0, Poll := false } : api_Ctl)), api_Ctl.at nb2 (({ Kind := 0, Ns := 0, Nr := 0, Poll := false } : api_Ctl)), R] w0 w := HS
                        refine W.nil ?_
                        refine At.next ?_
                        refine V.keep [(0, Value.slice (some ⟨eb36, eo37, none⟩) (a0).length sc0), (4, Value.pointer (some ⟨nb1, 0, none⟩)), (7, Value.pointer (some ⟨nb2, 0, none⟩)), (10, Value.int .i64 (0)), (11, Value.int .i64 (x106)), (12, Value.int .i64 (x114)), (14, Value.pointer (some ⟨nb116, 0, none⟩))] ⟨rfl, rfl, rfl, rfl, rfl, rfl, rfl, trivial⟩ ?_
                        refine V.seq ?_
                        refine V.seq ?_
                        refine V.region ?_
                        refine W.rd (X.move rfl) rfl rfl rfl ?_
                        refine W.rd (X.cmp true (by decide) rfl rfl rfl) rfl rfl rfl ?_
                        refine W.nil ?_
                        refine At.next ?_
                        refine V.keep [(0, Value.slice (some ⟨eb36, eo37, none⟩) (a0).length sc0), (4, Value.pointer (some ⟨nb1, 0, none⟩)), (7, Value.pointer (some ⟨nb2, 0, none⟩)), (11, Value.int .i64 (x106)), (12, Value.int .i64 (x114)), (14, Value.pointer (some ⟨nb116, 0, none⟩)), (106, Value.bool (true))] ⟨rfl, rfl, rfl, rfl, rfl, rfl, rfl, trivial⟩ ?_
                        refine V.condT rfl ?_
                        refine V.region ?_
                        refine W.rd (X.move rfl) rfl rfl rfl ?_
                        refine W.rd (X.quo rfl rfl (by decide)) rfl rfl rfl ?_
                        refine W.rd (X.fieldAddr 1 fo23_1 rfl) rfl rfl rfl ?_
                        refine W.ev_none (Y.storeAt 0 HS rfl inf3 rfl rfl rfl rfl rfl rfl) rfl rfl ?_
                        rintro _ w HS
                        have HS : Sep.St [blk nb116 (#[Value.int .i64 (0), Value.int .i64 (w64 ((x114).tdiv (2))), Value.int .i64 (w64 ((x115).tdiv (2))), Value.bool (decide (((x115).tmod (2)) = 1))]) 23, api_Ctl.at nb1 (({ Kind := 0, Ns := 0, Nr := 0, Poll := false } : api_Ctl)), api_Ctl.at nb2 (({ Kind := 0, Ns := 0, Nr := 0, Poll := false } : api_Ctl)), R] w0 w := HS
                        refine W.nil ?_
                        refine At.next ?_
                        refine V.keep [(4, Value.pointer (some ⟨nb1, 0, none⟩)), (11, Value.int .i64 (x106)), (14, Value.pointer (some ⟨nb116, 0, none⟩))] ⟨rfl, rfl, rfl, trivial⟩ ?_
                        refine V.seq ?_
                        refine V.region ?_
                        refine W.rd (X.loadSt 0 [Value.int .i64 (0), Value.int .i64 (w64 ((x114).tdiv (2))), Value.int .i64 (w64 ((x115).tdiv (2))), Value.bool (decide (((x115).tmod (2)) = 1))] HS rfl Try.underlying23 rfl inf23 rfl rfl) rfl rfl rfl ?_
                        refine W.rd (X.move rfl) rfl rfl rfl ?_
                        refine W.rd (X.mul rfl rfl) rfl rfl rfl ?_
                        replace HS := HS.front 1 rfl
                        have HS : Sep.St [api_Ctl.at nb1 (({ Kind := 0, Ns := 0, Nr := 0, Poll := false } : api_Ctl)), blk nb116 (#[Value.int .i64 (0), Value.int .i64 (w64 ((x114).tdiv (2))), Value.int .i64 (w64 ((x115).tdiv (2))), Value.bool (decide (((x115).tmod (2)) = 1))]) 23, api_Ctl.at nb2 (({ Kind := 0, Ns := 0, Nr := 0, Poll := false } : api_Ctl)), R] w0 w := HS
                        obtain ⟨hi118, HS⟩ := api_Ctl.open HS
                        have HS : Sep.St [blk nb1 (#[Value.int .i64 ((({ Kind := 0, Ns := 0, Nr := 0, Poll := false } : api_Ctl)).Kind), Value.int .i64 ((({ Kind := 0, Ns := 0, Nr := 0, Poll := false } : api_Ctl)).Ns), Value.int .i64 ((({ Kind := 0, Ns := 0, Nr := 0, Poll := false } : api_Ctl)).Nr), Value.bool ((({ Kind := 0, Ns := 0, Nr := 0, Poll := false } : api_Ctl)).Poll)]) 23, blk nb116 (#[Value.int .i64 (0), Value.int .i64 (w64 ((x114).tdiv (2))), Value.int .i64 (w64 ((x115).tdiv (2))), Value.bool (decide (((x115).tmod (2)) = 1))]) 23, api_Ctl.at nb2 (({ Kind := 0, Ns := 0, Nr := 0, Poll := false } : api_Ctl)), R] w0 w := HS
                        refine W.ev_none (Y.storeSt (c' := #[Value.int .i64 (0), Value.int .i64 (w64 ((x114).tdiv (2))), Value.int .i64 (w64 ((x115).tdiv (2))), Value.bool (decide (((x115).tmod (2)) = 1))]) 0 [Value.int .i64 (0), Value.int .i64 (w64 ((x114).tdiv (2))), Value.int .i64 (w64 ((x115).tdiv (2))), Value.bool (decide (((x115).tmod (2)) = 1))] HS rfl inf23 rfl rfl rfl rfl rfl rfl) rfl rfl ?_
                        rintro _ w HS
                        have HS : Sep.St [blk nb1 (#[Value.int .i64 (0), Value.int .i64 (w64 ((x114).tdiv (2))), Value.int .i64 (w64 ((x115).tdiv (2))), Value.bool (decide (((x115).tmod (2)) = 1))]) 23, blk nb116 (#[Value.int .i64 (0), Value.int .i64 (w64 ((x114).tdiv (2))), Value.int .i64 (w64 ((x115).tdiv (2))), Value.bool (decide (((x115).tmod (2)) = 1))]) 23, api_Ctl.at nb2 (({ Kind := 0, Ns := 0, Nr := 0, Poll := false } : api_Ctl)), R] w0 w := HS
                        refine W.rd (X.assign rfl) rfl rfl rfl ?_
                        refine W.rd (X.assign rfl) rfl rfl rfl ?_
                        refine W.nil ?_
                        refine At.next ?_
                        refine V.keep [(4, Value.pointer (some ⟨nb1, 0, none⟩)), (5, Value.int .i64 (w64 (2 * x106))), (6, Value.int .i64 (0))] ⟨rfl, rfl, rfl, trivial⟩ ?_
                        refine V.ret ?_
                        have hv119 := run_loadSt (P := Try.prog) (p := 0) 0 [Value.int .i64 (0), Value.int .i64 (w64 ((x114).tdiv (2))), Value.int .i64 (w64 ((x115).tdiv (2))), Value.bool (decide (((x115).tmod (2)) = 1))] HS rfl Try.underlying23 rfl inf23 rfl
                        replace HS := HS.sel [3] [0, 1, 2] rfl
                        cases H
                        exact At.retv3 rfl ⟨_, rfl, hv119⟩ rfl rfl ⟨_, rfl, rfl, HS⟩

/-! ### signalman/signalmanlaw12.num: function 14 -/
def signalmanlaw12_num.f (a0 : Int) : Option (Int) := some (a0)
set_option maxRecDepth 100000 in
set_option maxHeartbeats 4000000 in
theorem signalmanlaw12_num.calls (a0 : Int) (R : As) (w0 w : World)  (r : Int)  (H : signalmanlaw12_num.f a0 = some r) (HS : Sep.St [R] w0 w) : Calls Try.prog 14 #[Value.int .i64 (a0)] w (Ret fun u w => u = Value.int .i64 (r) ∧ Sep.St [R] w0 w) := by
  unfold signalmanlaw12_num.f at H
  refine calls_enter Try.func14 rfl rfl ?_
  have H : _ = some r := H
  refine V.seq ?_
  refine V.region ?_
  refine W.rd (X.assign rfl) rfl rfl rfl ?_
  refine W.nil ?_
  refine At.next ?_
  refine V.keep [(0, Value.int .i64 (a0))] ⟨rfl, trivial⟩ ?_
  refine V.seq ?_
  refine V.region ?_
  refine W.rd (X.move rfl) rfl rfl rfl ?_
  refine W.rd (X.assign rfl) rfl rfl rfl ?_
  refine W.nil ?_
  refine At.next ?_
  refine V.keep [(2, Value.int .i64 (a0))] ⟨rfl, trivial⟩ ?_
  refine V.ret ?_
  cases H
  exact At.ret1 rfl rfl ⟨_, rfl, rfl, HS⟩

def api_Ctl.beq (x y : api_Ctl) : Bool := (x.Kind == y.Kind && (x.Ns == y.Ns && (x.Nr == y.Nr && (x.Poll == y.Poll && true))))

/-! ### signalman/signalmanlaw12.ControlReads: function 7 -/
mutual
def signalmanlaw12_ControlReads.j0 (k : Nat) (a0 : List Int) (a1 : Int) (t1 : Bool) (x3 : Bool) : Option (Bool) := (if x3 = true then some (t1) else (if ((([] : List Int)).length : Int) + (a0).length ≤ 1099511627776 then ((control_Read.f k (([] : List Int) ++ a0) a1).bind fun t8 => ((signalmanref6_ReadCtl.f k a0 a1).bind fun t11 => (if api_Ctl.beq (t8.1) (t11.1) = true then (if t8.2.1 = t11.2.1 then ((signalmanlaw12_num.f t8.2.2).bind fun t16 => some (decide (t16 = t11.2.2))) else some (false)) else some (false)))) else none))
end
def signalmanlaw12_ControlReads.f (k : Nat) (a0 : List Int) (a1 : Int) : Option (Bool) := ((signalmanlaw12_alive.f ).bind fun t1 => (if t1 = true then (signalmanlaw12_ControlReads.j0 k a0 a1 t1 (decide (((a0).length : Int) > 50))) else (signalmanlaw12_ControlReads.j0 k a0 a1 t1 true)))
set_option maxRecDepth 100000 in
set_option maxHeartbeats 4000000 in
theorem signalmanlaw12_ControlReads.calls (k : Nat) (a0 : List Int) (a1 : Int) (R : As) (w0 w : World) (sa0 : Option Addr) (sc0 : Nat) (r : Bool) (hr0 : rdC R 1 (.slice sa0 (a0).length sc0) (a0).length ((a0).map (Value.int .u8))) (H : signalmanlaw12_ControlReads.f k a0 a1 = some r) (HS : Sep.St [R] w0 w) : Calls Try.prog 7 #[Value.slice sa0 (a0).length sc0, Value.int .i64 (a1)] w (Ret fun u w => u = Value.bool (r) ∧ Sep.St [R] w0 w) := by
  unfold signalmanlaw12_ControlReads.f at H
  refine calls_enter Try.func7 rfl rfl ?_
  have H : _ = some r := H
  refine V.seq ?_
  refine V.region ?_
  refine W.rd (X.assign rfl) rfl rfl rfl ?_
  refine W.nil ?_
  refine At.next ?_
  refine V.keep [(0, Value.slice sa0 (a0).length sc0), (1, Value.int .i64 (a1))] ⟨rfl, rfl, trivial⟩ ?_
  refine V.seq ?_
  refine V.region ?_
  obtain ⟨t1, A2, H⟩ := bind_s H
  refine W.ev (Y.call Try.func8 (by kernel_rfl) rfl (vs := []) rfl (signalmanlaw12_alive.calls  _ w0 _  t1  A2 (Sep.St.tailJoin (m := []) (r := [R]) HS))) rfl rfl rfl ?_
  rintro _ w ⟨rfl, HS⟩
  replace HS := Sep.St.tailOpen (m := []) (r := [R]) HS
  have HS : Sep.St [R] w0 w := HS
  refine W.rd (X.assign rfl) rfl rfl rfl ?_
  refine W.nil ?_
  refine At.next ?_
  refine V.keep [(0, Value.slice sa0 (a0).length sc0), (1, Value.int .i64 (a1)), (5, Value.bool (t1))] ⟨rfl, rfl, rfl, trivial⟩ ?_
  refine V.seq ?_
  refine V.meet (σ := Bool) (fun st w => match st with | x3 => Sep.St [R] w0 w ∧ signalmanlaw12_ControlReads.j0 k a0 a1 t1 x3 = some r) (fun st => match st with | x3 => [(0, Value.slice sa0 (a0).length sc0), (1, Value.int .i64 (a1)), (5, Value.bool (t1)), (19, Value.bool (x3))]) ?_ ?_
  · refine V.region ?_
    refine W.rd (X.move rfl) rfl rfl rfl ?_
    refine W.rd (X.not rfl) rfl rfl rfl ?_
    refine W.rd (X.move rfl) rfl rfl rfl ?_
    by_cases c18 : t1 = true
    · replace H := ite_t c18 H
      refine W.want 15 rfl (sb (n_t c18)) ?_
      refine W.rd (X.move rfl) rfl rfl rfl ?_
      refine W.want 15 rfl (sb (n_t c18)) ?_
      refine W.rd (X.lenSl Try.underlying26 rfl) rfl rfl rfl ?_
      refine W.want 15 rfl (sb (n_t c18)) ?_
      refine W.rd (X.cmp (decide (((a0).length : Int) > 50)) rfl rfl rfl rfl) rfl rfl rfl ?_
      refine W.rd (X.pickF (sb (n_t c18)) rfl) rfl rfl rfl ?_
      refine W.nil ?_
      exact At.meet (decide (((a0).length : Int) > 50)) ⟨rfl, rfl, rfl, rfl, trivial⟩ ⟨HS, H⟩
    · replace H := ite_f c18 H
      refine W.pass 15 rfl (sb (n_f (b_f c18))) rfl rfl ?_
      refine W.pass 15 rfl (sb (n_f (b_f c18))) rfl rfl ?_
      refine W.pass 15 rfl (sb (n_f (b_f c18))) rfl rfl ?_
      refine W.rd (X.pickT (sb (n_f (b_f c18))) rfl) rfl rfl rfl ?_
      refine W.nil ?_
      exact At.meet (true) ⟨rfl, rfl, rfl, rfl, trivial⟩ ⟨HS, H⟩
  · rintro x3 w ⟨HS, H⟩
    unfold signalmanlaw12_ControlReads.j0 at H
    have HS : Sep.St [R] w0 w := HS
    by_cases c4 : x3 = true
    · replace H := ite_t c4 H
      refine V.condT (sb c4) ?_
      refine V.seq ?_
      refine V.region ?_
      refine W.rd (X.move rfl) rfl rfl rfl ?_
      refine W.rd (X.assign rfl) rfl rfl rfl ?_
      refine W.nil ?_
      refine At.next ?_
      refine V.keep [(4, Value.bool (t1))] ⟨rfl, trivial⟩ ?_
      refine V.ret ?_
      refine At.thenRet ?_
      cases H
      exact At.ret1 rfl rfl ⟨_, rfl, rfl, HS⟩
    · replace H := ite_f c4 H
      refine V.condF (sb (b_f c4)) ?_
      refine V.skip ?_
      refine At.next ?_
      refine V.keep [(0, Value.slice sa0 (a0).length sc0), (1, Value.int .i64 (a1))] ⟨rfl, rfl, trivial⟩ ?_
      refine V.seq ?_
      refine V.region ?_
      refine W.rd (X.move rfl) rfl rfl rfl ?_
      obtain ⟨c5, H⟩ := ite_n H
      replace HS := row_nil' (e := 5) 1 none HS
      have HS : Sep.St [row 5 1 (.slice none (([] : List Int)).length 0) (([] : List Int)).length ((([] : List Int)).map (Value.int .u8)), R] w0 w := HS
      refine W.ev (Y.appF (Value.int .u8) (fun _ => rfl) 0 Try.underlying26 ap5 rfl HS rfl rfl rfl (rdC.at 1 hr0 HS rfl) (by omega) (by omega)) rfl rfl rfl ?_
      rintro _ w ⟨ra6, rc7, rfl, HS⟩
      have HS : Sep.St [row 5 1 (.slice ra6 (([] : List Int) ++ a0).length rc7) (([] : List Int) ++ a0).length ((([] : List Int) ++ a0).map (Value.int .u8)), R] w0 w := HS
      refine W.rd (X.move rfl) rfl rfl rfl ?_
      obtain ⟨t8, A9, H⟩ := bind_s H
      refine W.ev (Y.call Try.func13 (by kernel_rfl) rfl (vs := [Value.slice ra6 (([] : List Int) ++ a0).length rc7, Value.int .i64 (a1)]) rfl (control_Read.calls k (([] : List Int) ++ a0) a1 _ w0 _ ra6 rc7 t8 (rdC.part 0 row_rd rfl) A9 (Sep.St.tailJoin (m := []) (r := [row 5 1 (.slice ra6 (([] : List Int) ++ a0).length rc7) (([] : List Int) ++ a0).length ((([] : List Int) ++ a0).map (Value.int .u8)), R]) HS))) rfl rfl rfl ?_
      rintro _ w ⟨rfl, HS⟩
      replace HS := Sep.St.tailOpen (m := []) (r := [row 5 1 (.slice ra6 (([] : List Int) ++ a0).length rc7) (([] : List Int) ++ a0).length ((([] : List Int) ++ a0).map (Value.int .u8)), R]) HS
      have HS : Sep.St [row 5 1 (.slice ra6 (([] : List Int) ++ a0).length rc7) (([] : List Int) ++ a0).length ((([] : List Int) ++ a0).map (Value.int .u8)), R] w0 w := HS
      refine W.rd (X.move rfl) rfl rfl rfl ?_
      refine W.rd (X.extract rfl rfl) rfl rfl rfl ?_
      refine W.rd (X.extract rfl rfl) rfl rfl rfl ?_
      refine W.rd (X.extract rfl rfl) rfl rfl rfl ?_
      refine W.ev (Y.alloc (z := Value.agg (#[Value.int .i64 (0), Value.int .i64 (0), Value.int .i64 (0), Value.bool (false)])) HS ze23) rfl rfl rfl ?_
      rintro _ w ⟨nb10, rfl, HS⟩
      have HS : Sep.St [blk nb10 (#[Value.int .i64 (0), Value.int .i64 (0), Value.int .i64 (0), Value.bool (false)]) 23, row 5 1 (.slice ra6 (([] : List Int) ++ a0).length rc7) (([] : List Int) ++ a0).length ((([] : List Int) ++ a0).map (Value.int .u8)), R] w0 w := HS
      refine W.ev_none (Y.storeSt (c' := #[Value.int .i64 ((t8.1).Kind), Value.int .i64 ((t8.1).Ns), Value.int .i64 ((t8.1).Nr), Value.bool ((t8.1).Poll)]) 0 [Value.int .i64 ((t8.1).Kind), Value.int .i64 ((t8.1).Ns), Value.int .i64 ((t8.1).Nr), Value.bool ((t8.1).Poll)] HS rfl inf23 rfl rfl rfl rfl rfl rfl) rfl rfl ?_
      rintro _ w HS
      have HS : Sep.St [blk nb10 (#[Value.int .i64 ((t8.1).Kind), Value.int .i64 ((t8.1).Ns), Value.int .i64 ((t8.1).Nr), Value.bool ((t8.1).Poll)]) 23, row 5 1 (.slice ra6 (([] : List Int) ++ a0).length rc7) (([] : List Int) ++ a0).length ((([] : List Int) ++ a0).map (Value.int .u8)), R] w0 w := HS
      refine W.rd (X.assign rfl) rfl rfl rfl ?_
      refine W.rd (X.assign rfl) rfl rfl rfl ?_
      refine W.nil ?_
      refine At.next ?_
      refine V.keep [(0, Value.slice sa0 (a0).length sc0), (1, Value.int .i64 (a1)), (6, Value.pointer (some ⟨nb10, 0, none⟩)), (7, Value.int .i64 (t8.2.1)), (8, Value.int .i64 (t8.2.2))] ⟨rfl, rfl, rfl, rfl, rfl, trivial⟩ ?_
      refine V.seq ?_
      refine V.region ?_
      refine W.rd (X.move rfl) rfl rfl rfl ?_
      refine W.rd (X.move rfl) rfl rfl rfl ?_
      obtain ⟨t11, A12, H⟩ := bind_s H
      refine W.ev (Y.call Try.func15 (by kernel_rfl) rfl (vs := [Value.slice sa0 (a0).length sc0, Value.int .i64 (a1)]) rfl (signalmanref6_ReadCtl.calls k a0 a1 _ w0 _ sa0 sc0 t11 (rdC.part 2 hr0 rfl) A12 (Sep.St.tailJoin (m := []) (r := [blk nb10 (#[Value.int .i64 ((t8.1).Kind), Value.int .i64 ((t8.1).Ns), Value.int .i64 ((t8.1).Nr), Value.bool ((t8.1).Poll)]) 23, row 5 1 (.slice ra6 (([] : List Int) ++ a0).length rc7) (([] : List Int) ++ a0).length ((([] : List Int) ++ a0).map (Value.int .u8)), R]) HS))) rfl rfl rfl ?_
      rintro _ w ⟨rfl, HS⟩
      replace HS := Sep.St.tailOpen (m := []) (r := [blk nb10 (#[Value.int .i64 ((t8.1).Kind), Value.int .i64 ((t8.1).Ns), Value.int .i64 ((t8.1).Nr), Value.bool ((t8.1).Poll)]) 23, row 5 1 (.slice ra6 (([] : List Int) ++ a0).length rc7) (([] : List Int) ++ a0).length ((([] : List Int) ++ a0).map (Value.int .u8)), R]) HS
      have HS : Sep.St [blk nb10 (#[Value.int .i64 ((t8.1).Kind), Value.int .i64 ((t8.1).Ns), Value.int .i64 ((t8.1).Nr), Value.bool ((t8.1).Poll)]) 23, row 5 1 (.slice ra6 (([] : List Int) ++ a0).length rc7) (([] : List Int) ++ a0).length ((([] : List Int) ++ a0).map (Value.int .u8)), R] w0 w := HS
      refine W.rd (X.move rfl) rfl rfl rfl ?_
      refine W.rd (X.extract rfl rfl) rfl rfl rfl ?_
      refine W.rd (X.extract rfl rfl) rfl rfl rfl ?_
      refine W.rd (X.extract rfl rfl) rfl rfl rfl ?_
      refine W.ev (Y.alloc (z := Value.agg (#[Value.int .i64 (0), Value.int .i64 (0), Value.int .i64 (0), Value.bool (false)])) HS ze23) rfl rfl rfl ?_
      rintro _ w ⟨nb13, rfl, HS⟩
      have HS : Sep.St [blk nb13 (#[Value.int .i64 (0), Value.int .i64 (0), Value.int .i64 (0), Value.bool (false)]) 23, blk nb10 (#[Value.int .i64 ((t8.1).Kind), Value.int .i64 ((t8.1).Ns), Value.int .i64 ((t8.1).Nr), Value.bool ((t8.1).Poll)]) 23, row 5 1 (.slice ra6 (([] : List Int) ++ a0).length rc7) (([] : List Int) ++ a0).length ((([] : List Int) ++ a0).map (Value.int .u8)), R] w0 w := HS
      refine W.ev_none (Y.storeSt (c' := #[Value.int .i64 ((t11.1).Kind), Value.int .i64 ((t11.1).Ns), Value.int .i64 ((t11.1).Nr), Value.bool ((t11.1).Poll)]) 0 [Value.int .i64 ((t11.1).Kind), Value.int .i64 ((t11.1).Ns), Value.int .i64 ((t11.1).Nr), Value.bool ((t11.1).Poll)] HS rfl inf23 rfl rfl rfl rfl rfl rfl) rfl rfl ?_
      rintro _ w HS
      have HS : Sep.St [blk nb13 (#[Value.int .i64 ((t11.1).Kind), Value.int .i64 ((t11.1).Ns), Value.int .i64 ((t11.1).Nr), Value.bool ((t11.1).Poll)]) 23, blk nb10 (#[Value.int .i64 ((t8.1).Kind), Value.int .i64 ((t8.1).Ns), Value.int .i64 ((t8.1).Nr), Value.bool ((t8.1).Poll)]) 23, row 5 1 (.slice ra6 (([] : List Int) ++ a0).length rc7) (([] : List Int) ++ a0).length ((([] : List Int) ++ a0).map (Value.int .u8)), R] w0 w := HS
      refine W.rd (X.assign rfl) rfl rfl rfl ?_
      refine W.rd (X.assign rfl) rfl rfl rfl ?_
      refine W.nil ?_
      refine At.next ?_
      refine V.keep [(6, Value.pointer (some ⟨nb10, 0, none⟩)), (7, Value.int .i64 (t8.2.1)), (8, Value.int .i64 (t8.2.2)), (9, Value.pointer (some ⟨nb13, 0, none⟩)), (10, Value.int .i64 (t11.2.1)), (11, Value.int .i64 (t11.2.2))] ⟨rfl, rfl, rfl, rfl, rfl, rfl, trivial⟩ ?_
      refine V.seq ?_
      refine V.region ?_
      refine W.rd (X.loadSt 1 [Value.int .i64 ((t8.1).Kind), Value.int .i64 ((t8.1).Ns), Value.int .i64 ((t8.1).Nr), Value.bool ((t8.1).Poll)] HS rfl Try.underlying23 rfl inf23 rfl rfl) rfl rfl rfl ?_
      refine W.rd (X.loadSt 0 [Value.int .i64 ((t11.1).Kind), Value.int .i64 ((t11.1).Ns), Value.int .i64 ((t11.1).Nr), Value.bool ((t11.1).Poll)] HS rfl Try.underlying23 rfl inf23 rfl rfl) rfl rfl rfl ?_
      refine W.rd (X.eqSt (c := api_Ctl.beq (t8.1) (t11.1)) (by kernel_rfl) Try.stoodInHeld23 Try.eqGuardType23 rfl rfl (by first | rfl | kernel_rfl)) rfl rfl rfl ?_
      refine W.rd (X.move rfl) rfl rfl rfl ?_
      by_cases c14 : api_Ctl.beq (t8.1) (t11.1) = true
      · replace H := ite_t c14 H
        refine W.want 39 rfl (sb c14) ?_
        refine W.rd (X.move rfl) rfl rfl rfl ?_
        refine W.want 39 rfl (sb c14) ?_
        refine W.rd (X.move rfl) rfl rfl rfl ?_
        refine W.want 39 rfl (sb c14) ?_
        refine W.rd (X.cmp (decide (t8.2.1 = t11.2.1)) rfl rfl rfl rfl) rfl rfl rfl ?_
        refine W.rd (X.pickT (sb c14) rfl) rfl rfl rfl ?_
        refine W.rd (X.move rfl) rfl rfl rfl ?_
        by_cases c15 : t8.2.1 = t11.2.1
        · replace H := ite_t c15 H
          refine W.want 44 rfl (sb (decide_eq_true c15)) ?_
          refine W.rd (X.move rfl) rfl rfl rfl ?_
          refine W.want 44 rfl (sb (decide_eq_true c15)) ?_
          obtain ⟨t16, A17, H⟩ := bind_s H
          refine W.ev (Y.call Try.func14 (by kernel_rfl) rfl (vs := [Value.int .i64 (t8.2.2)]) rfl (signalmanlaw12_num.calls t8.2.2 _ w0 _  t16  A17 (Sep.St.tailJoin (m := []) (r := [blk nb13 (#[Value.int .i64 ((t11.1).Kind), Value.int .i64 ((t11.1).Ns), Value.int .i64 ((t11.1).Nr), Value.bool ((t11.1).Poll)]) 23, blk nb10 (#[Value.int .i64 ((t8.1).Kind), Value.int .i64 ((t8.1).Ns), Value.int .i64 ((t8.1).Nr), Value.bool ((t8.1).Poll)]) 23, row 5 1 (.slice ra6 (([] : List Int) ++ a0).length rc7) (([] : List Int) ++ a0).length ((([] : List Int) ++ a0).map (Value.int .u8)), R]) HS))) rfl rfl rfl ?_
          rintro _ w ⟨rfl, HS⟩
          replace HS := Sep.St.tailOpen (m := []) (r := [blk nb13 (#[Value.int .i64 ((t11.1).Kind), Value.int .i64 ((t11.1).Ns), Value.int .i64 ((t11.1).Nr), Value.bool ((t11.1).Poll)]) 23, blk nb10 (#[Value.int .i64 ((t8.1).Kind), Value.int .i64 ((t8.1).Ns), Value.int .i64 ((t8.1).Nr), Value.bool ((t8.1).Poll)]) 23, row 5 1 (.slice ra6 (([] : List Int) ++ a0).length rc7) (([] : List Int) ++ a0).length ((([] : List Int) ++ a0).map (Value.int .u8)), R]) HS
          have HS : Sep.St [blk nb13 (#[Value.int .i64 ((t11.1).Kind), Value.int .i64 ((t11.1).Ns), Value.int .i64 ((t11.1).Nr), Value.bool ((t11.1).Poll)]) 23, blk nb10 (#[Value.int .i64 ((t8.1).Kind), Value.int .i64 ((t8.1).Ns), Value.int .i64 ((t8.1).Nr), Value.bool ((t8.1).Poll)]) 23, row 5 1 (.slice ra6 (([] : List Int) ++ a0).length rc7) (([] : List Int) ++ a0).length ((([] : List Int) ++ a0).map (Value.int .u8)), R] w0 w := HS
          refine W.want 44 rfl (sb (decide_eq_true c15)) ?_
          refine W.rd (X.move rfl) rfl rfl rfl ?_
          refine W.want 44 rfl (sb (decide_eq_true c15)) ?_
          refine W.rd (X.cmp (decide (t16 = t11.2.2)) rfl rfl rfl rfl) rfl rfl rfl ?_
          refine W.rd (X.pickT (sb (decide_eq_true c15)) rfl) rfl rfl rfl ?_
          refine W.rd (X.assign rfl) rfl rfl rfl ?_
          refine W.nil ?_
          refine At.next ?_
          refine V.keep [(4, Value.bool (decide (t16 = t11.2.2)))] ⟨rfl, trivial⟩ ?_
          refine V.ret ?_
          replace HS := HS.sel [3] [0, 1, 2] rfl
          cases H
          exact At.ret1 rfl rfl ⟨_, rfl, rfl, HS⟩
        · replace H := ite_f c15 H
          refine W.pass 44 rfl (sb (decide_eq_false c15)) rfl rfl ?_
          refine W.pass 44 rfl (sb (decide_eq_false c15)) rfl rfl ?_
          refine W.pass 44 rfl (sb (decide_eq_false c15)) rfl rfl ?_
          refine W.pass 44 rfl (sb (decide_eq_false c15)) rfl rfl ?_
          refine W.rd (X.pickF (sb (decide_eq_false c15)) rfl) rfl rfl rfl ?_
          refine W.rd (X.assign rfl) rfl rfl rfl ?_
          refine W.nil ?_
          refine At.next ?_
          refine V.keep [(4, Value.bool (false))] ⟨rfl, trivial⟩ ?_
          refine V.ret ?_
          replace HS := HS.sel [3] [0, 1, 2] rfl
          cases H
          exact At.ret1 rfl rfl ⟨_, rfl, rfl, HS⟩
      · replace H := ite_f c14 H
        refine W.pass 39 rfl (sb (b_f c14)) rfl rfl ?_
        refine W.pass 39 rfl (sb (b_f c14)) rfl rfl ?_
        refine W.pass 39 rfl (sb (b_f c14)) rfl rfl ?_
        refine W.rd (X.pickF (sb (b_f c14)) rfl) rfl rfl rfl ?_
        refine W.rd (X.move rfl) rfl rfl rfl ?_
        refine W.pass 44 rfl rfl rfl rfl ?_
        refine W.pass 44 rfl rfl rfl rfl ?_
        refine W.pass 44 rfl rfl rfl rfl ?_
        refine W.pass 44 rfl rfl rfl rfl ?_
        refine W.rd (X.pickF rfl rfl) rfl rfl rfl ?_
        refine W.rd (X.assign rfl) rfl rfl rfl ?_
        refine W.nil ?_
        refine At.next ?_
        refine V.keep [(4, Value.bool (false))] ⟨rfl, trivial⟩ ?_
        refine V.ret ?_
        replace HS := HS.sel [3] [0, 1, 2] rfl
        cases H
        exact At.ret1 rfl rfl ⟨_, rfl, rfl, HS⟩

def signalmanlaw12_ControlReads.Pure : Prop := ∀ (a0 : List Int) (a1 : Int), (∀ z ∈ a0, (Lit.int .u8 z).wf = true) → (a0.length : Int) ≤ 9223372036854775807 → (Lit.int .i64 a1).wf = true → ∃ k, signalmanlaw12_ControlReads.f k a0 a1 = some true
end Go.Proofs.Ytmodmkbjbndfpaa

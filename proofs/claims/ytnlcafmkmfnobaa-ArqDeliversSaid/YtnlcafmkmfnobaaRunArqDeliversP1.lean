/- ArqDelivers: the functions that its law reaches, as plain functions, and that the machine's calls come to what these say. Conditions: those that stand at each. -/
import Derived.Test.YtnlcafmkmfnobaaProg
import Derived.Test.YtnlcafmkmfnobaaShort
set_option linter.all false
set_option maxRecDepth 100000
set_option maxHeartbeats 4000000
set_option synthInstance.maxSize 100000
set_option synthInstance.maxHeartbeats 1000000
namespace Go.Proofs.Ytnlcafmkmfnobaa
open Go.RowKit Go.Proofs.Ytnlcafmkmfnobaa.Sep Go.Proofs.Ytnlcafmkmfnobaa.Walk
theorem inf3 : (Try.prog.info? 3).map (·.size) = some 1 := by kernel_rfl
theorem inf4 : (Try.prog.info? 4).map (·.size) = some 1 := by kernel_rfl
theorem inf5 : (Try.prog.info? 5).map (·.size) = some 1 := by kernel_rfl
theorem inf9 : (Try.prog.info? 9).map (·.size) = some 1 := by kernel_rfl
theorem inf24 : (Try.prog.info? 24).map (·.size) = some 16 := by kernel_rfl
theorem inf26 : (Try.prog.info? 26).map (·.size) = some 1 := by kernel_rfl
theorem inf30 : (Try.prog.info? 30).map (·.size) = some 1 := by kernel_rfl
theorem inf34 : (Try.prog.info? 34).map (·.size) = some 1 := by kernel_rfl
theorem inf39 : (Try.prog.info? 39).map (·.size) = some 1 := by kernel_rfl
theorem inf42 : (Try.prog.info? 42).map (·.size) = some 4 := by kernel_rfl
theorem inf56 : (Try.prog.info? 56).map (·.size) = some 1 := by kernel_rfl
theorem inf80 : (Try.prog.info? 80).map (·.size) = some 1 := by kernel_rfl
theorem inf107 : (Try.prog.info? 107).map (·.size) = some 32 := by kernel_rfl
theorem fo24_1 : fieldOff Try.prog 24 1 = some 1 := by kernel_rfl
theorem fo24_2 : fieldOff Try.prog 24 2 = some 2 := by kernel_rfl
theorem fo24_3 : fieldOff Try.prog 24 3 = some 3 := by kernel_rfl
theorem fo24_4 : fieldOff Try.prog 24 4 = some 4 := by kernel_rfl
theorem fo24_8 : fieldOff Try.prog 24 8 = some 8 := by kernel_rfl
theorem fo24_9 : fieldOff Try.prog 24 9 = some 9 := by kernel_rfl
theorem fo42_0 : fieldOff Try.prog 42 0 = some 0 := by kernel_rfl
theorem fo42_1 : fieldOff Try.prog 42 1 = some 1 := by kernel_rfl
theorem fo42_2 : fieldOff Try.prog 42 2 = some 2 := by kernel_rfl
theorem fo42_3 : fieldOff Try.prog 42 3 = some 3 := by kernel_rfl
theorem fo59_0 : fieldOff Try.prog 59 0 = some 0 := by kernel_rfl
theorem fo59_1 : fieldOff Try.prog 59 1 = some 2 := by kernel_rfl
theorem fo59_2 : fieldOff Try.prog 59 2 = some 4 := by kernel_rfl
theorem fo59_3 : fieldOff Try.prog 59 3 = some 6 := by kernel_rfl
theorem fo59_4 : fieldOff Try.prog 59 4 = some 8 := by kernel_rfl
theorem fo82_0 : fieldOff Try.prog 82 0 = some 0 := by kernel_rfl
theorem fo82_1 : fieldOff Try.prog 82 1 = some 1 := by kernel_rfl
theorem fo82_2 : fieldOff Try.prog 82 2 = some 2 := by kernel_rfl
theorem fo82_3 : fieldOff Try.prog 82 3 = some 3 := by kernel_rfl
theorem fo82_4 : fieldOff Try.prog 82 4 = some 4 := by kernel_rfl
theorem fo82_5 : fieldOff Try.prog 82 5 = some 5 := by kernel_rfl
theorem fo82_6 : fieldOff Try.prog 82 6 = some 6 := by kernel_rfl
theorem fo82_7 : fieldOff Try.prog 82 7 = some 7 := by kernel_rfl
theorem fo82_8 : fieldOff Try.prog 82 8 = some 8 := by kernel_rfl
theorem fo82_9 : fieldOff Try.prog 82 9 = some 9 := by kernel_rfl
theorem fo82_10 : fieldOff Try.prog 82 10 = some 10 := by kernel_rfl
theorem fo82_11 : fieldOff Try.prog 82 11 = some 11 := by kernel_rfl
theorem fo82_12 : fieldOff Try.prog 82 12 = some 12 := by kernel_rfl
theorem fo82_13 : fieldOff Try.prog 82 13 = some 13 := by kernel_rfl
theorem fo82_14 : fieldOff Try.prog 82 14 = some 14 := by kernel_rfl
theorem fo82_15 : fieldOff Try.prog 82 15 = some 15 := by kernel_rfl
theorem fo103_0 : fieldOff Try.prog 103 0 = some 0 := by kernel_rfl
theorem fo103_1 : fieldOff Try.prog 103 1 = some 1 := by kernel_rfl
theorem fo103_2 : fieldOff Try.prog 103 2 = some 2 := by kernel_rfl
theorem fo103_3 : fieldOff Try.prog 103 3 = some 3 := by kernel_rfl
theorem fo103_4 : fieldOff Try.prog 103 4 = some 4 := by kernel_rfl
theorem fo103_5 : fieldOff Try.prog 103 5 = some 5 := by kernel_rfl
theorem fo106_0 : fieldOff Try.prog 106 0 = some 0 := by kernel_rfl
theorem fo106_1 : fieldOff Try.prog 106 1 = some 1 := by kernel_rfl
theorem fo106_2 : fieldOff Try.prog 106 2 = some 2 := by kernel_rfl
theorem fo106_3 : fieldOff Try.prog 106 3 = some 3 := by kernel_rfl
theorem fo106_4 : fieldOff Try.prog 106 4 = some 4 := by kernel_rfl
theorem fo109_0 : fieldOff Try.prog 109 0 = some 0 := by kernel_rfl
theorem fo109_1 : fieldOff Try.prog 109 1 = some 1 := by kernel_rfl
theorem ap3 : (Try.prog.info? 3).map (fun i => (i.zero, i.size, i.bytes)) = some (some (.int .i64 0), 1, 8) := by kernel_rfl
theorem ap5 : (Try.prog.info? 5).map (fun i => (i.zero, i.size, i.bytes)) = some (some (.int .u8 0), 1, 1) := by kernel_rfl
theorem ap9 : (Try.prog.info? 9).map (fun i => (i.zero, i.size, i.bytes)) = some (some (.string .empty), 1, 16) := by kernel_rfl
theorem ap39 : (Try.prog.info? 39).map (fun i => (i.zero, i.size, i.bytes)) = some (some (.slice none 0 0), 1, 24) := by kernel_rfl
theorem ze24 : (Try.prog.info? 24).bind (·.zero) = some (Value.agg (#[Value.int .i64 (0), Value.int .i64 (0), Value.int .i64 (0), Value.int .i64 (0), Value.int .i64 (0), Value.int .i64 (0), Value.int .i64 (0), Value.int .i64 (0), Value.int .i64 (0), Value.int .i64 (0), Value.int .i64 (0), Value.int .i64 (0), Value.int .i64 (0), Value.int .i64 (0), Value.bool false, Value.bool false])) := by kernel_rfl
theorem ze39 : (Try.prog.info? 39).bind (·.zero) = some (Value.slice none 0 0) := by kernel_rfl
theorem ze42 : (Try.prog.info? 42).bind (·.zero) = some (Value.agg (#[Value.int .i64 (0), Value.int .i64 (0), Value.int .i64 (0), Value.bool false])) := by kernel_rfl
theorem mo : Try.prog.follows .mixedOrders = true := by kernel_rfl
def serial_round.f (a0 : Int) (a1 : Int) : Option (Int × Int) := (if ¬ (imax (1) (imin a1 (1073741824)) = 0) then (if (a0.tmod (imax (1) (imin a1 (1073741824)))) < 0 then some (w64 ((a0.tmod (imax (1) (imin a1 (1073741824)))) + (imax (1) (imin a1 (1073741824)))), imax (1) (imin a1 (1073741824))) else some (a0.tmod (imax (1) (imin a1 (1073741824))), imax (1) (imin a1 (1073741824)))) else none)
theorem serial_round.calls {a0 : Int} {a1 : Int} {R : As} {w0 w : World}  {r : Int × Int} (H : serial_round.f a0 a1 = some r) (HS : Sep.St [R] w0 w)  : Calls Try.prog 73 #[Value.int .i64 a0, Value.int .i64 a1] w (Ret fun u w => u = Value.tuple #[Value.int .i64 r.1, Value.int .i64 r.2] ∧ Sep.St [R] w0 w) := by
 unfold serial_round.f at H
 refine calls_enter Try.func73 rfl rfl ?_
 have H : _ = some r := H
 refine V.seq (V.region (W.as rfl (W.as rfl (W.nx (V.seq (V.region (W.mv rfl (W.r (X.min2 rfl rfl) rfl (W.r (X.max2 rfl rfl) rfl (W.as rfl (W.nx (V.seq (V.region (W.mv rfl (W.mv rfl ?_)))))))))))))))
 obtain ⟨c1, H⟩ := ite_n H
 refine W.r (X.rem rfl rfl c1) rfl (W.as rfl (W.nx (V.seq (V.seq (V.region (W.mv rfl (W.r (X.cmp (decide ((a0.tmod (imax (1) (imin a1 (1073741824)))) < 0)) rfl rfl rfl rfl) rfl (W.nx ?_))))))))
 by_cases c2 : (a0.tmod (imax (1) (imin a1 (1073741824)))) < 0
 ·replace H := ite_t c2 H
  refine V.condT (sb (decide_eq_true c2)) (V.region (W.mv rfl (W.mv rfl (W.r (X.add rfl rfl) rfl (W.as rfl (W.nx (V.seq (V.region (W.mv rfl (W.mv rfl (W.as rfl (W.as rfl (W.nx (V.ret ?_))))))))))))))
  cases H
  exact At.ret2 rfl rfl rfl ⟨_, rfl, rfl, HS⟩
 ·replace H := ite_f c2 H
  refine V.condF (sb (decide_eq_false c2)) (V.skip (At.next (V.seq (V.region (W.mv rfl (W.mv rfl (W.as rfl (W.as rfl (W.nx (V.ret ?_))))))))))
  cases H
  exact At.ret2 rfl rfl rfl ⟨_, rfl, rfl, HS⟩
def serial_Next.f (a0 : Int) (a1 : Int) : Option Int := ((serial_round.f a0 a1).bind fun t1 => ((serial_round.f (w64 (t1.1 + 1)) t1.2).bind fun t3 => some t3.1))
theorem serial_Next.calls {a0 : Int} {a1 : Int} {R : As} {w0 w : World}  {r : Int} (H : serial_Next.f a0 a1 = some r) (HS : Sep.St [R] w0 w)  : Calls Try.prog 45 #[Value.int .i64 a0, Value.int .i64 a1] w (Ret fun u w => u = Value.int .i64 r ∧ Sep.St [R] w0 w) := by
 unfold serial_Next.f at H
 refine calls_enter Try.func45 rfl rfl ?_
 have H : _ = some r := H
 refine V.seq (V.region (W.as rfl (W.nx (V.seq (V.region (W.mv rfl (W.mv rfl ?_)))))))
 obtain ⟨t1, A2, H⟩ := bind_s H
 refine W.e (Y.cl Try.func73 (serial_round.calls A2 HS.j0)) rfl ?_
 rintro _ w ⟨rfl, HS⟩
 replace HS := HS.o0
 refine W.mv rfl (W.r (X.extract rfl rfl) rfl (W.r (X.extract rfl rfl) rfl (W.as rfl (W.as rfl (W.nx (V.seq (V.region (W.mv rfl (W.r (X.add rfl rfl) rfl (W.mv rfl ?_))))))))))
 obtain ⟨t3, A4, H⟩ := bind_s H
 refine W.e (Y.cl Try.func73 (serial_round.calls A4 HS.j0)) rfl ?_
 rintro _ w ⟨rfl, HS⟩
 replace HS := HS.o0
 refine W.mv rfl (W.r (X.extract rfl rfl) rfl (W.r (X.extract rfl rfl) rfl (W.as rfl (W.nx (V.seq (V.region (W.mv rfl (W.as rfl (W.nx (V.ret ?_))))))))))
 cases H
 exact At.ret1 rfl rfl ⟨_, rfl, rfl, HS⟩
def control_modulus.f (a0 : Int) : Option Bool := (if a0 = 128 then some true else some (decide (a0 = 32768)))
theorem control_modulus.calls {a0 : Int} {R : As} {w0 w : World}  {r : Bool} (H : control_modulus.f a0 = some r) (HS : Sep.St [R] w0 w)  : Calls Try.prog 84 #[Value.int .i64 a0] w (Ret fun u w => u = Value.bool r ∧ Sep.St [R] w0 w) := by
 unfold control_modulus.f at H
 refine calls_enter Try.func84 rfl rfl ?_
 have H : _ = some r := H
 refine V.seq (V.region (W.as rfl (W.nx (V.seq (V.region (W.mv rfl (W.r (X.cmp (decide (a0 = 128)) rfl rfl rfl rfl) rfl (W.mv rfl ?_))))))))
 by_cases c1 : a0 = 128
 ·replace H := ite_t c1 H
  refine W.pass 5 rfl (sb (decide_eq_true c1)) rfl rfl (W.pass 5 rfl (sb (decide_eq_true c1)) rfl rfl (W.r (X.pickT (sb (decide_eq_true c1)) rfl) rfl (W.as rfl (W.nx (V.ret ?_)))))
  cases H
  exact At.ret1 rfl rfl ⟨_, rfl, rfl, HS⟩
 ·replace H := ite_f c1 H
  refine W.want 5 rfl (sb (decide_eq_false c1)) (W.mv rfl (W.want 5 rfl (sb (decide_eq_false c1)) (W.r (X.cmp (decide (a0 = 32768)) rfl rfl rfl rfl) rfl (W.r (X.pickF (sb (decide_eq_false c1)) rfl) rfl (W.as rfl (W.nx (V.ret ?_)))))))
  cases H
  exact At.ret1 rfl rfl ⟨_, rfl, rfl, HS⟩
def control_of.f (a0 : Int) (a1 : Int) : Option Bool := (if a0 ≥ 0 then some (decide (a0 < a1)) else some false)
theorem control_of.calls {a0 : Int} {a1 : Int} {R : As} {w0 w : World}  {r : Bool} (H : control_of.f a0 a1 = some r) (HS : Sep.St [R] w0 w)  : Calls Try.prog 109 #[Value.int .i64 a0, Value.int .i64 a1] w (Ret fun u w => u = Value.bool r ∧ Sep.St [R] w0 w) := by
 unfold control_of.f at H
 refine calls_enter Try.func109 rfl rfl ?_
 have H : _ = some r := H
 refine V.seq (V.region (W.as rfl (W.nx (V.seq (V.region (W.mv rfl (W.r (X.cmp (decide (a0 ≥ 0)) rfl rfl rfl rfl) rfl (W.mv rfl ?_))))))))
 by_cases c1 : a0 ≥ 0
 ·replace H := ite_t c1 H
  refine W.want 7 rfl (sb (decide_eq_true c1)) (W.mv rfl (W.want 7 rfl (sb (decide_eq_true c1)) (W.mv rfl (W.want 7 rfl (sb (decide_eq_true c1)) (W.r (X.cmp (decide (a0 < a1)) rfl rfl rfl rfl) rfl (W.r (X.pickT (sb (decide_eq_true c1)) rfl) rfl (W.as rfl (W.nx (V.ret ?_)))))))))
  cases H
  exact At.ret1 rfl rfl ⟨_, rfl, rfl, HS⟩
 ·replace H := ite_f c1 H
  refine W.pass 7 rfl (sb (decide_eq_false c1)) rfl rfl (W.pass 7 rfl (sb (decide_eq_false c1)) rfl rfl (W.pass 7 rfl (sb (decide_eq_false c1)) rfl rfl (W.r (X.pickF (sb (decide_eq_false c1)) rfl) rfl (W.as rfl (W.nx (V.ret ?_))))))
  cases H
  exact At.ret1 rfl rfl ⟨_, rfl, rfl, HS⟩
structure api_Ctl where
 Kind : Int
 Ns : Int
 Nr : Int
 Poll : Bool
deriving DecidableEq, Inhabited
def api_Ctl.at (b : Nat) (x : api_Ctl) : As := fun h => True ∧ Sp [blk b (#[Value.int .i64 x.Kind, Value.int .i64 x.Ns, Value.int .i64 x.Nr, Value.bool x.Poll]) 42] h
theorem api_Ctl.open {b : Nat} {x : api_Ctl} {L : List As} {w0 w : World} (hs : Sep.St (api_Ctl.at b x :: L) w0 w) : True ∧ Sep.St (blk b (#[Value.int .i64 x.Kind, Value.int .i64 x.Ns, Value.int .i64 x.Nr, Value.bool x.Poll]) 42 :: L) w0 w := by
 have h1 := St.pure.1 (show St ((fun h => True ∧ (fun h => Sp [blk b (#[Value.int .i64 x.Kind, Value.int .i64 x.Ns, Value.int .i64 x.Nr, Value.bool x.Poll]) 42] h) h) :: L) w0 w from hs)
 obtain ⟨hi, hs⟩ := h1
 exact ⟨hi, St.open (m := [blk b (#[Value.int .i64 x.Kind, Value.int .i64 x.Ns, Value.int .i64 x.Nr, Value.bool x.Poll]) 42]) hs⟩
theorem api_Ctl.close {b : Nat} {l0 : Int} {l1 : Int} {l2 : Int} {l3 : Bool}  {L : List As} {w0 w : World} (hi : True) (hs : Sep.St (blk b (#[Value.int .i64 l0, Value.int .i64 l1, Value.int .i64 l2, Value.bool l3]) 42 :: L) w0 w) : Sep.St (api_Ctl.at b ({ Kind := l0, Ns := l1, Nr := l2, Poll := l3 } : api_Ctl) :: L) w0 w := by
 have h2 := St.join (m := [blk b (#[Value.int .i64 l0, Value.int .i64 l1, Value.int .i64 l2, Value.bool l3]) 42]) hs
 exact h2.mono fun h hh => ⟨hi, hh⟩
mutual
def control_Right.j0 (a0 : api_Ctl) (a1 : Int) (x12 : Bool) : Option Bool := (if x12 = true then (if a0.Ns = 0 then ((control_of.f a0.Nr a1).bind fun t18 => some t18) else some false) else (if a0.Kind ≥ 3 then (if a0.Kind ≤ 7 then (if a0.Ns = 0 then some (decide (a0.Nr = 0)) else some false) else some false) else some false))
end
def control_Right.f (a0 : api_Ctl) (a1 : Int) : Option Bool := ((control_modulus.f a1).bind fun t2 => (if t2 = true then (if a0.Kind = 0 then ((control_of.f a0.Ns a1).bind fun t6 => (if t6 = true then ((control_of.f a0.Nr a1).bind fun t9 => some t9) else some false)) else (if a0.Kind = 1 then (control_Right.j0 a0 a1 true) else (control_Right.j0 a0 a1 (decide (a0.Kind = 2))))) else some false))
theorem control_Right.calls {a0 : api_Ctl} {a1 : Int} {R : As} {w0 w : World}  {r : Bool} (H : control_Right.f a0 a1 = some r) (HS : Sep.St [R] w0 w)  : Calls Try.prog 106 #[Value.agg #[Value.int .i64 a0.Kind, Value.int .i64 a0.Ns, Value.int .i64 a0.Nr, Value.bool a0.Poll], Value.int .i64 a1] w (Ret fun u w => u = Value.bool r ∧ Sep.St [R] w0 w) := by
 unfold control_Right.f at H
 refine calls_enter Try.func106 rfl rfl ?_
 have H : _ = some r := H
 refine V.seq (V.region (W.e (Y.box HS rfl) rfl ?_))
 rintro _ w ⟨nb1, rfl, HS⟩
 refine W.as rfl (W.nx (V.seq (V.block (V.seq (V.region (W.mv rfl ?_))))))
 obtain ⟨t2, A3, H⟩ := bind_s H
 refine W.e (Y.cl Try.func84 (control_modulus.calls A3 HS.j0)) rfl ?_
 rintro _ w ⟨rfl, HS⟩
 replace HS := HS.o0
 refine W.r (X.not rfl) rfl (W.as rfl (W.nx ?_))
 by_cases c4 : t2 = true
 ·replace H := ite_t c4 H
  refine V.condF (sb (n_t c4)) (V.seq (V.region (W.fa fo42_0 rfl (W.ld 0 HS Try.underlying3 rfl rfl rfl rfl (W.r (X.cmp (decide (a0.Kind = 0)) rfl rfl rfl rfl) rfl (W.as rfl (W.nx ?_)))))))
  by_cases c5 : a0.Kind = 0
  ·replace H := ite_t c5 H
   refine V.condT (sb (decide_eq_true c5)) (V.seq (V.region (W.fa fo42_1 rfl (W.ld 0 HS Try.underlying3 rfl rfl rfl rfl (W.mv rfl ?_)))))
   obtain ⟨t6, A7, H⟩ := bind_s H
   refine W.e (Y.cl Try.func109 (control_of.calls A7 HS.j0)) rfl ?_
   rintro _ w ⟨rfl, HS⟩
   replace HS := HS.o0
   refine W.mv rfl ?_
   by_cases c8 : t6 = true
   ·replace H := ite_t c8 H
    refine W.want 17 rfl (sb c8) (W.fa fo42_2 rfl (W.want 17 rfl (sb c8) (W.ld 0 HS Try.underlying3 rfl rfl rfl rfl (W.want 17 rfl (sb c8) (W.mv rfl (W.want 17 rfl (sb c8) ?_))))))
    obtain ⟨t9, A10, H⟩ := bind_s H
    refine W.e (Y.cl Try.func109 (control_of.calls A10 HS.j0)) rfl ?_
    rintro _ w ⟨rfl, HS⟩
    replace HS := HS.o0
    refine W.r (X.pickT (sb c8) rfl) rfl (W.as rfl (W.nx (V.ret (At.blockRet (At.thenRet ?_)))))
    replace HS := HS.pk [1] [0]
    cases H
    exact At.ret1 rfl rfl ⟨_, rfl, rfl, HS⟩
   ·replace H := ite_f c8 H
    refine W.pass 17 rfl (sb (b_f c8)) rfl rfl (W.pass 17 rfl (sb (b_f c8)) rfl rfl (W.pass 17 rfl (sb (b_f c8)) rfl rfl (W.pass 17 rfl (sb (b_f c8)) rfl rfl (W.r (X.pickF (sb (b_f c8)) rfl) rfl (W.as rfl (W.nx (V.ret (At.blockRet (At.thenRet ?_)))))))))
    replace HS := HS.pk [1] [0]
    cases H
    exact At.ret1 rfl rfl ⟨_, rfl, rfl, HS⟩
  ·replace H := ite_f c5 H
   refine V.condF (sb (decide_eq_false c5)) (V.meet (σ := Bool) (fun st w => match st with | x12 => Sep.St [api_Ctl.at nb1 a0, R] w0 w ∧ control_Right.j0 a0 a1 x12 = some r) (fun st => match st with | x12 => [(1, Value.int .i64 a1), (2, Value.pointer (some ⟨nb1, 0, none⟩)), (23, Value.bool x12)]) ?_ ?_)
   ·refine V.region (W.fa fo42_0 rfl (W.ld 0 HS Try.underlying3 rfl rfl rfl rfl (W.r (X.cmp (decide (a0.Kind = 1)) rfl rfl rfl rfl) rfl (W.mv rfl ?_))))
    by_cases c25 : a0.Kind = 1
    ·replace H := ite_t c25 H
     refine W.pass 27 rfl (sb (decide_eq_true c25)) rfl rfl (W.pass 27 rfl (sb (decide_eq_true c25)) rfl rfl (W.pass 27 rfl (sb (decide_eq_true c25)) rfl rfl (W.r (X.pickT (sb (decide_eq_true c25)) rfl) rfl (W.as rfl (W.nil ?_)))))
     replace HS := api_Ctl.close trivial HS
     exact At.meet true ⟨rfl, rfl, rfl, trivial⟩ ⟨HS, H⟩
    ·replace H := ite_f c25 H
     refine W.want 27 rfl (sb (decide_eq_false c25)) (W.fa fo42_0 rfl (W.want 27 rfl (sb (decide_eq_false c25)) (W.ld 0 HS Try.underlying3 rfl rfl rfl rfl (W.want 27 rfl (sb (decide_eq_false c25)) (W.r (X.cmp (decide (a0.Kind = 2)) rfl rfl rfl rfl) rfl (W.r (X.pickF (sb (decide_eq_false c25)) rfl) rfl (W.as rfl (W.nil ?_))))))))
     replace HS := api_Ctl.close trivial HS
     exact At.meet (decide (a0.Kind = 2)) ⟨rfl, rfl, rfl, trivial⟩ ⟨HS, H⟩
   ·rintro x12 w ⟨HS, H⟩
    unfold control_Right.j0 at H
    by_cases c14 : x12 = true
    ·replace H := ite_t c14 H
     refine V.condT (sb c14) (V.seq (V.region ?_))
     obtain ⟨hi16, HS⟩ := api_Ctl.open HS
     refine W.fa fo42_1 rfl (W.ld 0 HS Try.underlying3 rfl rfl rfl rfl (W.r (X.cmp (decide (a0.Ns = 0)) rfl rfl rfl rfl) rfl (W.mv rfl ?_)))
     by_cases c17 : a0.Ns = 0
     ·replace H := ite_t c17 H
      refine W.want 35 rfl (sb (decide_eq_true c17)) (W.fa fo42_2 rfl (W.want 35 rfl (sb (decide_eq_true c17)) (W.ld 0 HS Try.underlying3 rfl rfl rfl rfl (W.want 35 rfl (sb (decide_eq_true c17)) (W.mv rfl (W.want 35 rfl (sb (decide_eq_true c17)) ?_))))))
      obtain ⟨t18, A19, H⟩ := bind_s H
      refine W.e (Y.cl Try.func109 (control_of.calls A19 HS.j0)) rfl ?_
      rintro _ w ⟨rfl, HS⟩
      replace HS := HS.o0
      refine W.r (X.pickT (sb (decide_eq_true c17)) rfl) rfl (W.as rfl (W.nx (V.ret (At.blockRet (At.thenRet ?_)))))
      replace HS := HS.pk [1] [0]
      cases H
      exact At.ret1 rfl rfl ⟨_, rfl, rfl, HS⟩
     ·replace H := ite_f c17 H
      refine W.pass 35 rfl (sb (decide_eq_false c17)) rfl rfl (W.pass 35 rfl (sb (decide_eq_false c17)) rfl rfl (W.pass 35 rfl (sb (decide_eq_false c17)) rfl rfl (W.pass 35 rfl (sb (decide_eq_false c17)) rfl rfl (W.r (X.pickF (sb (decide_eq_false c17)) rfl) rfl (W.as rfl (W.nx (V.ret (At.blockRet (At.thenRet ?_)))))))))
      replace HS := HS.pk [1] [0]
      cases H
      exact At.ret1 rfl rfl ⟨_, rfl, rfl, HS⟩
    ·replace H := ite_f c14 H
     refine V.condF (sb (b_f c14)) (V.skip (At.blockEnd (At.next (V.seq (V.region ?_)))))
     obtain ⟨hi21, HS⟩ := api_Ctl.open HS
     refine W.fa fo42_0 rfl (W.ld 0 HS Try.underlying3 rfl rfl rfl rfl (W.r (X.cmp (decide (a0.Kind ≥ 3)) rfl rfl rfl rfl) rfl (W.mv rfl ?_)))
     by_cases c22 : a0.Kind ≥ 3
     ·replace H := ite_t c22 H
      refine W.want 44 rfl (sb (decide_eq_true c22)) (W.fa fo42_0 rfl (W.want 44 rfl (sb (decide_eq_true c22)) (W.ld 0 HS Try.underlying3 rfl rfl rfl rfl (W.want 44 rfl (sb (decide_eq_true c22)) (W.r (X.cmp (decide (a0.Kind ≤ 7)) rfl rfl rfl rfl) rfl (W.r (X.pickT (sb (decide_eq_true c22)) rfl) rfl (W.mv rfl ?_)))))))
      by_cases c23 : a0.Kind ≤ 7
      ·replace H := ite_t c23 H
       refine W.want 49 rfl (sb (decide_eq_true c23)) (W.fa fo42_1 rfl (W.want 49 rfl (sb (decide_eq_true c23)) (W.ld 0 HS Try.underlying3 rfl rfl rfl rfl (W.want 49 rfl (sb (decide_eq_true c23)) (W.r (X.cmp (decide (a0.Ns = 0)) rfl rfl rfl rfl) rfl (W.r (X.pickT (sb (decide_eq_true c23)) rfl) rfl (W.mv rfl ?_)))))))
       by_cases c24 : a0.Ns = 0
       ·replace H := ite_t c24 H
        refine W.want 54 rfl (sb (decide_eq_true c24)) (W.fa fo42_2 rfl (W.want 54 rfl (sb (decide_eq_true c24)) (W.ld 0 HS Try.underlying3 rfl rfl rfl rfl (W.want 54 rfl (sb (decide_eq_true c24)) (W.r (X.cmp (decide (a0.Nr = 0)) rfl rfl rfl rfl) rfl (W.r (X.pickT (sb (decide_eq_true c24)) rfl) rfl (W.as rfl (W.nx (V.ret ?_)))))))))
        replace HS := HS.pk [1] [0]
        cases H
        exact At.ret1 rfl rfl ⟨_, rfl, rfl, HS⟩
       ·replace H := ite_f c24 H
        refine W.pass 54 rfl (sb (decide_eq_false c24)) rfl rfl (W.pass 54 rfl (sb (decide_eq_false c24)) rfl rfl (W.pass 54 rfl (sb (decide_eq_false c24)) rfl rfl (W.r (X.pickF (sb (decide_eq_false c24)) rfl) rfl (W.as rfl (W.nx (V.ret ?_))))))
        replace HS := HS.pk [1] [0]
        cases H
        exact At.ret1 rfl rfl ⟨_, rfl, rfl, HS⟩
      ·replace H := ite_f c23 H
       refine W.pass 49 rfl (sb (decide_eq_false c23)) rfl rfl (W.pass 49 rfl (sb (decide_eq_false c23)) rfl rfl (W.pass 49 rfl (sb (decide_eq_false c23)) rfl rfl (W.r (X.pickF (sb (decide_eq_false c23)) rfl) rfl (W.mv rfl (W.pass 54 rfl rfl rfl rfl (W.pass 54 rfl rfl rfl rfl (W.pass 54 rfl rfl rfl rfl (W.r (X.pickF rfl rfl) rfl (W.as rfl (W.nx (V.ret ?_)))))))))))
       replace HS := HS.pk [1] [0]
       cases H
       exact At.ret1 rfl rfl ⟨_, rfl, rfl, HS⟩
     ·replace H := ite_f c22 H
      refine W.pass 44 rfl (sb (decide_eq_false c22)) rfl rfl (W.pass 44 rfl (sb (decide_eq_false c22)) rfl rfl (W.pass 44 rfl (sb (decide_eq_false c22)) rfl rfl (W.r (X.pickF (sb (decide_eq_false c22)) rfl) rfl (W.mv rfl (W.pass 49 rfl rfl rfl rfl (W.pass 49 rfl rfl rfl rfl (W.pass 49 rfl rfl rfl rfl (W.r (X.pickF rfl rfl) rfl (W.mv rfl (W.pass 54 rfl rfl rfl rfl (W.pass 54 rfl rfl rfl rfl (W.pass 54 rfl rfl rfl rfl (W.r (X.pickF rfl rfl) rfl (W.as rfl (W.nx (V.ret ?_))))))))))))))))
      replace HS := HS.pk [1] [0]
      cases H
      exact At.ret1 rfl rfl ⟨_, rfl, rfl, HS⟩
 ·replace H := ite_f c4 H
  refine V.condT (sb (n_f (b_f c4))) (V.seq (V.region (W.as rfl (W.nx (V.ret (At.blockRet (At.thenRet ?_)))))))
  replace HS := HS.pk [1] [0]
  cases H
  exact At.ret1 rfl rfl ⟨_, rfl, rfl, HS⟩
def control_bit.f (a0 : Bool) : Option Int := (if a0 = true then some (1) else some (0))
theorem control_bit.calls {a0 : Bool} {R : As} {w0 w : World}  {r : Int} (H : control_bit.f a0 = some r) (HS : Sep.St [R] w0 w)  : Calls Try.prog 107 #[Value.bool a0] w (Ret fun u w => u = Value.int .i64 r ∧ Sep.St [R] w0 w) := by
 unfold control_bit.f at H
 refine calls_enter Try.func107 rfl rfl ?_
 have H : _ = some r := H
 refine V.seq (V.region (W.as rfl (W.nx (V.seq (V.seq (V.region (W.mv rfl (W.nx ?_))))))))
 by_cases c1 : a0 = true
 ·replace H := ite_t c1 H
  refine V.condT (sb c1) (V.seq (V.region (W.as rfl (W.nx (V.ret (At.thenRet ?_))))))
  cases H
  exact At.ret1 rfl rfl ⟨_, rfl, rfl, HS⟩
 ·replace H := ite_f c1 H
  refine V.condF (sb (b_f c1)) (V.skip (At.next (V.seq (V.region (W.as rfl (W.nx (V.ret ?_)))))))
  cases H
  exact At.ret1 rfl rfl ⟨_, rfl, rfl, HS⟩
def control_put.f (a0 : List Int) (a1 : Int) (a2 : Int) : Option (List Int) := (if (a0.length : Int) + ([IntKind.u8.wrap a1] : List Int).length ≤ 1099511627776 then (if a2 = 32768 then (if ((a0 ++ ([IntKind.u8.wrap a1] : List Int)).length : Int) + (([IntKind.u8.wrap (a1.fdiv (2 ^ (min (8 : Int).toNat IntKind.i64.bits)))] : List Int)).length ≤ 1099511627776 then some ((a0 ++ ([IntKind.u8.wrap a1] : List Int)) ++ ([IntKind.u8.wrap (a1.fdiv (2 ^ (min (8 : Int).toNat IntKind.i64.bits)))] : List Int)) else none) else some (a0 ++ ([IntKind.u8.wrap a1] : List Int))) else none)
theorem control_put.calls {a0 : List Int} {a1 : Int} {a2 : Int} {R : As} {w0 w : World} {sa0 : Option Addr} {sc0 : Nat} {r : List Int} (H : control_put.f a0 a1 a2 = some r) (HS : Sep.St [row 5 1 (.slice sa0 a0.length sc0) a0.length (a0.map (Value.int .u8)), R] w0 w)  : Calls Try.prog 87 #[Value.slice sa0 a0.length sc0, Value.int .i64 a1, Value.int .i64 a2] w (Ret fun u w => ∃ (aq0 : Option Addr) (cq0 : Nat), u = Value.slice aq0 r.length cq0 ∧ Sep.St [row 5 1 (.slice aq0 r.length cq0) r.length (r.map (Value.int .u8)), R] w0 w) := by
 unfold control_put.f at H
 refine calls_enter Try.func87 rfl rfl ?_
 have H : _ = some r := H
 refine V.seq (V.region (W.as rfl (W.nx (V.seq (V.region (W.mv rfl (W.mv rfl (W.r (X.conv Try.underlying3 Try.underlying5 rfl) rfl (W.e (Y.ls (e := 5) (Value.int .u8) ([IntKind.u8.wrap a1] : List Int) HS rfl rfl (fun _ => by kernel_rfl)) rfl ?_)))))))))
 rintro _ w ⟨lb3, rfl, HS⟩
 obtain ⟨c4, H⟩ := ite_n H
 refine W.e (Y.appF (Value.int .u8) (fun _ => rfl) 1 Try.underlying39 ap5 rfl HS rfl rfl rfl (rdC.at 0 row_rd HS rfl) (by omega) (by omega)) rfl ?_
 rintro _ w ⟨ra5, rc6, rfl, HS⟩
 refine W.as rfl (W.nx (V.seq (V.seq (V.region (W.mv rfl (W.r (X.cmp (decide (a2 = 32768)) rfl rfl rfl rfl) rfl (W.nx ?_)))))))
 by_cases c7 : a2 = 32768
 ·replace H := ite_t c7 H
  refine V.condT (sb (decide_eq_true c7)) (V.region (W.mv rfl (W.mv rfl (W.r (X.shr rfl rfl (by decide)) rfl (W.r (X.conv Try.underlying3 Try.underlying5 rfl) rfl (W.e (Y.ls (e := 5) (Value.int .u8) ([IntKind.u8.wrap (a1.fdiv (2 ^ (min (8 : Int).toNat IntKind.i64.bits)))] : List Int) HS rfl rfl (fun _ => by kernel_rfl)) rfl ?_))))))
  rintro _ w ⟨lb10, rfl, HS⟩
  obtain ⟨c11, H⟩ := ite_n H
  refine W.e (Y.appF (Value.int .u8) (fun _ => rfl) 2 Try.underlying39 ap5 rfl HS rfl rfl rfl (rdC.at 0 row_rd HS rfl) (by omega) (by omega)) rfl ?_
  rintro _ w ⟨ra12, rc13, rfl, HS⟩
  refine W.as rfl (W.nx (V.seq (V.region (W.mv rfl (W.as rfl (W.nx (V.ret ?_)))))))
  replace HS := HS.pk [2, 3] [0, 1]
  cases H
  exact At.ret1 rfl rfl ⟨_, rfl, ra12, rc13, rfl, HS⟩
 ·replace H := ite_f c7 H
  refine V.condF (sb (decide_eq_false c7)) (V.skip (At.next (V.seq (V.region (W.mv rfl (W.as rfl (W.nx (V.ret ?_))))))))
  replace HS := HS.pk [1, 2] [0]
  cases H
  exact At.ret1 rfl rfl ⟨_, rfl, ra5, rc6, rfl, HS⟩
def control_plain.f  : Option (List Int) := some ([111, 99, 67, 15, 135] : List Int)
theorem control_plain.calls  {R : As} {w0 w : World}  {r : List Int} (H : control_plain.f  = some r) (HS : Sep.St [R] w0 w)  : Calls Try.prog 86 #[] w (Ret fun u w => ∃ (aq0 : Option Addr) (cq0 : Nat), u = Value.slice aq0 r.length cq0 ∧ Sep.St [row 5 1 (.slice aq0 r.length cq0) r.length (r.map (Value.int .u8)), R] w0 w) := by
 unfold control_plain.f at H
 refine calls_enter Try.func86 rfl rfl ?_
 have H : _ = some r := H
 refine V.seq (V.region (W.as rfl (W.nx (V.seq (V.region (W.e (Y.ls (e := 5) (Value.int .u8) ([111, 99, 67, 15, 135] : List Int) HS rfl rfl (fun _ => by kernel_rfl)) rfl ?_))))))
 rintro _ w ⟨lb3, rfl, HS⟩
 refine W.as rfl (W.nx (V.ret ?_))
 cases H
 exact At.ret1 rfl rfl ⟨_, rfl, (some ⟨lb3, 0, none⟩), 5, rfl, HS⟩
def control_Bytes.f (a0 : api_Ctl) (a1 : Int) : Option (List Int) := ((control_Right.f a0 a1).bind fun t3 => (if t3 = true then ((control_bit.f a0.Poll).bind fun t6 => (if a0.Kind = 0 then ((control_put.f ([] : List Int) (w64 (2 * a0.Ns)) a1).bind fun t9 => ((control_put.f t9 (w64 ((w64 (2 * a0.Nr)) + t6)) a1).bind fun t11 => some t11)) else (if a0.Kind = 1 then ((control_put.f ([] : List Int) 1 a1).bind fun t14 => ((control_put.f t14 (w64 ((w64 (2 * a0.Nr)) + t6)) a1).bind fun t16 => some t16)) else (if a0.Kind = 2 then ((control_put.f ([] : List Int) 9 a1).bind fun t19 => ((control_put.f t19 (w64 ((w64 (2 * a0.Nr)) + t6)) a1).bind fun t21 => some t21)) else ((control_plain.f ).bind fun t23 => (if 0 ≤ w64 (a0.Kind - 3) ∧ w64 (a0.Kind - 3) < (t23.length : Int) then some (([ior .u8 (t23.getD (w64 (a0.Kind - 3)).toNat 0) (IntKind.u8.wrap (w64 (t6 * 16)))] : List Int)) else none)))))) else some ([] : List Int)))
theorem control_Bytes.calls {a0 : api_Ctl} {a1 : Int} {R : As} {w0 w : World}  {r : List Int} (H : control_Bytes.f a0 a1 = some r) (HS : Sep.St [R] w0 w)  : Calls Try.prog 97 #[Value.agg #[Value.int .i64 a0.Kind, Value.int .i64 a0.Ns, Value.int .i64 a0.Nr, Value.bool a0.Poll], Value.int .i64 a1] w (Ret fun u w => ∃ (aq0 : Option Addr) (cq0 : Nat), u = Value.slice aq0 r.length cq0 ∧ Sep.St [row 5 1 (.slice aq0 r.length cq0) r.length (r.map (Value.int .u8)), R] w0 w) := by
 unfold control_Bytes.f at H
 refine calls_enter Try.func97 rfl rfl ?_
 have H : _ = some r := H
 refine V.seq (V.region (W.e (Y.box HS rfl) rfl ?_))
 rintro _ w ⟨nb1, rfl, HS⟩
 refine W.as rfl (W.nx (V.seq (V.seq (V.region (W.r (X.loadSt 0 [Value.int .i64 a0.Kind, Value.int .i64 a0.Ns, Value.int .i64 a0.Nr, Value.bool a0.Poll] HS rfl Try.underlying42 rfl inf42 rfl rfl) rfl (W.mv rfl ?_))))))
 obtain ⟨t3, A4, H⟩ := bind_s H
 refine W.e (Y.cl Try.func106 (control_Right.calls A4 HS.j0)) rfl ?_
 rintro _ w ⟨rfl, HS⟩
 replace HS := HS.o0
 refine W.r (X.not rfl) rfl (W.nx ?_)
 by_cases c5 : t3 = true
 ·replace H := ite_t c5 H
  refine V.condF (sb (n_t c5)) (V.skip (At.next (V.seq (V.region (W.fa fo42_3 rfl (W.ld 0 HS Try.underlying4 rfl rfl rfl rfl ?_))))))
  obtain ⟨t6, A7, H⟩ := bind_s H
  refine W.e (Y.cl Try.func107 (control_bit.calls A7 HS.j0)) rfl ?_
  rintro _ w ⟨rfl, HS⟩
  replace HS := HS.o0
  refine W.as rfl (W.nx (V.seq (V.seq (V.region (W.fa fo42_0 rfl (W.ld 0 HS Try.underlying3 rfl rfl rfl rfl (W.nx (V.block (V.seq (V.region (W.r (X.cmp (decide (a0.Kind = 0)) rfl rfl rfl rfl) rfl (W.as rfl (W.nx ?_)))))))))))))
  by_cases c8 : a0.Kind = 0
  ·replace H := ite_t c8 H
   refine V.condT (sb (decide_eq_true c8)) (V.seq (V.dr [4, 11] [12] [(17, Value.pointer (some ⟨nb1, 0 + 1, none⟩)), (18, Value.int .i64 a0.Ns), (19, Value.int .i64 (w64 (2 * a0.Ns))), (20, Value.int .i64 a1), (22, Value.pointer (some ⟨nb1, 0 + 2, none⟩)), (23, Value.int .i64 a0.Nr), (24, Value.int .i64 (w64 (2 * a0.Nr))), (25, Value.int .i64 t6), (26, Value.int .i64 (w64 ((w64 (2 * a0.Nr)) + t6))), (27, Value.int .i64 a1)] mo HS ?_))
   refine T.ev [(19, _), (20, _)] [12] [0, 1, 2, 3] ⟨rfl, rfl, trivial⟩ ⟨.fa 2 fo42_1, .ld 17 0 Try.underlying3, .n1 18 rfl rfl (fun w HS => X.mul rfl rfl), .mv 1, .fa 2 fo42_2, .ld 22 0 Try.underlying3, .n1 23 rfl rfl (fun w HS => X.mul rfl rfl), .mv 5, .n2 24 25 rfl rfl rfl (fun w HS => X.add rfl rfl), .mv 1, trivial⟩ rfl (fun w HS => ?_)
   replace HS := row_nilF (Value.int .u8) 5 1 HS
   obtain ⟨t9, A10, H⟩ := bind_s H
   refine ⟨_, Y.cl Try.func87 (control_put.calls A10 HS.j1), ?_⟩
   rintro _ w ⟨at9_0, ct9_0, rfl, HS⟩
   replace HS := HS.o1
   refine T.nw HS ?_
   refine T.ev [(21, _), (26, _), (27, _)] [] [5, 6, 7, 8, 9, 10] ⟨rfl, rfl, rfl, trivial⟩ ⟨.fa 2 fo42_2, .ld 22 1 Try.underlying3, .n1 23 rfl rfl (fun w HS => X.mul rfl rfl), .mv 5, .n2 24 25 rfl rfl rfl (fun w HS => X.add rfl rfl), .mv 1, trivial⟩ rfl (fun w HS => ?_)
   obtain ⟨t11, A12, H⟩ := bind_s H
   refine ⟨_, Y.cl Try.func87 (control_put.calls A12 HS.j1), ?_⟩
   rintro _ w ⟨at11_0, ct11_0, rfl, HS⟩
   replace HS := HS.o1
   refine T.nm [(28, Value.slice at11_0 t11.length ct11_0), (4, Value.slice at11_0 t11.length ct11_0)] HS ⟨.inl ⟨rfl, rfl⟩, ⟨.inr ⟨by decide, rfl⟩, trivial⟩⟩ ?_
   refine T.fn [(4, _)] ⟨rfl, trivial⟩ ⟨.as 28, trivial⟩ (fun w HS => ?_)
   refine At.next (V.ret (At.blockRet (At.thenRet ?_)))
   replace HS := HS.pk [0, 2] [1]
   cases H
   exact At.ret1 rfl rfl ⟨_, rfl, at11_0, ct11_0, rfl, HS⟩
  ·replace H := ite_f c8 H
   refine V.condF (sb (decide_eq_false c8)) (V.seq (V.region (W.r (X.cmp (decide (a0.Kind = 1)) rfl rfl rfl rfl) rfl (W.as rfl (W.nx ?_)))))
   by_cases c13 : a0.Kind = 1
   ·replace H := ite_t c13 H
    refine V.condT (sb (decide_eq_true c13)) (V.seq (V.dr [1, 8] [9] [(31, Value.int .i64 a1), (33, Value.pointer (some ⟨nb1, 0 + 2, none⟩)), (34, Value.int .i64 a0.Nr), (35, Value.int .i64 (w64 (2 * a0.Nr))), (36, Value.int .i64 t6), (37, Value.int .i64 (w64 ((w64 (2 * a0.Nr)) + t6))), (38, Value.int .i64 a1)] mo HS ?_))
    refine T.ev [(31, _)] [9] [0] ⟨rfl, trivial⟩ ⟨.mv 1, .fa 2 fo42_2, .ld 33 0 Try.underlying3, .n1 34 rfl rfl (fun w HS => X.mul rfl rfl), .mv 5, .n2 35 36 rfl rfl rfl (fun w HS => X.add rfl rfl), .mv 1, trivial⟩ rfl (fun w HS => ?_)
    replace HS := row_nilF (Value.int .u8) 5 1 HS
    obtain ⟨t14, A15, H⟩ := bind_s H
    refine ⟨_, Y.cl Try.func87 (control_put.calls A15 HS.j1), ?_⟩
    rintro _ w ⟨at14_0, ct14_0, rfl, HS⟩
    replace HS := HS.o1
    refine T.nw HS ?_
    refine T.ev [(32, _), (37, _), (38, _)] [] [2, 3, 4, 5, 6, 7] ⟨rfl, rfl, rfl, trivial⟩ ⟨.fa 2 fo42_2, .ld 33 1 Try.underlying3, .n1 34 rfl rfl (fun w HS => X.mul rfl rfl), .mv 5, .n2 35 36 rfl rfl rfl (fun w HS => X.add rfl rfl), .mv 1, trivial⟩ rfl (fun w HS => ?_)
    obtain ⟨t16, A17, H⟩ := bind_s H
    refine ⟨_, Y.cl Try.func87 (control_put.calls A17 HS.j1), ?_⟩
    rintro _ w ⟨at16_0, ct16_0, rfl, HS⟩
    replace HS := HS.o1
    refine T.nm [(39, Value.slice at16_0 t16.length ct16_0), (4, Value.slice at16_0 t16.length ct16_0)] HS ⟨.inl ⟨rfl, rfl⟩, ⟨.inr ⟨by decide, rfl⟩, trivial⟩⟩ ?_
    refine T.fn [(4, _)] ⟨rfl, trivial⟩ ⟨.as 39, trivial⟩ (fun w HS => ?_)
    refine At.next (V.ret (At.blockRet (At.thenRet ?_)))
    replace HS := HS.pk [0, 2] [1]
    cases H
    exact At.ret1 rfl rfl ⟨_, rfl, at16_0, ct16_0, rfl, HS⟩
   ·replace H := ite_f c13 H
    refine V.condF (sb (decide_eq_false c13)) (V.seq (V.region (W.r (X.cmp (decide (a0.Kind = 2)) rfl rfl rfl rfl) rfl (W.as rfl (W.nx ?_)))))
    by_cases c18 : a0.Kind = 2
    ·replace H := ite_t c18 H
     refine V.condT (sb (decide_eq_true c18)) (V.seq (V.dr [1, 8] [9] [(42, Value.int .i64 a1), (44, Value.pointer (some ⟨nb1, 0 + 2, none⟩)), (45, Value.int .i64 a0.Nr), (46, Value.int .i64 (w64 (2 * a0.Nr))), (47, Value.int .i64 t6), (48, Value.int .i64 (w64 ((w64 (2 * a0.Nr)) + t6))), (49, Value.int .i64 a1)] mo HS ?_))
     refine T.ev [(42, _)] [9] [0] ⟨rfl, trivial⟩ ⟨.mv 1, .fa 2 fo42_2, .ld 44 0 Try.underlying3, .n1 45 rfl rfl (fun w HS => X.mul rfl rfl), .mv 5, .n2 46 47 rfl rfl rfl (fun w HS => X.add rfl rfl), .mv 1, trivial⟩ rfl (fun w HS => ?_)
     replace HS := row_nilF (Value.int .u8) 5 1 HS
     obtain ⟨t19, A20, H⟩ := bind_s H
     refine ⟨_, Y.cl Try.func87 (control_put.calls A20 HS.j1), ?_⟩
     rintro _ w ⟨at19_0, ct19_0, rfl, HS⟩
     replace HS := HS.o1
     refine T.nw HS ?_
     refine T.ev [(43, _), (48, _), (49, _)] [] [2, 3, 4, 5, 6, 7] ⟨rfl, rfl, rfl, trivial⟩ ⟨.fa 2 fo42_2, .ld 44 1 Try.underlying3, .n1 45 rfl rfl (fun w HS => X.mul rfl rfl), .mv 5, .n2 46 47 rfl rfl rfl (fun w HS => X.add rfl rfl), .mv 1, trivial⟩ rfl (fun w HS => ?_)
     obtain ⟨t21, A22, H⟩ := bind_s H
     refine ⟨_, Y.cl Try.func87 (control_put.calls A22 HS.j1), ?_⟩
     rintro _ w ⟨at21_0, ct21_0, rfl, HS⟩
     replace HS := HS.o1
     refine T.nm [(50, Value.slice at21_0 t21.length ct21_0), (4, Value.slice at21_0 t21.length ct21_0)] HS ⟨.inl ⟨rfl, rfl⟩, ⟨.inr ⟨by decide, rfl⟩, trivial⟩⟩ ?_
     refine T.fn [(4, _)] ⟨rfl, trivial⟩ ⟨.as 50, trivial⟩ (fun w HS => ?_)
     refine At.next (V.ret (At.blockRet (At.thenRet ?_)))
     replace HS := HS.pk [0, 2] [1]
     cases H
     exact At.ret1 rfl rfl ⟨_, rfl, at21_0, ct21_0, rfl, HS⟩
    ·replace H := ite_f c18 H
     refine V.condF (sb (decide_eq_false c18)) (V.skip (At.blockEnd (At.next (V.seq (V.dr [0, 10] [4, 5, 9, 11] [(52, Value.pointer (some ⟨nb1, 0 + 0, none⟩)), (53, Value.int .i64 a0.Kind), (54, Value.int .i64 (w64 (a0.Kind - 3))), (57, Value.int .i64 t6), (58, Value.int .i64 (w64 (t6 * 16))), (59, Value.int .u8 (IntKind.u8.wrap (w64 (t6 * 16))))] mo HS ?_)))))
     refine T.ev [] [11] [] trivial ⟨.fa 2 fo42_0, .ld 52 0 Try.underlying3, .n1 53 rfl rfl (fun w HS => X.sub rfl rfl), .mv 5, .n1 57 rfl rfl (fun w HS => X.mul rfl rfl), .n1 58 rfl rfl (fun w HS => X.conv Try.underlying3 Try.underlying5 rfl), trivial⟩ rfl (fun w HS => ?_)
     obtain ⟨t23, A24, H⟩ := bind_s H
     refine ⟨_, Y.cl Try.func86 (control_plain.calls A24 HS.j0), ?_⟩
     rintro _ w ⟨at23_0, ct23_0, rfl, HS⟩
     replace HS := HS.o1
     obtain ⟨c25, H⟩ := ite_n H
     obtain ⟨eb26, eo27, hh⟩ := (rdC.at 0 row_rd HS rfl).some (by decide) c25.1 c25.2; subst hh
     refine T.nm [(51, Value.slice (some ⟨eb26, eo27, none⟩) t23.length ct23_0), (55, Value.pointer (some ⟨eb26, eo27 + (w64 (a0.Kind - 3)).toNat * 1, none⟩)), (56, Value.int .u8 (t23.getD (w64 (a0.Kind - 3)).toNat 0)), (60, Value.int .u8 (ior .u8 (t23.getD (w64 (a0.Kind - 3)).toNat 0) (IntKind.u8.wrap (w64 (t6 * 16)))))] HS ⟨.inl ⟨rfl, rfl⟩, ⟨.inr ⟨by decide, rfl⟩, ⟨.inr ⟨by decide, rfl⟩, ⟨.inr ⟨by decide, rfl⟩, trivial⟩⟩⟩⟩ ?_
     refine T.ev [(60, _)] [] [1, 2, 3, 4, 5, 6, 7, 8, 9] ⟨rfl, trivial⟩ ⟨.fa 2 fo42_0, .ld 52 1 Try.underlying3, .n1 53 rfl rfl (fun w HS => X.sub rfl rfl), .n2 51 54 rfl rfl rfl (fun w HS => X.indexSl Try.underlying39 inf5 rfl rfl c25.1 c25.2), .n1 55 rfl rfl (fun w HS => X.load Try.underlying5 rfl rfl ((rdC.at 0 row_rd HS rfl).cellI c25.1 c25.2)), .mv 5, .n1 57 rfl rfl (fun w HS => X.mul rfl rfl), .n1 58 rfl rfl (fun w HS => X.conv Try.underlying3 Try.underlying5 rfl), .n2 56 59 rfl rfl rfl (fun w HS => X.or rfl rfl), trivial⟩ rfl (fun w HS => ?_)
     refine ⟨_, Y.ls (e := 5) (Value.int .u8) ([ior .u8 (t23.getD (w64 (a0.Kind - 3)).toNat 0) (IntKind.u8.wrap (w64 (t6 * 16)))] : List Int) HS rfl rfl (fun _ => by kernel_rfl), ?_⟩
     rintro _ w ⟨lb30, rfl, HS⟩
     refine T.nm [(61, Value.slice (some ⟨lb30, 0, none⟩) (([ior .u8 (t23.getD (w64 (a0.Kind - 3)).toNat 0) (IntKind.u8.wrap (w64 (t6 * 16)))] : List Int)).length 1), (4, Value.slice (some ⟨lb30, 0, none⟩) (([ior .u8 (t23.getD (w64 (a0.Kind - 3)).toNat 0) (IntKind.u8.wrap (w64 (t6 * 16)))] : List Int)).length 1)] HS ⟨.inl ⟨rfl, rfl⟩, ⟨.inr ⟨by decide, rfl⟩, trivial⟩⟩ ?_
     refine T.fn [(4, _)] ⟨rfl, trivial⟩ ⟨.as 61, trivial⟩ (fun w HS => ?_)
     refine At.next (V.ret ?_)
     replace HS := HS.pk [0, 3] [1, 2]
     cases H
     exact At.ret1 rfl rfl ⟨_, rfl, (some ⟨lb30, 0, none⟩), 1, rfl, HS⟩
 ·replace H := ite_f c5 H
  refine V.condT (sb (n_f (b_f c5))) (V.seq (V.region (W.as rfl (W.nx (V.ret (At.thenRet ?_))))))
  replace HS := row_nilF (Value.int .u8) 5 1 HS
  replace HS := HS.pk [0, 2] [1]
  cases H
  exact At.ret1 rfl rfl ⟨_, rfl, none, 0, rfl, HS⟩
def slices_Grow_Sbytebyte.f (a1 : Int) : Option (List Int) := (if a1 < 0 then none else (if (w64 (a1 - (w64 (0 - 0)))) > 0 then (if w64 (a1 - (w64 (0 - 0))) ≤ 1099511627776 then some ([] : List Int) else none) else some ([] : List Int)))
theorem slices_Grow_Sbytebyte.calls {a1 : Int} {R : As} {w0 w : World}  {r : List Int} (H : slices_Grow_Sbytebyte.f a1 = some r) (HS : Sep.St [R] w0 w)  : Calls Try.prog 105 #[Value.slice none 0 0, Value.int .i64 a1] w (Ret fun u w => ∃ (aq0 : Option Addr) (cq0 : Nat), u = Value.slice aq0 r.length cq0 ∧ Sep.St [row 5 1 (.slice aq0 r.length cq0) r.length (r.map (Value.int .u8)), R] w0 w) := by
 unfold slices_Grow_Sbytebyte.f at H
 refine calls_enter Try.func105 rfl rfl ?_
 have H : _ = some r := H
 refine V.seq (V.region (W.as rfl (W.nx (V.seq (V.seq (V.region (W.mv rfl (W.r (X.cmp (decide (a1 < 0)) rfl rfl rfl rfl) rfl (W.nx ?_)))))))))
 by_cases c1 : a1 < 0
 ·replace H := ite_t c1 H
  refine V.condT (sb (decide_eq_true c1)) ?_
  exact nomatch H
 ·replace H := ite_f c1 H
  refine V.condF (sb (decide_eq_false c1)) (V.skip (At.next (V.seq (V.seq (V.region (W.mv rfl (W.mv rfl (W.r (X.cap Try.underlying39 rfl) rfl (W.mv rfl (W.r (X.lenSl Try.underlying39 rfl) rfl (W.r (X.sub rfl rfl) rfl (W.r (X.sub rfl rfl) rfl (W.as rfl (W.nx (V.seq (V.region (W.mv rfl (W.r (X.cmp (decide ((w64 (a1 - (w64 (0 - 0)))) > 0)) rfl rfl rfl rfl) rfl (W.nx ?_)))))))))))))))))))
  by_cases c2 : (w64 (a1 - (w64 (0 - 0)))) > 0
  ·replace H := ite_t c2 H
   refine V.condT (sb (decide_eq_true c2)) (V.region (W.mv rfl (W.mv rfl (W.r (X.cap Try.underlying39 rfl) rfl (W.r (X.nilH Try.underlying39 inf5 rfl rfl) rfl (W.mv rfl ?_))))))
   obtain ⟨c3, H⟩ := ite_n H
   refine W.e (Y.appN (kk := (w64 (a1 - (w64 (0 - 0)))).toNat) (kI := w64 (a1 - (w64 (0 - 0)))) Try.underlying39 Try.underlying3 ap5 rfl HS rfl rfl (by omega) (by omega) (by omega) (by decide)) rfl ?_
   rintro _ w ⟨ig4, ic5, iR6, rfl, hc7, hm8, hf9, HS⟩
   refine W.mv rfl (W.r (X.lenSl Try.underlying39 rfl) rfl (W.r (X.rawH (j := (0 : Int)) Try.underlying39 inf5 rfl rfl ⟨(by omega), (by omega)⟩) rfl (W.as rfl (W.nx (V.seq (V.region (W.mv rfl (W.as rfl (W.nx (V.ret (At.again 4 (v := Value.slice (some ⟨ig4, 0, none⟩) ([] : List Int).length ic5) rfl ?_)))))))))))
   replace HS := HS.row_shut (m := ([] : List Int).length) (c := ic5) (off := 0) (cs := ([] : List Int).map (Value.int .u8)) (Nat.zero_le _) (by omega) (by omega) (by simp) rfl
   cases H
   exact At.ret1 rfl rfl ⟨_, rfl, (some ⟨ig4, 0, none⟩), ic5, rfl, HS⟩
  ·replace H := ite_f c2 H
   refine V.condF (sb (decide_eq_false c2)) (V.skip (At.next (V.seq (V.region (W.mv rfl (W.as rfl (W.nx (V.ret ?_))))))))
   replace HS := row_nilF (Value.int .u8) 5 1 HS
   cases H
   exact At.ret1 rfl rfl ⟨_, rfl, none, 0, rfl, HS⟩
mutual
def slices_Concat_Sbytebyte.l0 : Nat → (List (List Int)) → Int → Int → Option (List Int)
 | 0, _, _, _ => none
 | k + 1, a0, x2, x3 => (if x3 < (a0.length : Int) then (if 0 ≤ x3 ∧ x3 < (a0.length : Int) then (if (w64 (x2 + ((a0.getD x3.toNat []).length : Int))) < 0 then none else (slices_Concat_Sbytebyte.l0 k a0 (w64 (x2 + ((a0.getD x3.toNat []).length : Int))) (w64 (x3 + 1)))) else none) else ((slices_Grow_Sbytebyte.f x2).bind fun t17 => (slices_Concat_Sbytebyte.l1 k a0 0 t17)))
def slices_Concat_Sbytebyte.l1 : Nat → (List (List Int)) → Int → (List Int) → Option (List Int)
 | 0, _, _, _ => none
 | k + 1, a0, x20, x23 => (if x20 < (a0.length : Int) then (if 0 ≤ x20 ∧ x20 < (a0.length : Int) then (if (x23.length : Int) + (a0.getD x20.toNat []).length ≤ 1099511627776 then (slices_Concat_Sbytebyte.l1 k a0 (w64 (x20 + 1)) (x23 ++ (a0.getD x20.toNat []))) else none) else none) else some x23)
end
def slices_Concat_Sbytebyte.f (k : Nat) (a0 : List (List Int)) : Option (List Int) := (slices_Concat_Sbytebyte.l0 k a0 0 0)
theorem slices_Concat_Sbytebyte.calls {k : Nat} {a0 : List (List Int)} {R : As} {w0 w : World} {sa0 : Option Addr} {sc0 : Nat} {sd0 : List Value} {r : List Int} (H : slices_Concat_Sbytebyte.f k a0 = some r) (HS : Sep.St [R] w0 w) (hr0 : rdC R 1 (.slice sa0 a0.length sc0) a0.length sd0) (ht0 : ∀ h, R h → tie (El.sl (El.int .u8)) sd0 a0 h) : Calls Try.prog 96 #[Value.slice sa0 a0.length sc0] w (Ret fun u w => ∃ (aq0 : Option Addr) (cq0 : Nat), u = Value.slice aq0 r.length cq0 ∧ Sep.St [row 5 1 (.slice aq0 r.length cq0) r.length (r.map (Value.int .u8)), R] w0 w) := by
 unfold slices_Concat_Sbytebyte.f at H
 refine calls_enter Try.func96 rfl rfl ?_
 have H : _ = some r := H
 replace HS := St.more 0 HS rfl ht0 tie.pers
 refine V.seq (V.region (W.as rfl (W.nx (V.seq (V.region (W.as rfl (W.nx (V.seq (V.seq (V.region (W.mv rfl (W.r (X.lenSl Try.underlying30 rfl) rfl (W.mv rfl (W.nx (V.block (V.loop (σ := Int × Int) (fun kq (st : Int × Int) w => match st with | (x2, x3) => Sep.St [tie (El.sl (El.int .u8)) sd0 a0, R] w0 w ∧ slices_Concat_Sbytebyte.l0 kq a0 x2 x3 = some r ∧ kq ≤ k) (fun st => match st with | (x2, x3) => [(0, Value.slice sa0 a0.length sc0), (3, Value.int .i64 x2), (9, Value.slice sa0 a0.length sc0), (10, Value.int .i64 (a0.length : Int)), (11, Value.int .i64 x3)]) k (0, 0) ⟨rfl, rfl, rfl, rfl, rfl, trivial⟩ ⟨HS, H, Nat.le_refl _⟩ ?_))))))))))))))))
 rintro kq4 ⟨x2, x3⟩ w ⟨HS, H, hk5⟩
 cases kq4 with
 | zero => exact absurd H (by simp [slices_Concat_Sbytebyte.l0])
 | succ kq4 =>
  simp only [slices_Concat_Sbytebyte.l0] at H
  refine V.seq (V.region (W.r (X.cmp (decide (x3 < (a0.length : Int))) rfl rfl rfl rfl) rfl (W.nx (V.seq ?_))))
  by_cases c6 : x3 < (a0.length : Int)
  ·replace H := ite_t c6 H
   refine V.condT (sb (decide_eq_true c6)) (V.skip (At.next (V.seq (V.block (V.seq (V.region ?_))))))
   obtain ⟨c7, H⟩ := ite_n H
   obtain ⟨eb8, eo9, hh⟩ := (rdC.at 1 hr0 HS rfl).some (by decide) c7.1 c7.2; subst hh
   refine W.r (X.indexSl Try.underlying30 inf39 rfl rfl c7.1 c7.2) rfl ?_
   obtain ⟨ec10, hc11, HS⟩ := St.tie_at 0 HS rfl ([]) c7.1 c7.2
   obtain ⟨ea12, em13, he15, HN⟩ := St.sl_openF (Value.int .u8) (fun t => tie_int t) HS; clear HS; subst he15; have HS := HN
   refine W.r (X.load Try.underlying39 rfl rfl ((rdC.at 2 hr0 HS rfl).cellEl0 (hc11 0 _ rfl))) rfl (W.as rfl (W.nx (V.seq (V.region (W.mv rfl (W.mv rfl (W.r (X.lenSl Try.underlying39 rfl) rfl (W.r (X.add rfl rfl) rfl (W.as rfl (W.nx (V.seq (V.region (W.mv rfl (W.r (X.cmp (decide ((w64 (x2 + ((a0.getD x3.toNat []).length : Int))) < 0)) rfl rfl rfl rfl) rfl (W.nx ?_)))))))))))))))
   by_cases c16 : (w64 (x2 + ((a0.getD x3.toNat []).length : Int))) < 0
   ·replace H := ite_t c16 H
    refine V.condT (sb (decide_eq_true c16)) ?_
    exact nomatch H
   ·replace H := ite_f c16 H
    refine V.condF (sb (decide_eq_false c16)) (V.skip (At.blockEnd (At.next (V.region (W.r (X.add rfl rfl) rfl (W.mv rfl (W.nil ?_)))))))
    replace HS := HS.pk [1, 2] [0]
    exact At.round kq4 (by omega) (w64 (x2 + ((a0.getD x3.toNat []).length : Int)), w64 (x3 + 1)) ⟨rfl, rfl, rfl, rfl, rfl, trivial⟩ ⟨HS, H, by omega⟩
  ·replace H := ite_f c6 H
   refine V.condF (sb (decide_eq_false c6)) (V.exit (At.thenExit (At.thenExit (At.blockExit (At.next (V.seq (V.region (W.mv rfl ?_))))))))
   obtain ⟨t17, A18, H⟩ := bind_s H
   refine W.e (Y.cl Try.func105 (slices_Grow_Sbytebyte.calls A18 HS.j0)) rfl ?_
   rintro _ w ⟨at17_0, ct17_0, rfl, HS⟩
   replace HS := HS.o1
   refine W.as rfl (W.nx (V.seq (V.seq (V.region (W.mv rfl (W.r (X.lenSl Try.underlying30 rfl) rfl (W.mv rfl (W.nx (V.block (V.loop (σ := Int × Option Addr × Nat × List Int) (fun kq (st : Int × Option Addr × Nat × List Int) w => match st with | (x20, ra21, rc22, x23) => Sep.St [row 5 1 (.slice ra21 x23.length rc22) x23.length (x23.map (Value.int .u8)), tie (El.sl (El.int .u8)) sd0 a0, R] w0 w ∧ slices_Concat_Sbytebyte.l1 kq a0 x20 x23 = some r ∧ kq ≤ kq4) (fun st => match st with | (x20, ra21, rc22, x23) => [(6, Value.slice ra21 x23.length rc22), (25, Value.slice sa0 a0.length sc0), (26, Value.int .i64 (a0.length : Int)), (27, Value.int .i64 x20)]) kq4 (0, at17_0, ct17_0, t17) ⟨rfl, rfl, rfl, rfl, trivial⟩ ⟨HS, H, Nat.le_refl _⟩ ?_))))))))))
   rintro kq24 ⟨x20, ra21, rc22, x23⟩ w ⟨HS, H, hk25⟩
   cases kq24 with
   | zero => exact absurd H (by simp [slices_Concat_Sbytebyte.l1])
   | succ kq24 =>
    simp only [slices_Concat_Sbytebyte.l1] at H
    refine V.seq (V.region (W.r (X.cmp (decide (x20 < (a0.length : Int))) rfl rfl rfl rfl) rfl (W.nx (V.seq ?_))))
    by_cases c26 : x20 < (a0.length : Int)
    ·replace H := ite_t c26 H
     refine V.condT (sb (decide_eq_true c26)) (V.skip (At.next (V.seq (V.block (V.seq (V.region ?_))))))
     obtain ⟨c27, H⟩ := ite_n H
     obtain ⟨eb28, eo29, hh⟩ := (rdC.at 2 hr0 HS rfl).some (by decide) c27.1 c27.2; subst hh
     refine W.r (X.indexSl Try.underlying30 inf39 rfl rfl c27.1 c27.2) rfl ?_
     obtain ⟨ec30, hc31, HS⟩ := St.tie_at 1 HS rfl ([]) c27.1 c27.2
     obtain ⟨ea32, em33, he35, HN⟩ := St.sl_openF (Value.int .u8) (fun t => tie_int t) HS; clear HS; subst he35; have HS := HN
     refine W.r (X.load Try.underlying39 rfl rfl ((rdC.at 3 hr0 HS rfl).cellEl0 (hc31 0 _ rfl))) rfl (W.as rfl (W.nx (V.region (W.mv rfl (W.mv rfl ?_)))))
     obtain ⟨c36, H⟩ := ite_n H
     refine W.e (Y.appF (Value.int .u8) (fun _ => rfl) 1 Try.underlying39 ap5 rfl HS rfl rfl rfl (rdC.at 0 fsl.rd HS rfl) (by omega) (by omega)) rfl ?_
     rintro _ w ⟨ra37, rc38, rfl, HS⟩
     refine W.as rfl (W.nil (At.blockEnd (At.next (V.region (W.r (X.add rfl rfl) rfl (W.mv rfl (W.nil ?_)))))))
     replace HS := HS.pk [1, 2, 3] [0]
     exact At.round kq24 (by omega) (w64 (x20 + 1), ra37, rc38, x23 ++ (a0.getD x20.toNat [])) ⟨rfl, rfl, rfl, rfl, trivial⟩ ⟨HS, H, by omega⟩
    ·replace H := ite_f c26 H
     refine V.condF (sb (decide_eq_false c26)) (V.exit (At.thenExit (At.thenExit (At.blockExit (At.next (V.seq (V.region (W.mv rfl (W.as rfl (W.nx (V.ret ?_)))))))))))
     replace HS := HS.pk [0, 2] [1]
     cases H
     exact At.ret1 rfl rfl ⟨_, rfl, ra21, rc22, rfl, HS⟩
structure backlog_Log where
 m : Int
 window : Int
 queue : Int
 first : Int
 out : Int
 l : List (List Int)
deriving DecidableEq, Inhabited
structure reorder_Order where
 m : Int
 window : Int
 next : Int
 kept : List (Int × (List Int))
 ready : List (List Int)
deriving DecidableEq, Inhabited
structure clock_Set where
 now : Int
 left : List Int
deriving DecidableEq, Inhabited
structure arq_Arq where
 m : Int
 t1 : Int
 n2 : Int
 size : Int
 state : Int
 tag : Int
 tries : Int
 rejected : Bool
 log : backlog_Log
 order : reorder_Order
 timers : clock_Set
 out : List (List Int)
 inds : List Int
 sent : Int
 acked : Int
 lost : Int
deriving DecidableEq, Inhabited
def backlog_Log.at (b : Nat) (x : backlog_Log) : As := fun h => True ∧ ∃ a5 : Option Addr, ∃ c5 : Nat, ∃ d5 : List Value, Sp [blk b (#[Value.int .i64 x.m, Value.int .i64 x.window, Value.int .i64 x.queue, Value.int .i64 x.first, Value.int .i64 x.out, Value.slice a5 x.l.length c5]) 103, row 39 1 (.slice a5 x.l.length c5) x.l.length d5, tie (El.sl (El.int .u8)) d5 x.l] h
theorem backlog_Log.open {b : Nat} {x : backlog_Log} {L : List As} {w0 w : World} (hs : Sep.St (backlog_Log.at b x :: L) w0 w) : ∃ a5 : Option Addr, ∃ c5 : Nat, ∃ d5 : List Value, True ∧ Sep.St (blk b (#[Value.int .i64 x.m, Value.int .i64 x.window, Value.int .i64 x.queue, Value.int .i64 x.first, Value.int .i64 x.out, Value.slice a5 x.l.length c5]) 103 :: row 39 1 (.slice a5 x.l.length c5) x.l.length d5 :: tie (El.sl (El.int .u8)) d5 x.l :: L) w0 w := by
 have h1 := St.pure.1 (show St ((fun h => True ∧ (fun h => ∃ a5 : Option Addr, ∃ c5 : Nat, ∃ d5 : List Value, Sp [blk b (#[Value.int .i64 x.m, Value.int .i64 x.window, Value.int .i64 x.queue, Value.int .i64 x.first, Value.int .i64 x.out, Value.slice a5 x.l.length c5]) 103, row 39 1 (.slice a5 x.l.length c5) x.l.length d5, tie (El.sl (El.int .u8)) d5 x.l] h) h) :: L) w0 w from hs)
 obtain ⟨hi, hs⟩ := h1
 obtain ⟨a5, hs⟩ := St.ex.1 (show St ((fun h => ∃ a5 : Option Addr, (fun h => ∃ c5 : Nat, ∃ d5 : List Value, Sp [blk b (#[Value.int .i64 x.m, Value.int .i64 x.window, Value.int .i64 x.queue, Value.int .i64 x.first, Value.int .i64 x.out, Value.slice a5 x.l.length c5]) 103, row 39 1 (.slice a5 x.l.length c5) x.l.length d5, tie (El.sl (El.int .u8)) d5 x.l] h) h) :: L) w0 w from hs)
 obtain ⟨c5, hs⟩ := St.ex.1 (show St ((fun h => ∃ c5 : Nat, (fun h => ∃ d5 : List Value, Sp [blk b (#[Value.int .i64 x.m, Value.int .i64 x.window, Value.int .i64 x.queue, Value.int .i64 x.first, Value.int .i64 x.out, Value.slice a5 x.l.length c5]) 103, row 39 1 (.slice a5 x.l.length c5) x.l.length d5, tie (El.sl (El.int .u8)) d5 x.l] h) h) :: L) w0 w from hs)
 obtain ⟨d5, hs⟩ := St.ex.1 (show St ((fun h => ∃ d5 : List Value, (fun h => Sp [blk b (#[Value.int .i64 x.m, Value.int .i64 x.window, Value.int .i64 x.queue, Value.int .i64 x.first, Value.int .i64 x.out, Value.slice a5 x.l.length c5]) 103, row 39 1 (.slice a5 x.l.length c5) x.l.length d5, tie (El.sl (El.int .u8)) d5 x.l] h) h) :: L) w0 w from hs)
 exact ⟨a5, c5, d5, hi, St.open (m := [blk b (#[Value.int .i64 x.m, Value.int .i64 x.window, Value.int .i64 x.queue, Value.int .i64 x.first, Value.int .i64 x.out, Value.slice a5 x.l.length c5]) 103, row 39 1 (.slice a5 x.l.length c5) x.l.length d5, tie (El.sl (El.int .u8)) d5 x.l]) hs⟩
theorem backlog_Log.close {b : Nat} {l0 : Int} {l1 : Int} {l2 : Int} {l3 : Int} {l4 : Int} {l5 : List (List Int)} {a5 : Option Addr} {c5 : Nat} {d5 : List Value} {L : List As} {w0 w : World} (hi : True) (hs : Sep.St (blk b (#[Value.int .i64 l0, Value.int .i64 l1, Value.int .i64 l2, Value.int .i64 l3, Value.int .i64 l4, Value.slice a5 l5.length c5]) 103 :: row 39 1 (.slice a5 l5.length c5) l5.length d5 :: tie (El.sl (El.int .u8)) d5 l5 :: L) w0 w) : Sep.St (backlog_Log.at b ({ m := l0, window := l1, queue := l2, first := l3, out := l4, l := l5 } : backlog_Log) :: L) w0 w := by
 have h2 := St.join (m := [blk b (#[Value.int .i64 l0, Value.int .i64 l1, Value.int .i64 l2, Value.int .i64 l3, Value.int .i64 l4, Value.slice a5 l5.length c5]) 103, row 39 1 (.slice a5 l5.length c5) l5.length d5, tie (El.sl (El.int .u8)) d5 l5]) hs
 exact h2.mono fun h hh => ⟨hi, _, _, _, hh⟩
def reorder_Order.at (b : Nat) (x : reorder_Order) : As := fun h => True ∧ ∃ b3 : Nat, ∃ k3 : List (Int × Value), ∃ a4 : Option Addr, ∃ c4 : Nat, ∃ d4 : List Value, Sp [blk b (#[Value.int .i64 x.m, Value.int .i64 x.window, Value.int .i64 x.next, Value.map (some b3), Value.slice a4 x.ready.length c4]) 106, mblk b3 k3, tieM (El.sl (El.int .u8)) k3 x.kept, row 39 1 (.slice a4 x.ready.length c4) x.ready.length d4, tie (El.sl (El.int .u8)) d4 x.ready] h
theorem reorder_Order.open {b : Nat} {x : reorder_Order} {L : List As} {w0 w : World} (hs : Sep.St (reorder_Order.at b x :: L) w0 w) : ∃ b3 : Nat, ∃ k3 : List (Int × Value), ∃ a4 : Option Addr, ∃ c4 : Nat, ∃ d4 : List Value, True ∧ Sep.St (blk b (#[Value.int .i64 x.m, Value.int .i64 x.window, Value.int .i64 x.next, Value.map (some b3), Value.slice a4 x.ready.length c4]) 106 :: mblk b3 k3 :: tieM (El.sl (El.int .u8)) k3 x.kept :: row 39 1 (.slice a4 x.ready.length c4) x.ready.length d4 :: tie (El.sl (El.int .u8)) d4 x.ready :: L) w0 w := by
 have h1 := St.pure.1 (show St ((fun h => True ∧ (fun h => ∃ b3 : Nat, ∃ k3 : List (Int × Value), ∃ a4 : Option Addr, ∃ c4 : Nat, ∃ d4 : List Value, Sp [blk b (#[Value.int .i64 x.m, Value.int .i64 x.window, Value.int .i64 x.next, Value.map (some b3), Value.slice a4 x.ready.length c4]) 106, mblk b3 k3, tieM (El.sl (El.int .u8)) k3 x.kept, row 39 1 (.slice a4 x.ready.length c4) x.ready.length d4, tie (El.sl (El.int .u8)) d4 x.ready] h) h) :: L) w0 w from hs)
 obtain ⟨hi, hs⟩ := h1
 obtain ⟨b3, hs⟩ := St.ex.1 (show St ((fun h => ∃ b3 : Nat, (fun h => ∃ k3 : List (Int × Value), ∃ a4 : Option Addr, ∃ c4 : Nat, ∃ d4 : List Value, Sp [blk b (#[Value.int .i64 x.m, Value.int .i64 x.window, Value.int .i64 x.next, Value.map (some b3), Value.slice a4 x.ready.length c4]) 106, mblk b3 k3, tieM (El.sl (El.int .u8)) k3 x.kept, row 39 1 (.slice a4 x.ready.length c4) x.ready.length d4, tie (El.sl (El.int .u8)) d4 x.ready] h) h) :: L) w0 w from hs)
 obtain ⟨k3, hs⟩ := St.ex.1 (show St ((fun h => ∃ k3 : List (Int × Value), (fun h => ∃ a4 : Option Addr, ∃ c4 : Nat, ∃ d4 : List Value, Sp [blk b (#[Value.int .i64 x.m, Value.int .i64 x.window, Value.int .i64 x.next, Value.map (some b3), Value.slice a4 x.ready.length c4]) 106, mblk b3 k3, tieM (El.sl (El.int .u8)) k3 x.kept, row 39 1 (.slice a4 x.ready.length c4) x.ready.length d4, tie (El.sl (El.int .u8)) d4 x.ready] h) h) :: L) w0 w from hs)
 obtain ⟨a4, hs⟩ := St.ex.1 (show St ((fun h => ∃ a4 : Option Addr, (fun h => ∃ c4 : Nat, ∃ d4 : List Value, Sp [blk b (#[Value.int .i64 x.m, Value.int .i64 x.window, Value.int .i64 x.next, Value.map (some b3), Value.slice a4 x.ready.length c4]) 106, mblk b3 k3, tieM (El.sl (El.int .u8)) k3 x.kept, row 39 1 (.slice a4 x.ready.length c4) x.ready.length d4, tie (El.sl (El.int .u8)) d4 x.ready] h) h) :: L) w0 w from hs)
 obtain ⟨c4, hs⟩ := St.ex.1 (show St ((fun h => ∃ c4 : Nat, (fun h => ∃ d4 : List Value, Sp [blk b (#[Value.int .i64 x.m, Value.int .i64 x.window, Value.int .i64 x.next, Value.map (some b3), Value.slice a4 x.ready.length c4]) 106, mblk b3 k3, tieM (El.sl (El.int .u8)) k3 x.kept, row 39 1 (.slice a4 x.ready.length c4) x.ready.length d4, tie (El.sl (El.int .u8)) d4 x.ready] h) h) :: L) w0 w from hs)
 obtain ⟨d4, hs⟩ := St.ex.1 (show St ((fun h => ∃ d4 : List Value, (fun h => Sp [blk b (#[Value.int .i64 x.m, Value.int .i64 x.window, Value.int .i64 x.next, Value.map (some b3), Value.slice a4 x.ready.length c4]) 106, mblk b3 k3, tieM (El.sl (El.int .u8)) k3 x.kept, row 39 1 (.slice a4 x.ready.length c4) x.ready.length d4, tie (El.sl (El.int .u8)) d4 x.ready] h) h) :: L) w0 w from hs)
 exact ⟨b3, k3, a4, c4, d4, hi, St.open (m := [blk b (#[Value.int .i64 x.m, Value.int .i64 x.window, Value.int .i64 x.next, Value.map (some b3), Value.slice a4 x.ready.length c4]) 106, mblk b3 k3, tieM (El.sl (El.int .u8)) k3 x.kept, row 39 1 (.slice a4 x.ready.length c4) x.ready.length d4, tie (El.sl (El.int .u8)) d4 x.ready]) hs⟩
theorem reorder_Order.close {b : Nat} {l0 : Int} {l1 : Int} {l2 : Int} {l3 : List (Int × (List Int))} {l4 : List (List Int)} {b3 : Nat} {k3 : List (Int × Value)} {a4 : Option Addr} {c4 : Nat} {d4 : List Value} {L : List As} {w0 w : World} (hi : True) (hs : Sep.St (blk b (#[Value.int .i64 l0, Value.int .i64 l1, Value.int .i64 l2, Value.map (some b3), Value.slice a4 l4.length c4]) 106 :: mblk b3 k3 :: tieM (El.sl (El.int .u8)) k3 l3 :: row 39 1 (.slice a4 l4.length c4) l4.length d4 :: tie (El.sl (El.int .u8)) d4 l4 :: L) w0 w) : Sep.St (reorder_Order.at b ({ m := l0, window := l1, next := l2, kept := l3, ready := l4 } : reorder_Order) :: L) w0 w := by
 have h2 := St.join (m := [blk b (#[Value.int .i64 l0, Value.int .i64 l1, Value.int .i64 l2, Value.map (some b3), Value.slice a4 l4.length c4]) 106, mblk b3 k3, tieM (El.sl (El.int .u8)) k3 l3, row 39 1 (.slice a4 l4.length c4) l4.length d4, tie (El.sl (El.int .u8)) d4 l4]) hs
 exact h2.mono fun h hh => ⟨hi, _, _, _, _, _, hh⟩
def clock_Set.at (b : Nat) (x : clock_Set) : As := fun h => (x.left.length = 32) ∧ Sp [blk b (([Value.int .u32 x.now] ++ x.left.map (Value.int .i64)).toArray) 109] h
theorem clock_Set.open {b : Nat} {x : clock_Set} {L : List As} {w0 w : World} (hs : Sep.St (clock_Set.at b x :: L) w0 w) : (x.left.length = 32) ∧ Sep.St (blk b (([Value.int .u32 x.now] ++ x.left.map (Value.int .i64)).toArray) 109 :: L) w0 w := by
 have h1 := St.pure.1 (show St ((fun h => (x.left.length = 32) ∧ (fun h => Sp [blk b (([Value.int .u32 x.now] ++ x.left.map (Value.int .i64)).toArray) 109] h) h) :: L) w0 w from hs)
 obtain ⟨hi, hs⟩ := h1
 exact ⟨hi, St.open (m := [blk b (([Value.int .u32 x.now] ++ x.left.map (Value.int .i64)).toArray) 109]) hs⟩
theorem clock_Set.close {b : Nat} {l0 : Int} {l1 : List Int}  {L : List As} {w0 w : World} (hi : l1.length = 32) (hs : Sep.St (blk b (([Value.int .u32 l0] ++ l1.map (Value.int .i64)).toArray) 109 :: L) w0 w) : Sep.St (clock_Set.at b ({ now := l0, left := l1 } : clock_Set) :: L) w0 w := by
 have h2 := St.join (m := [blk b (([Value.int .u32 l0] ++ l1.map (Value.int .i64)).toArray) 109]) hs
 exact h2.mono fun h hh => ⟨hi, hh⟩
def arq_Arq.at (b : Nat) (x : arq_Arq) : As := fun h => True ∧ ∃ b8 : Nat, ∃ b9 : Nat, ∃ b10 : Nat, ∃ a11 : Option Addr, ∃ c11 : Nat, ∃ d11 : List Value, ∃ a12 : Option Addr, ∃ c12 : Nat, Sp [blk b (#[Value.int .i64 x.m, Value.int .i64 x.t1, Value.int .i64 x.n2, Value.int .i64 x.size, Value.int .i64 x.state, Value.int .i64 x.tag, Value.int .i64 x.tries, Value.bool x.rejected, Value.pointer (some ⟨b8, 0, none⟩), Value.pointer (some ⟨b9, 0, none⟩), Value.pointer (some ⟨b10, 0, none⟩), Value.slice a11 x.out.length c11, Value.slice a12 x.inds.length c12, Value.int .i64 x.sent, Value.int .i64 x.acked, Value.int .i64 x.lost]) 82, backlog_Log.at b8 x.log, reorder_Order.at b9 x.order, clock_Set.at b10 x.timers, row 39 1 (.slice a11 x.out.length c11) x.out.length d11, tie (El.sl (El.int .u8)) d11 x.out, row 3 1 (.slice a12 x.inds.length c12) x.inds.length (x.inds.map (Value.int .i64))] h
theorem arq_Arq.open {b : Nat} {x : arq_Arq} {L : List As} {w0 w : World} (hs : Sep.St (arq_Arq.at b x :: L) w0 w) : ∃ b8 : Nat, ∃ b9 : Nat, ∃ b10 : Nat, ∃ a11 : Option Addr, ∃ c11 : Nat, ∃ d11 : List Value, ∃ a12 : Option Addr, ∃ c12 : Nat, True ∧ Sep.St (blk b (#[Value.int .i64 x.m, Value.int .i64 x.t1, Value.int .i64 x.n2, Value.int .i64 x.size, Value.int .i64 x.state, Value.int .i64 x.tag, Value.int .i64 x.tries, Value.bool x.rejected, Value.pointer (some ⟨b8, 0, none⟩), Value.pointer (some ⟨b9, 0, none⟩), Value.pointer (some ⟨b10, 0, none⟩), Value.slice a11 x.out.length c11, Value.slice a12 x.inds.length c12, Value.int .i64 x.sent, Value.int .i64 x.acked, Value.int .i64 x.lost]) 82 :: backlog_Log.at b8 x.log :: reorder_Order.at b9 x.order :: clock_Set.at b10 x.timers :: row 39 1 (.slice a11 x.out.length c11) x.out.length d11 :: tie (El.sl (El.int .u8)) d11 x.out :: row 3 1 (.slice a12 x.inds.length c12) x.inds.length (x.inds.map (Value.int .i64)) :: L) w0 w := by
 have h1 := St.pure.1 (show St ((fun h => True ∧ (fun h => ∃ b8 : Nat, ∃ b9 : Nat, ∃ b10 : Nat, ∃ a11 : Option Addr, ∃ c11 : Nat, ∃ d11 : List Value, ∃ a12 : Option Addr, ∃ c12 : Nat, Sp [blk b (#[Value.int .i64 x.m, Value.int .i64 x.t1, Value.int .i64 x.n2, Value.int .i64 x.size, Value.int .i64 x.state, Value.int .i64 x.tag, Value.int .i64 x.tries, Value.bool x.rejected, Value.pointer (some ⟨b8, 0, none⟩), Value.pointer (some ⟨b9, 0, none⟩), Value.pointer (some ⟨b10, 0, none⟩), Value.slice a11 x.out.length c11, Value.slice a12 x.inds.length c12, Value.int .i64 x.sent, Value.int .i64 x.acked, Value.int .i64 x.lost]) 82, backlog_Log.at b8 x.log, reorder_Order.at b9 x.order, clock_Set.at b10 x.timers, row 39 1 (.slice a11 x.out.length c11) x.out.length d11, tie (El.sl (El.int .u8)) d11 x.out, row 3 1 (.slice a12 x.inds.length c12) x.inds.length (x.inds.map (Value.int .i64))] h) h) :: L) w0 w from hs)
 obtain ⟨hi, hs⟩ := h1
 obtain ⟨b8, hs⟩ := St.ex.1 (show St ((fun h => ∃ b8 : Nat, (fun h => ∃ b9 : Nat, ∃ b10 : Nat, ∃ a11 : Option Addr, ∃ c11 : Nat, ∃ d11 : List Value, ∃ a12 : Option Addr, ∃ c12 : Nat, Sp [blk b (#[Value.int .i64 x.m, Value.int .i64 x.t1, Value.int .i64 x.n2, Value.int .i64 x.size, Value.int .i64 x.state, Value.int .i64 x.tag, Value.int .i64 x.tries, Value.bool x.rejected, Value.pointer (some ⟨b8, 0, none⟩), Value.pointer (some ⟨b9, 0, none⟩), Value.pointer (some ⟨b10, 0, none⟩), Value.slice a11 x.out.length c11, Value.slice a12 x.inds.length c12, Value.int .i64 x.sent, Value.int .i64 x.acked, Value.int .i64 x.lost]) 82, backlog_Log.at b8 x.log, reorder_Order.at b9 x.order, clock_Set.at b10 x.timers, row 39 1 (.slice a11 x.out.length c11) x.out.length d11, tie (El.sl (El.int .u8)) d11 x.out, row 3 1 (.slice a12 x.inds.length c12) x.inds.length (x.inds.map (Value.int .i64))] h) h) :: L) w0 w from hs)
 obtain ⟨b9, hs⟩ := St.ex.1 (show St ((fun h => ∃ b9 : Nat, (fun h => ∃ b10 : Nat, ∃ a11 : Option Addr, ∃ c11 : Nat, ∃ d11 : List Value, ∃ a12 : Option Addr, ∃ c12 : Nat, Sp [blk b (#[Value.int .i64 x.m, Value.int .i64 x.t1, Value.int .i64 x.n2, Value.int .i64 x.size, Value.int .i64 x.state, Value.int .i64 x.tag, Value.int .i64 x.tries, Value.bool x.rejected, Value.pointer (some ⟨b8, 0, none⟩), Value.pointer (some ⟨b9, 0, none⟩), Value.pointer (some ⟨b10, 0, none⟩), Value.slice a11 x.out.length c11, Value.slice a12 x.inds.length c12, Value.int .i64 x.sent, Value.int .i64 x.acked, Value.int .i64 x.lost]) 82, backlog_Log.at b8 x.log, reorder_Order.at b9 x.order, clock_Set.at b10 x.timers, row 39 1 (.slice a11 x.out.length c11) x.out.length d11, tie (El.sl (El.int .u8)) d11 x.out, row 3 1 (.slice a12 x.inds.length c12) x.inds.length (x.inds.map (Value.int .i64))] h) h) :: L) w0 w from hs)
 obtain ⟨b10, hs⟩ := St.ex.1 (show St ((fun h => ∃ b10 : Nat, (fun h => ∃ a11 : Option Addr, ∃ c11 : Nat, ∃ d11 : List Value, ∃ a12 : Option Addr, ∃ c12 : Nat, Sp [blk b (#[Value.int .i64 x.m, Value.int .i64 x.t1, Value.int .i64 x.n2, Value.int .i64 x.size, Value.int .i64 x.state, Value.int .i64 x.tag, Value.int .i64 x.tries, Value.bool x.rejected, Value.pointer (some ⟨b8, 0, none⟩), Value.pointer (some ⟨b9, 0, none⟩), Value.pointer (some ⟨b10, 0, none⟩), Value.slice a11 x.out.length c11, Value.slice a12 x.inds.length c12, Value.int .i64 x.sent, Value.int .i64 x.acked, Value.int .i64 x.lost]) 82, backlog_Log.at b8 x.log, reorder_Order.at b9 x.order, clock_Set.at b10 x.timers, row 39 1 (.slice a11 x.out.length c11) x.out.length d11, tie (El.sl (El.int .u8)) d11 x.out, row 3 1 (.slice a12 x.inds.length c12) x.inds.length (x.inds.map (Value.int .i64))] h) h) :: L) w0 w from hs)
 obtain ⟨a11, hs⟩ := St.ex.1 (show St ((fun h => ∃ a11 : Option Addr, (fun h => ∃ c11 : Nat, ∃ d11 : List Value, ∃ a12 : Option Addr, ∃ c12 : Nat, Sp [blk b (#[Value.int .i64 x.m, Value.int .i64 x.t1, Value.int .i64 x.n2, Value.int .i64 x.size, Value.int .i64 x.state, Value.int .i64 x.tag, Value.int .i64 x.tries, Value.bool x.rejected, Value.pointer (some ⟨b8, 0, none⟩), Value.pointer (some ⟨b9, 0, none⟩), Value.pointer (some ⟨b10, 0, none⟩), Value.slice a11 x.out.length c11, Value.slice a12 x.inds.length c12, Value.int .i64 x.sent, Value.int .i64 x.acked, Value.int .i64 x.lost]) 82, backlog_Log.at b8 x.log, reorder_Order.at b9 x.order, clock_Set.at b10 x.timers, row 39 1 (.slice a11 x.out.length c11) x.out.length d11, tie (El.sl (El.int .u8)) d11 x.out, row 3 1 (.slice a12 x.inds.length c12) x.inds.length (x.inds.map (Value.int .i64))] h) h) :: L) w0 w from hs)
 obtain ⟨c11, hs⟩ := St.ex.1 (show St ((fun h => ∃ c11 : Nat, (fun h => ∃ d11 : List Value, ∃ a12 : Option Addr, ∃ c12 : Nat, Sp [blk b (#[Value.int .i64 x.m, Value.int .i64 x.t1, Value.int .i64 x.n2, Value.int .i64 x.size, Value.int .i64 x.state, Value.int .i64 x.tag, Value.int .i64 x.tries, Value.bool x.rejected, Value.pointer (some ⟨b8, 0, none⟩), Value.pointer (some ⟨b9, 0, none⟩), Value.pointer (some ⟨b10, 0, none⟩), Value.slice a11 x.out.length c11, Value.slice a12 x.inds.length c12, Value.int .i64 x.sent, Value.int .i64 x.acked, Value.int .i64 x.lost]) 82, backlog_Log.at b8 x.log, reorder_Order.at b9 x.order, clock_Set.at b10 x.timers, row 39 1 (.slice a11 x.out.length c11) x.out.length d11, tie (El.sl (El.int .u8)) d11 x.out, row 3 1 (.slice a12 x.inds.length c12) x.inds.length (x.inds.map (Value.int .i64))] h) h) :: L) w0 w from hs)
 obtain ⟨d11, hs⟩ := St.ex.1 (show St ((fun h => ∃ d11 : List Value, (fun h => ∃ a12 : Option Addr, ∃ c12 : Nat, Sp [blk b (#[Value.int .i64 x.m, Value.int .i64 x.t1, Value.int .i64 x.n2, Value.int .i64 x.size, Value.int .i64 x.state, Value.int .i64 x.tag, Value.int .i64 x.tries, Value.bool x.rejected, Value.pointer (some ⟨b8, 0, none⟩), Value.pointer (some ⟨b9, 0, none⟩), Value.pointer (some ⟨b10, 0, none⟩), Value.slice a11 x.out.length c11, Value.slice a12 x.inds.length c12, Value.int .i64 x.sent, Value.int .i64 x.acked, Value.int .i64 x.lost]) 82, backlog_Log.at b8 x.log, reorder_Order.at b9 x.order, clock_Set.at b10 x.timers, row 39 1 (.slice a11 x.out.length c11) x.out.length d11, tie (El.sl (El.int .u8)) d11 x.out, row 3 1 (.slice a12 x.inds.length c12) x.inds.length (x.inds.map (Value.int .i64))] h) h) :: L) w0 w from hs)
 obtain ⟨a12, hs⟩ := St.ex.1 (show St ((fun h => ∃ a12 : Option Addr, (fun h => ∃ c12 : Nat, Sp [blk b (#[Value.int .i64 x.m, Value.int .i64 x.t1, Value.int .i64 x.n2, Value.int .i64 x.size, Value.int .i64 x.state, Value.int .i64 x.tag, Value.int .i64 x.tries, Value.bool x.rejected, Value.pointer (some ⟨b8, 0, none⟩), Value.pointer (some ⟨b9, 0, none⟩), Value.pointer (some ⟨b10, 0, none⟩), Value.slice a11 x.out.length c11, Value.slice a12 x.inds.length c12, Value.int .i64 x.sent, Value.int .i64 x.acked, Value.int .i64 x.lost]) 82, backlog_Log.at b8 x.log, reorder_Order.at b9 x.order, clock_Set.at b10 x.timers, row 39 1 (.slice a11 x.out.length c11) x.out.length d11, tie (El.sl (El.int .u8)) d11 x.out, row 3 1 (.slice a12 x.inds.length c12) x.inds.length (x.inds.map (Value.int .i64))] h) h) :: L) w0 w from hs)
 obtain ⟨c12, hs⟩ := St.ex.1 (show St ((fun h => ∃ c12 : Nat, (fun h => Sp [blk b (#[Value.int .i64 x.m, Value.int .i64 x.t1, Value.int .i64 x.n2, Value.int .i64 x.size, Value.int .i64 x.state, Value.int .i64 x.tag, Value.int .i64 x.tries, Value.bool x.rejected, Value.pointer (some ⟨b8, 0, none⟩), Value.pointer (some ⟨b9, 0, none⟩), Value.pointer (some ⟨b10, 0, none⟩), Value.slice a11 x.out.length c11, Value.slice a12 x.inds.length c12, Value.int .i64 x.sent, Value.int .i64 x.acked, Value.int .i64 x.lost]) 82, backlog_Log.at b8 x.log, reorder_Order.at b9 x.order, clock_Set.at b10 x.timers, row 39 1 (.slice a11 x.out.length c11) x.out.length d11, tie (El.sl (El.int .u8)) d11 x.out, row 3 1 (.slice a12 x.inds.length c12) x.inds.length (x.inds.map (Value.int .i64))] h) h) :: L) w0 w from hs)
 exact ⟨b8, b9, b10, a11, c11, d11, a12, c12, hi, St.open (m := [blk b (#[Value.int .i64 x.m, Value.int .i64 x.t1, Value.int .i64 x.n2, Value.int .i64 x.size, Value.int .i64 x.state, Value.int .i64 x.tag, Value.int .i64 x.tries, Value.bool x.rejected, Value.pointer (some ⟨b8, 0, none⟩), Value.pointer (some ⟨b9, 0, none⟩), Value.pointer (some ⟨b10, 0, none⟩), Value.slice a11 x.out.length c11, Value.slice a12 x.inds.length c12, Value.int .i64 x.sent, Value.int .i64 x.acked, Value.int .i64 x.lost]) 82, backlog_Log.at b8 x.log, reorder_Order.at b9 x.order, clock_Set.at b10 x.timers, row 39 1 (.slice a11 x.out.length c11) x.out.length d11, tie (El.sl (El.int .u8)) d11 x.out, row 3 1 (.slice a12 x.inds.length c12) x.inds.length (x.inds.map (Value.int .i64))]) hs⟩
theorem arq_Arq.close {b : Nat} {l0 : Int} {l1 : Int} {l2 : Int} {l3 : Int} {l4 : Int} {l5 : Int} {l6 : Int} {l7 : Bool} {l8 : backlog_Log} {l9 : reorder_Order} {l10 : clock_Set} {l11 : List (List Int)} {l12 : List Int} {l13 : Int} {l14 : Int} {l15 : Int} {b8 : Nat} {b9 : Nat} {b10 : Nat} {a11 : Option Addr} {c11 : Nat} {d11 : List Value} {a12 : Option Addr} {c12 : Nat} {L : List As} {w0 w : World} (hi : True) (hs : Sep.St (blk b (#[Value.int .i64 l0, Value.int .i64 l1, Value.int .i64 l2, Value.int .i64 l3, Value.int .i64 l4, Value.int .i64 l5, Value.int .i64 l6, Value.bool l7, Value.pointer (some ⟨b8, 0, none⟩), Value.pointer (some ⟨b9, 0, none⟩), Value.pointer (some ⟨b10, 0, none⟩), Value.slice a11 l11.length c11, Value.slice a12 l12.length c12, Value.int .i64 l13, Value.int .i64 l14, Value.int .i64 l15]) 82 :: backlog_Log.at b8 l8 :: reorder_Order.at b9 l9 :: clock_Set.at b10 l10 :: row 39 1 (.slice a11 l11.length c11) l11.length d11 :: tie (El.sl (El.int .u8)) d11 l11 :: row 3 1 (.slice a12 l12.length c12) l12.length (l12.map (Value.int .i64)) :: L) w0 w) : Sep.St (arq_Arq.at b ({ m := l0, t1 := l1, n2 := l2, size := l3, state := l4, tag := l5, tries := l6, rejected := l7, log := l8, order := l9, timers := l10, out := l11, inds := l12, sent := l13, acked := l14, lost := l15 } : arq_Arq) :: L) w0 w := by
 have h2 := St.join (m := [blk b (#[Value.int .i64 l0, Value.int .i64 l1, Value.int .i64 l2, Value.int .i64 l3, Value.int .i64 l4, Value.int .i64 l5, Value.int .i64 l6, Value.bool l7, Value.pointer (some ⟨b8, 0, none⟩), Value.pointer (some ⟨b9, 0, none⟩), Value.pointer (some ⟨b10, 0, none⟩), Value.slice a11 l11.length c11, Value.slice a12 l12.length c12, Value.int .i64 l13, Value.int .i64 l14, Value.int .i64 l15]) 82, backlog_Log.at b8 l8, reorder_Order.at b9 l9, clock_Set.at b10 l10, row 39 1 (.slice a11 l11.length c11) l11.length d11, tie (El.sl (El.int .u8)) d11 l11, row 3 1 (.slice a12 l12.length c12) l12.length (l12.map (Value.int .i64))]) hs
 exact h2.mono fun h hh => ⟨hi, _, _, _, _, _, _, _, _, hh⟩
def arq_Arq_put.f (k : Nat) (a0 : arq_Arq) (a1 : Int) (a2 : api_Ctl) (a3 : List Int) : Option arq_Arq := ((control_Bytes.f a2 a0.m).bind fun t7 => ((slices_Concat_Sbytebyte.f k ([([IntKind.u8.wrap (a1.fdiv (2 ^ (min (8 : Int).toNat IntKind.i64.bits))), IntKind.u8.wrap a1] : List Int), t7, a3] : List (List Int))).bind fun t12 => (if (a0.out.length : Int) + (([t12] : List (List Int))).length ≤ 1099511627776 then some (({ a0 with out := a0.out ++ ([t12] : List (List Int)) } : arq_Arq)) else none)))
theorem arq_Arq_put.calls {k : Nat} {a0 : arq_Arq} {a1 : Int} {a2 : api_Ctl} {a3 : List Int} {R : As} {w0 w : World} {b0 : Nat} {sa3 : Option Addr} {sc3 : Nat} {r : arq_Arq} (H : arq_Arq_put.f k a0 a1 a2 a3 = some r) (HS : Sep.St [arq_Arq.at b0 a0, fsl 1 (.slice sa3 a3.length sc3) a3.length (a3.map (Value.int .u8)), R] w0 w)  : Calls Try.prog 74 #[Value.pointer (some ⟨b0, 0, none⟩), Value.int .i64 a1, Value.agg #[Value.int .i64 a2.Kind, Value.int .i64 a2.Ns, Value.int .i64 a2.Nr, Value.bool a2.Poll], Value.slice sa3 a3.length sc3] w (Ret fun u w => u = Value.tuple #[] ∧ Sep.St [arq_Arq.at b0 r, R] w0 w) := by
 unfold arq_Arq_put.f at H
 refine calls_enter Try.func74 rfl rfl ?_
 have H : _ = some r := H
 refine V.seq (V.region (W.e (Y.box HS rfl) rfl ?_))
 rintro _ w ⟨nb1, rfl, HS⟩
 refine W.nx ?_
 replace HS := HS.fr 1
 obtain ⟨b8_2, b9_2, b10_2, a11_2, c11_2, d11_2, a12_2, c12_2, hi3, HS⟩ := arq_Arq.open HS
 refine V.dr [10, 16, 18, 19, 20, 21, 24] [22, 23] [(8, Value.pointer (some ⟨b0, 0, none⟩)), (9, Value.pointer (some ⟨b0, 0, none⟩)), (10, Value.pointer (some ⟨b0, 0, none⟩)), (11, Value.pointer (some ⟨b0, 0 + 11, none⟩)), (12, Value.slice a11_2 a0.out.length c11_2), (13, Value.int .i64 a1), (14, Value.int .i64 (a1.fdiv (2 ^ (min (8 : Int).toNat IntKind.i64.bits)))), (15, Value.int .u8 (IntKind.u8.wrap (a1.fdiv (2 ^ (min (8 : Int).toNat IntKind.i64.bits))))), (16, Value.int .i64 a1), (17, Value.int .u8 (IntKind.u8.wrap a1)), (19, Value.agg #[Value.int .i64 a2.Kind, Value.int .i64 a2.Ns, Value.int .i64 a2.Nr, Value.bool a2.Poll]), (20, Value.pointer (some ⟨b0, 0, none⟩)), (21, Value.pointer (some ⟨b0, 0, none⟩)), (22, Value.pointer (some ⟨b0, 0 + 0, none⟩)), (23, Value.int .i64 a0.m), (25, Value.slice sa3 a3.length sc3)] mo HS ?_
 refine T.two rfl rfl ⟨.mv 0, .mv 0, .nc 9, .fa 10 fo82_11, .ld 11 0 Try.underlying30, .mv 1, .n1 13 rfl rfl (fun w HS => X.shr rfl rfl (by decide)), .n1 14 rfl rfl (fun w HS => X.conv Try.underlying3 Try.underlying5 rfl), .mv 1, .n1 16 rfl rfl (fun w HS => X.conv Try.underlying3 Try.underlying5 rfl), .n1 6 rfl rfl (fun w HS => X.loadSt 7 [Value.int .i64 a2.Kind, Value.int .i64 a2.Ns, Value.int .i64 a2.Nr, Value.bool a2.Poll] HS rfl Try.underlying42 rfl inf42 rfl rfl), .mv 0, .nc 20, .fa 21 fo82_0, .ld 22 0 Try.underlying3, .mv 3, trivial⟩ (T.step (es := [16, 18, 19, 20, 21, 24]) _ [(15, Value.int .u8 (IntKind.u8.wrap (a1.fdiv (2 ^ (min (8 : Int).toNat IntKind.i64.bits))))), (17, Value.int .u8 (IntKind.u8.wrap a1))] rfl ⟨.inr ⟨rfl, rfl⟩, ⟨.inr ⟨rfl, rfl⟩, trivial⟩⟩ (Or.inl rfl) (by intro d hd; cases hd; exact ⟨by decide, rfl, rfl⟩) [22, 23] [5, 6, 7, 8, 9] rfl rfl rfl rfl rfl (fun w HS => ?_)) (T.step (es := [10, 18, 19, 20, 21, 24]) _ [(19, Value.agg #[Value.int .i64 a2.Kind, Value.int .i64 a2.Ns, Value.int .i64 a2.Nr, Value.bool a2.Poll]), (23, Value.int .i64 a0.m)] rfl ⟨.inr ⟨rfl, rfl⟩, ⟨.inr ⟨rfl, rfl⟩, trivial⟩⟩ (Or.inl rfl) (by intro d hd; cases hd; exact ⟨by decide, rfl, rfl⟩) [22, 23] [11, 12, 13, 14, 15] rfl rfl rfl rfl rfl (fun w HS => ?_))
 ·have HS : Sep.St [blk b0 (#[Value.int .i64 a0.m, Value.int .i64 a0.t1, Value.int .i64 a0.n2, Value.int .i64 a0.size, Value.int .i64 a0.state, Value.int .i64 a0.tag, Value.int .i64 a0.tries, Value.bool a0.rejected, Value.pointer (some ⟨b8_2, 0, none⟩), Value.pointer (some ⟨b9_2, 0, none⟩), Value.pointer (some ⟨b10_2, 0, none⟩), Value.slice a11_2 a0.out.length c11_2, Value.slice a12_2 a0.inds.length c12_2, Value.int .i64 a0.sent, Value.int .i64 a0.acked, Value.int .i64 a0.lost]) 82, backlog_Log.at b8_2 a0.log, reorder_Order.at b9_2 a0.order, clock_Set.at b10_2 a0.timers, row 39 1 (.slice a11_2 a0.out.length c11_2) a0.out.length d11_2, tie (El.sl (El.int .u8)) d11_2 a0.out, row 3 1 (.slice a12_2 a0.inds.length c12_2) a0.inds.length (a0.inds.map (Value.int .i64)), blk nb1 (#[Value.int .i64 a2.Kind, Value.int .i64 a2.Ns, Value.int .i64 a2.Nr, Value.bool a2.Poll]) 42, fsl 1 (.slice sa3 a3.length sc3) a3.length (a3.map (Value.int .u8)), R] w0 w := HS
  refine ⟨_, Y.ls (e := 5) (Value.int .u8) ([IntKind.u8.wrap (a1.fdiv (2 ^ (min (8 : Int).toNat IntKind.i64.bits))), IntKind.u8.wrap a1] : List Int) HS rfl rfl (fun _ => by kernel_rfl), ?_⟩
  rintro _ w ⟨lb6, rfl, HS⟩
  refine T.nw HS ?_
  refine T.ev [(19, _), (23, _)] [22, 23] [11, 12, 13, 14, 15] ⟨rfl, rfl, trivial⟩ ⟨.mv 0, .mv 0, .nc 9, .fa 10 fo82_11, .ld 11 1 Try.underlying30, .n1 6 rfl rfl (fun w HS => X.loadSt 8 [Value.int .i64 a2.Kind, Value.int .i64 a2.Ns, Value.int .i64 a2.Nr, Value.bool a2.Poll] HS rfl Try.underlying42 rfl inf42 rfl rfl), .mv 0, .nc 20, .fa 21 fo82_0, .ld 22 1 Try.underlying3, .mv 3, trivial⟩ rfl (fun w HS => ?_)
  obtain ⟨t7, A8, H⟩ := bind_s H
  refine ⟨_, Y.cl Try.func97 (control_Bytes.calls A8 HS.j0), ?_⟩
  rintro _ w ⟨at7_0, ct7_0, rfl, HS⟩
  replace HS := HS.o1
  refine T.nw HS ?_
  refine T.ev [(18, _), (24, _), (25, _)] [22, 23] [17] ⟨rfl, rfl, rfl, trivial⟩ ⟨.mv 0, .mv 0, .nc 9, .fa 10 fo82_11, .ld 11 2 Try.underlying30, .mv 3, trivial⟩ rfl (fun w HS => ?_)
  replace HS := HS.fr 1
  replace HS := St.row_freeze HS
  replace HS := HS.fr 1
  replace HS := St.row_freeze HS
  refine ⟨_, Y.lc (e := 39) (sz := 1) [Value.slice (some ⟨lb6, 0, none⟩) (([IntKind.u8.wrap (a1.fdiv (2 ^ (min (8 : Int).toNat IntKind.i64.bits))), IntKind.u8.wrap a1] : List Int)).length 2, Value.slice at7_0 t7.length ct7_0, Value.slice sa3 a3.length sc3] HS rfl rfl (fun _ => by kernel_rfl), ?_⟩
  rintro _ w ⟨lb9, rfl, HS⟩
  replace HS := St.put (A := tie (El.sl (El.int .u8)) ([]) (([] : List (List Int)))) (fun _ => tie.nil) HS
  replace HS := HS.more 12 rfl (fun _ t => t) fsl.pers
  replace HS := St.put (A := tie (El.int .u8) (a3.map (Value.int .u8)) a3) (fun _ => int_tie) HS
  replace HS := St.swap HS
  replace HS := St.sl_close (E := (El.int .u8)) HS
  replace HS := HS.fr 1
  replace HS := HS.fr 1
  replace HS := St.tie_cons HS
  replace HS := HS.more 2 rfl (fun _ t => t) fsl.pers
  replace HS := St.put (A := tie (El.int .u8) (t7.map (Value.int .u8)) t7) (fun _ => int_tie) HS
  replace HS := St.swap HS
  replace HS := St.sl_close (E := (El.int .u8)) HS
  replace HS := HS.fr 1
  replace HS := HS.fr 1
  replace HS := St.tie_cons HS
  replace HS := HS.more 3 rfl (fun _ t => t) fsl.pers
  replace HS := St.put (A := tie (El.int .u8) ((([IntKind.u8.wrap (a1.fdiv (2 ^ (min (8 : Int).toNat IntKind.i64.bits))), IntKind.u8.wrap a1] : List Int)).map (Value.int .u8)) (([IntKind.u8.wrap (a1.fdiv (2 ^ (min (8 : Int).toNat IntKind.i64.bits))), IntKind.u8.wrap a1] : List Int))) (fun _ => int_tie) HS
  replace HS := St.swap HS
  replace HS := St.sl_close (E := (El.int .u8)) HS
  replace HS := HS.fr 1
  replace HS := HS.fr 1
  replace HS := St.tie_cons HS
  refine T.nw HS ?_
  refine T.ev [(26, _)] [22, 23] [] ⟨rfl, trivial⟩ ⟨.mv 0, .mv 0, .nc 9, .fa 10 fo82_11, .ld 11 4 Try.underlying30, trivial⟩ rfl (fun w HS => ?_)
  obtain ⟨t12, A13, H⟩ := bind_s H
  refine ⟨_, Y.cl Try.func96 (slices_Concat_Sbytebyte.calls A13 HS.j0 (rdC.part 1 row_rd rfl) (fun h hh => let ⟨_, l, t⟩ := Sp.has 0 hh rfl; tie.mono t l)), ?_⟩
  rintro _ w ⟨at12_0, ct12_0, rfl, HS⟩
  replace HS := HS.o1
  refine T.nw HS ?_
  refine T.ev [(27, _)] [22, 23] [] ⟨rfl, trivial⟩ ⟨.mv 0, .mv 0, .nc 9, .fa 10 fo82_11, .ld 11 5 Try.underlying30, trivial⟩ rfl (fun w HS => ?_)
  replace HS := St.row_freeze HS
  refine ⟨_, Y.lc (e := 39) (sz := 1) [Value.slice at12_0 t12.length ct12_0] HS rfl rfl (fun _ => by kernel_rfl), ?_⟩
  rintro _ w ⟨lb14, rfl, HS⟩
  replace HS := St.put (A := tie (El.sl (El.int .u8)) ([]) (([] : List (List Int)))) (fun _ => tie.nil) HS
  replace HS := HS.more 2 rfl (fun _ t => t) fsl.pers
  replace HS := St.put (A := tie (El.int .u8) (t12.map (Value.int .u8)) t12) (fun _ => int_tie) HS
  replace HS := St.swap HS
  replace HS := St.sl_close (E := (El.int .u8)) HS
  replace HS := HS.fr 1
  replace HS := HS.fr 1
  replace HS := St.tie_cons HS
  refine T.nw HS ?_
  refine T.ev [(12, _), (28, _)] [] [1, 2, 3, 4] ⟨rfl, rfl, trivial⟩ ⟨.mv 0, .mv 0, .nc 9, .fa 10 fo82_11, .ld 11 7 Try.underlying30, trivial⟩ rfl (fun w HS => ?_)
  obtain ⟨c17, H⟩ := ite_n H
  refine ⟨_, Y.app (xs := a0.out) (ys := ([t12] : List (List Int))) 11 Try.underlying30 ap39 rfl (by decide) HS rfl rfl rfl (rdC.at 1 row_rd HS rfl) (St.tie_one 0 HS rfl) (by omega) (by omega), ?_⟩
  rintro _ w ⟨ra18, rc19, rfl, HS⟩
  replace HS := HS.fr 12
  replace HS := St.tie_app 1 HS rfl
  refine T.nm [(29, Value.slice ra18 (a0.out ++ ([t12] : List (List Int))).length rc19), (30, Value.pointer (some ⟨b0, 0, none⟩)), (31, Value.pointer (some ⟨b0, 0 + 11, none⟩))] HS ⟨.inl ⟨rfl, rfl⟩, ⟨.inr ⟨by decide, rfl⟩, ⟨.inr ⟨by decide, rfl⟩, trivial⟩⟩⟩ ?_
  refine T.ev [(29, _), (31, _)] [] [0, 22, 23] ⟨rfl, rfl, trivial⟩ ⟨.mv 0, .nc 8, .fa 30 fo82_11, trivial⟩ rfl (fun w HS => ?_)
  refine ⟨_, Y.sto 8 11 HS inf30 rfl rfl rfl rfl rfl rfl, ?_⟩
  rintro _ w HS
  refine T.nn HS ?_
  refine T.fn [] trivial trivial (fun w HS => ?_)
  replace HS := HS.pm [8, 9, 10, 11, 12, 0, 13, 1, 2, 3, 4, 5, 6, 7, 14, 15, 16]
  replace HS := arq_Arq.close trivial HS
  replace HS := HS.pk [0, 10] [1, 2, 3, 4, 5, 6, 7, 8, 9]
  cases H
  exact At.end0 rfl ⟨_, rfl, rfl, HS⟩
 ·have HS : Sep.St [blk b0 (#[Value.int .i64 a0.m, Value.int .i64 a0.t1, Value.int .i64 a0.n2, Value.int .i64 a0.size, Value.int .i64 a0.state, Value.int .i64 a0.tag, Value.int .i64 a0.tries, Value.bool a0.rejected, Value.pointer (some ⟨b8_2, 0, none⟩), Value.pointer (some ⟨b9_2, 0, none⟩), Value.pointer (some ⟨b10_2, 0, none⟩), Value.slice a11_2 a0.out.length c11_2, Value.slice a12_2 a0.inds.length c12_2, Value.int .i64 a0.sent, Value.int .i64 a0.acked, Value.int .i64 a0.lost]) 82, backlog_Log.at b8_2 a0.log, reorder_Order.at b9_2 a0.order, clock_Set.at b10_2 a0.timers, row 39 1 (.slice a11_2 a0.out.length c11_2) a0.out.length d11_2, tie (El.sl (El.int .u8)) d11_2 a0.out, row 3 1 (.slice a12_2 a0.inds.length c12_2) a0.inds.length (a0.inds.map (Value.int .i64)), blk nb1 (#[Value.int .i64 a2.Kind, Value.int .i64 a2.Ns, Value.int .i64 a2.Nr, Value.bool a2.Poll]) 42, fsl 1 (.slice sa3 a3.length sc3) a3.length (a3.map (Value.int .u8)), R] w0 w := HS
  obtain ⟨t20, A21, H⟩ := bind_s H
  refine ⟨_, Y.cl Try.func97 (control_Bytes.calls A21 HS.j0), ?_⟩
  rintro _ w ⟨at20_0, ct20_0, rfl, HS⟩
  replace HS := HS.o1
  refine T.nw HS ?_
  refine T.ev [(15, _), (17, _)] [22, 23] [5, 6, 7, 8, 9] ⟨rfl, rfl, trivial⟩ ⟨.mv 0, .mv 0, .nc 9, .fa 10 fo82_11, .ld 11 1 Try.underlying30, .mv 1, .n1 13 rfl rfl (fun w HS => X.shr rfl rfl (by decide)), .n1 14 rfl rfl (fun w HS => X.conv Try.underlying3 Try.underlying5 rfl), .mv 1, .n1 16 rfl rfl (fun w HS => X.conv Try.underlying3 Try.underlying5 rfl), .mv 3, trivial⟩ rfl (fun w HS => ?_)
  refine ⟨_, Y.ls (e := 5) (Value.int .u8) ([IntKind.u8.wrap (a1.fdiv (2 ^ (min (8 : Int).toNat IntKind.i64.bits))), IntKind.u8.wrap a1] : List Int) HS rfl rfl (fun _ => by kernel_rfl), ?_⟩
  rintro _ w ⟨lb24, rfl, HS⟩
  refine T.nw HS ?_
  refine T.ev [(18, _), (24, _), (25, _)] [22, 23] [17] ⟨rfl, rfl, rfl, trivial⟩ ⟨.mv 0, .mv 0, .nc 9, .fa 10 fo82_11, .ld 11 2 Try.underlying30, .mv 3, trivial⟩ rfl (fun w HS => ?_)
  replace HS := St.row_freeze HS
  replace HS := HS.fr 1
  replace HS := St.row_freeze HS
  refine ⟨_, Y.lc (e := 39) (sz := 1) [Value.slice (some ⟨lb24, 0, none⟩) (([IntKind.u8.wrap (a1.fdiv (2 ^ (min (8 : Int).toNat IntKind.i64.bits))), IntKind.u8.wrap a1] : List Int)).length 2, Value.slice at20_0 t20.length ct20_0, Value.slice sa3 a3.length sc3] HS rfl rfl (fun _ => by kernel_rfl), ?_⟩
  rintro _ w ⟨lb25, rfl, HS⟩
  replace HS := St.put (A := tie (El.sl (El.int .u8)) ([]) (([] : List (List Int)))) (fun _ => tie.nil) HS
  replace HS := HS.more 12 rfl (fun _ t => t) fsl.pers
  replace HS := St.put (A := tie (El.int .u8) (a3.map (Value.int .u8)) a3) (fun _ => int_tie) HS
  replace HS := St.swap HS
  replace HS := St.sl_close (E := (El.int .u8)) HS
  replace HS := HS.fr 1
  replace HS := HS.fr 1
  replace HS := St.tie_cons HS
  replace HS := HS.more 2 rfl (fun _ t => t) fsl.pers
  replace HS := St.put (A := tie (El.int .u8) (t20.map (Value.int .u8)) t20) (fun _ => int_tie) HS
  replace HS := St.swap HS
  replace HS := St.sl_close (E := (El.int .u8)) HS
  replace HS := HS.fr 1
  replace HS := HS.fr 1
  replace HS := St.tie_cons HS
  replace HS := HS.more 3 rfl (fun _ t => t) fsl.pers
  replace HS := St.put (A := tie (El.int .u8) ((([IntKind.u8.wrap (a1.fdiv (2 ^ (min (8 : Int).toNat IntKind.i64.bits))), IntKind.u8.wrap a1] : List Int)).map (Value.int .u8)) (([IntKind.u8.wrap (a1.fdiv (2 ^ (min (8 : Int).toNat IntKind.i64.bits))), IntKind.u8.wrap a1] : List Int))) (fun _ => int_tie) HS
  replace HS := St.swap HS
  replace HS := St.sl_close (E := (El.int .u8)) HS
  replace HS := HS.fr 1
  replace HS := HS.fr 1
  replace HS := St.tie_cons HS
  refine T.nw HS ?_
  refine T.ev [(26, _)] [22, 23] [] ⟨rfl, trivial⟩ ⟨.mv 0, .mv 0, .nc 9, .fa 10 fo82_11, .ld 11 4 Try.underlying30, trivial⟩ rfl (fun w HS => ?_)
  obtain ⟨t28, A29, H⟩ := bind_s H
  refine ⟨_, Y.cl Try.func96 (slices_Concat_Sbytebyte.calls A29 HS.j0 (rdC.part 1 row_rd rfl) (fun h hh => let ⟨_, l, t⟩ := Sp.has 0 hh rfl; tie.mono t l)), ?_⟩
  rintro _ w ⟨at28_0, ct28_0, rfl, HS⟩
  replace HS := HS.o1
  refine T.nw HS ?_
  refine T.ev [(27, _)] [22, 23] [] ⟨rfl, trivial⟩ ⟨.mv 0, .mv 0, .nc 9, .fa 10 fo82_11, .ld 11 5 Try.underlying30, trivial⟩ rfl (fun w HS => ?_)
  replace HS := St.row_freeze HS
  refine ⟨_, Y.lc (e := 39) (sz := 1) [Value.slice at28_0 t28.length ct28_0] HS rfl rfl (fun _ => by kernel_rfl), ?_⟩
  rintro _ w ⟨lb30, rfl, HS⟩
  replace HS := St.put (A := tie (El.sl (El.int .u8)) ([]) (([] : List (List Int)))) (fun _ => tie.nil) HS
  replace HS := HS.more 2 rfl (fun _ t => t) fsl.pers
  replace HS := St.put (A := tie (El.int .u8) (t28.map (Value.int .u8)) t28) (fun _ => int_tie) HS
  replace HS := St.swap HS
  replace HS := St.sl_close (E := (El.int .u8)) HS
  replace HS := HS.fr 1
  replace HS := HS.fr 1
  replace HS := St.tie_cons HS
  refine T.nw HS ?_
  refine T.ev [(12, _), (28, _)] [] [1, 2, 3, 4] ⟨rfl, rfl, trivial⟩ ⟨.mv 0, .mv 0, .nc 9, .fa 10 fo82_11, .ld 11 7 Try.underlying30, trivial⟩ rfl (fun w HS => ?_)
  obtain ⟨c33, H⟩ := ite_n H
  refine ⟨_, Y.app (xs := a0.out) (ys := ([t28] : List (List Int))) 11 Try.underlying30 ap39 rfl (by decide) HS rfl rfl rfl (rdC.at 1 row_rd HS rfl) (St.tie_one 0 HS rfl) (by omega) (by omega), ?_⟩
  rintro _ w ⟨ra34, rc35, rfl, HS⟩
  replace HS := HS.fr 12
  replace HS := St.tie_app 1 HS rfl
  refine T.nm [(29, Value.slice ra34 (a0.out ++ ([t28] : List (List Int))).length rc35), (30, Value.pointer (some ⟨b0, 0, none⟩)), (31, Value.pointer (some ⟨b0, 0 + 11, none⟩))] HS ⟨.inl ⟨rfl, rfl⟩, ⟨.inr ⟨by decide, rfl⟩, ⟨.inr ⟨by decide, rfl⟩, trivial⟩⟩⟩ ?_
  refine T.ev [(29, _), (31, _)] [] [0, 22, 23] ⟨rfl, rfl, trivial⟩ ⟨.mv 0, .nc 8, .fa 30 fo82_11, trivial⟩ rfl (fun w HS => ?_)
  refine ⟨_, Y.sto 8 11 HS inf30 rfl rfl rfl rfl rfl rfl, ?_⟩
  rintro _ w HS
  refine T.nn HS ?_
  refine T.fn [] trivial trivial (fun w HS => ?_)
  replace HS := HS.pm [8, 9, 10, 11, 12, 0, 13, 1, 2, 3, 4, 5, 6, 7, 14, 15, 16]
  replace HS := arq_Arq.close trivial HS
  replace HS := HS.pk [0, 10] [1, 2, 3, 4, 5, 6, 7, 8, 9]
  cases H
  exact At.end0 rfl ⟨_, rfl, rfl, HS⟩
def arq_Arq_tell.f (k : Nat) (a0 : arq_Arq) (a1 : api_Ctl) : Option arq_Arq := ((arq_Arq_put.f k a0 a0.tag a1 ([] : List Int)).bind fun t4 => some t4)
theorem arq_Arq_tell.calls {k : Nat} {a0 : arq_Arq} {a1 : api_Ctl} {R : As} {w0 w : World} {b0 : Nat} {r : arq_Arq} (H : arq_Arq_tell.f k a0 a1 = some r) (HS : Sep.St [arq_Arq.at b0 a0, R] w0 w)  : Calls Try.prog 46 #[Value.pointer (some ⟨b0, 0, none⟩), Value.agg #[Value.int .i64 a1.Kind, Value.int .i64 a1.Ns, Value.int .i64 a1.Nr, Value.bool a1.Poll]] w (Ret fun u w => u = Value.tuple #[] ∧ Sep.St [arq_Arq.at b0 r, R] w0 w) := by
 unfold arq_Arq_tell.f at H
 refine calls_enter Try.func46 rfl rfl ?_
 have H : _ = some r := H
 refine V.seq (V.region (W.e (Y.box HS rfl) rfl ?_))
 rintro _ w ⟨nb1, rfl, HS⟩
 refine W.nx ?_
 replace HS := HS.fr 1
 obtain ⟨b8_2, b9_2, b10_2, a11_2, c11_2, d11_2, a12_2, c12_2, hi3, HS⟩ := arq_Arq.open HS
 refine V.dr [6] [] [(4, Value.pointer (some ⟨b0, 0, none⟩)), (5, Value.pointer (some ⟨b0, 0, none⟩)), (6, Value.pointer (some ⟨b0, 0, none⟩)), (7, Value.pointer (some ⟨b0, 0 + 5, none⟩)), (8, Value.int .i64 a0.tag), (9, Value.agg #[Value.int .i64 a1.Kind, Value.int .i64 a1.Ns, Value.int .i64 a1.Nr, Value.bool a1.Poll])] mo HS ?_
 refine T.ev [(4, _), (8, _), (9, _)] [] [0, 1, 2, 3, 4, 5] ⟨rfl, rfl, rfl, trivial⟩ ⟨.mv 0, .mv 0, .nc 5, .fa 6 fo82_5, .ld 7 0 Try.underlying3, .n1 3 rfl rfl (fun w HS => X.loadSt 7 [Value.int .i64 a1.Kind, Value.int .i64 a1.Ns, Value.int .i64 a1.Nr, Value.bool a1.Poll] HS rfl Try.underlying42 rfl inf42 rfl rfl), trivial⟩ rfl (fun w HS => ?_)
 replace HS := arq_Arq.close trivial HS
 replace HS := row_nilF (Value.int .u8) 5 1 HS
 replace HS := St.row_freeze HS
 obtain ⟨t4, A5, H⟩ := bind_s H
 replace HS := HS.pm [1, 0, 2, 3]
 refine ⟨_, Y.cl Try.func74 (arq_Arq_put.calls A5 HS.j2), ?_⟩
 rintro _ w ⟨rfl, HS⟩
 replace HS := HS.o1
 refine T.nw HS ?_
 refine T.fn [] trivial trivial (fun w HS => ?_)
 replace HS := HS.pk [0, 2] [1]
 cases H
 exact At.end0 rfl ⟨_, rfl, rfl, HS⟩
def clock_has.f (a0 : Int) : Option Bool := (if a0 ≥ 0 then some (decide (a0 < 32)) else some false)
theorem clock_has.calls {a0 : Int} {R : As} {w0 w : World}  {r : Bool} (H : clock_has.f a0 = some r) (HS : Sep.St [R] w0 w)  : Calls Try.prog 79 #[Value.int .i64 a0] w (Ret fun u w => u = Value.bool r ∧ Sep.St [R] w0 w) := by
 unfold clock_has.f at H
 refine calls_enter Try.func79 rfl rfl ?_
 have H : _ = some r := H
 refine V.seq (V.region (W.as rfl (W.nx (V.seq (V.region (W.mv rfl (W.r (X.cmp (decide (a0 ≥ 0)) rfl rfl rfl rfl) rfl (W.mv rfl ?_))))))))
 by_cases c1 : a0 ≥ 0
 ·replace H := ite_t c1 H
  refine W.want 5 rfl (sb (decide_eq_true c1)) (W.mv rfl (W.want 5 rfl (sb (decide_eq_true c1)) (W.r (X.cmp (decide (a0 < 32)) rfl rfl rfl rfl) rfl (W.r (X.pickT (sb (decide_eq_true c1)) rfl) rfl (W.as rfl (W.nx (V.ret ?_)))))))
  cases H
  exact At.ret1 rfl rfl ⟨_, rfl, rfl, HS⟩
 ·replace H := ite_f c1 H
  refine W.pass 5 rfl (sb (decide_eq_false c1)) rfl rfl (W.pass 5 rfl (sb (decide_eq_false c1)) rfl rfl (W.r (X.pickF (sb (decide_eq_false c1)) rfl) rfl (W.as rfl (W.nx (V.ret ?_)))))
  cases H
  exact At.ret1 rfl rfl ⟨_, rfl, rfl, HS⟩
mutual
def clock_Set_Start.j0 (a1 : Int) (x2 : clock_Set) : Option (Bool × clock_Set) := ((clock_has.f a1).bind fun t4 => some (t4, x2))
end
def clock_Set_Start.f (a0 : clock_Set) (a1 : Int) (a2 : Int) : Option (Bool × clock_Set) := ((clock_has.f a1).bind fun t6 => (if t6 = true then (if 0 ≤ a1 ∧ a1 < 32 then (clock_Set_Start.j0 a1 ({ now := a0.now, left := a0.left.set a1.toNat (imax (1) (imin a2 (1073741824))) } : clock_Set)) else none) else (clock_Set_Start.j0 a1 a0)))
theorem clock_Set_Start.calls {a0 : clock_Set} {a1 : Int} {a2 : Int} {R : As} {w0 w : World} {b0 : Nat} {r : Bool × clock_Set} (H : clock_Set_Start.f a0 a1 a2 = some r) (HS : Sep.St [clock_Set.at b0 a0, R] w0 w)  : Calls Try.prog 75 #[Value.pointer (some ⟨b0, 0, none⟩), Value.int .i64 a1, Value.int .i64 a2] w (Ret fun u w => u = Value.bool r.1 ∧ Sep.St [clock_Set.at b0 r.2, R] w0 w) := by
 unfold clock_Set_Start.f at H
 refine calls_enter Try.func75 rfl rfl ?_
 have H : _ = some r := H
 refine V.seq (V.region (W.as rfl (W.nx (V.meet (σ := clock_Set) (fun st w => match st with | x2 => Sep.St [clock_Set.at b0 x2, R] w0 w ∧ clock_Set_Start.j0 a1 x2 = some r) (fun st => match st with | x2 => [(1, Value.int .i64 a1)]) ?_ ?_))))
 ·refine V.seq (V.region (W.mv rfl ?_))
  obtain ⟨t6, A7, H⟩ := bind_s H
  refine W.e (Y.cl Try.func79 (clock_has.calls A7 HS.j0)) rfl ?_
  rintro _ w ⟨rfl, HS⟩
  replace HS := HS.o0
  refine W.nx ?_
  by_cases c8 : t6 = true
  ·replace H := ite_t c8 H
   refine V.condT (sb c8) (V.region (W.mv rfl (W.mv rfl (W.mv rfl (W.r (X.min2 rfl rfl) rfl (W.r (X.max2 rfl rfl) rfl (W.nc rfl ?_)))))))
   obtain ⟨hi10, HS⟩ := clock_Set.open HS
   refine W.fa fo109_1 rfl ?_
   obtain ⟨c11, H⟩ := ite_n H
   refine W.r (X.indexAr Try.underlying107 inf3 rfl rfl c11.1 c11.2) rfl (W.en (Y.storeArr 0 HS rfl rfl inf3 rfl rfl c11.1 c11.2 (by first | exact hi10 | (simp only [List.length_set]; exact hi10))) rfl ?_)
   rintro _ w HS
   refine W.nil ?_
   replace HS := clock_Set.close (by first | exact hi10 | (simp only [List.length_set]; exact hi10)) HS
   exact At.meet (({ now := a0.now, left := a0.left.set a1.toNat (imax (1) (imin a2 (1073741824))) } : clock_Set)) ⟨rfl, trivial⟩ ⟨HS, H⟩
  ·replace H := ite_f c8 H
   refine V.condF (sb (b_f c8)) (V.skip ?_)
   exact At.meet a0 ⟨rfl, trivial⟩ ⟨HS, H⟩
 ·rintro x2 w ⟨HS, H⟩
  unfold clock_Set_Start.j0 at H
  refine V.seq (V.region (W.mv rfl ?_))
  obtain ⟨t4, A5, H⟩ := bind_s H
  refine W.e (Y.cl Try.func79 (clock_has.calls A5 HS.j0)) rfl ?_
  rintro _ w ⟨rfl, HS⟩
  replace HS := HS.o0
  refine W.as rfl (W.nx (V.ret ?_))
  cases H
  exact At.ret1 rfl rfl ⟨_, rfl, rfl, HS⟩
def arq_Arq_start.f (a0 : arq_Arq) : Option arq_Arq := ((clock_Set_Start.f a0.timers 0 a0.t1).bind fun t3 => some ({ a0 with timers := t3.2 } : arq_Arq))
theorem arq_Arq_start.calls {a0 : arq_Arq} {R : As} {w0 w : World} {b0 : Nat} {r : arq_Arq} (H : arq_Arq_start.f a0 = some r) (HS : Sep.St [arq_Arq.at b0 a0, R] w0 w)  : Calls Try.prog 47 #[Value.pointer (some ⟨b0, 0, none⟩)] w (Ret fun u w => u = Value.tuple #[] ∧ Sep.St [arq_Arq.at b0 r, R] w0 w) := by
 unfold arq_Arq_start.f at H
 refine calls_enter Try.func47 rfl rfl ?_
 have H : _ = some r := H
 obtain ⟨b8_1, b9_1, b10_1, a11_1, c11_1, d11_1, a12_1, c12_1, hi2, HS⟩ := arq_Arq.open HS
 refine V.dr [8] [] [(2, Value.pointer (some ⟨b0, 0, none⟩)), (3, Value.pointer (some ⟨b0, 0, none⟩)), (4, Value.pointer (some ⟨b0, 0 + 10, none⟩)), (5, Value.pointer (some ⟨b10_1, 0, none⟩)), (6, Value.pointer (some ⟨b0, 0, none⟩)), (7, Value.pointer (some ⟨b0, 0, none⟩)), (8, Value.pointer (some ⟨b0, 0 + 1, none⟩)), (9, Value.int .i64 a0.t1)] mo HS ?_
 refine T.ev [(5, _), (9, _)] [] [0, 1, 2, 3, 4, 5, 6, 7] ⟨rfl, rfl, trivial⟩ ⟨.mv 0, .nc 2, .fa 3 fo82_10, .ld 4 0 Try.underlying78, .mv 0, .nc 6, .fa 7 fo82_1, .ld 8 0 Try.underlying3, trivial⟩ rfl (fun w HS => ?_)
 obtain ⟨t3, A4, H⟩ := bind_s H
 replace HS := HS.pm [3, 0, 1, 2, 4, 5, 6, 7]
 refine ⟨_, Y.cl Try.func75 (clock_Set_Start.calls A4 HS.j1), ?_⟩
 rintro _ w ⟨rfl, HS⟩
 replace HS := HS.o1
 refine T.nw HS ?_
 refine T.fn [] trivial trivial (fun w HS => ?_)
 replace HS := HS.pm [1, 2, 3, 0, 4, 5, 6, 7]
 replace HS := arq_Arq.close trivial HS
 cases H
 exact At.end0 rfl ⟨_, rfl, rfl, HS⟩
def arq_Arq_Connect.f (k : Nat) (a0 : arq_Arq) : Option (Int × arq_Arq) := (if a0.state = 0 then ((serial_Next.f a0.tag 65536).bind fun t5 => ((arq_Arq_tell.f k ({ a0 with state := 1, tag := t5, tries := 0 } : arq_Arq) ({ Kind := 3, Ns := 0, Nr := 0, Poll := true } : api_Ctl)).bind fun t7 => ((arq_Arq_start.f t7).bind fun t9 => some (0, t9)))) else some (8, a0))
theorem arq_Arq_Connect.calls {k : Nat} {a0 : arq_Arq} {R : As} {w0 w : World} {b0 : Nat} {r : Int × arq_Arq} (H : arq_Arq_Connect.f k a0 = some r) (HS : Sep.St [arq_Arq.at b0 a0, R] w0 w)  : Calls Try.prog 18 #[Value.pointer (some ⟨b0, 0, none⟩)] w (Ret fun u w => u = Value.int .i64 r.1 ∧ Sep.St [arq_Arq.at b0 r.2, R] w0 w) := by
 unfold arq_Arq_Connect.f at H
 refine calls_enter Try.func18 rfl rfl ?_
 have H : _ = some r := H
 refine V.seq (V.region (W.as rfl (W.nx (V.seq (V.seq (V.region (W.mv rfl (W.nc rfl ?_))))))))
 obtain ⟨b8_2, b9_2, b10_2, a11_2, c11_2, d11_2, a12_2, c12_2, hi3, HS⟩ := arq_Arq.open HS
 refine W.fa fo82_4 rfl (W.ld 0 HS Try.underlying3 rfl rfl rfl rfl (W.r (X.cmp (!(decide (a0.state = 0))) rfl rfl rfl rfl) rfl (W.nx ?_)))
 by_cases c4 : a0.state = 0
 ·replace H := ite_t c4 H
  refine V.condF (sb (n_t (decide_eq_true c4))) (V.skip (At.next (V.seq (V.region (W.mv rfl (W.mv rfl (W.nc rfl (W.fa fo82_5 rfl (W.ld 0 HS Try.underlying3 rfl rfl rfl rfl ?_)))))))))
  obtain ⟨t5, A6, H⟩ := bind_s H
  refine W.e (Y.cl Try.func45 (serial_Next.calls A6 HS.j0)) rfl ?_
  rintro _ w ⟨rfl, HS⟩
  replace HS := HS.o0
  refine W.nc rfl (W.fa fo82_5 rfl (W.st 0 5 HS inf3 rfl rfl rfl rfl rfl rfl fun w HS => ?_))
  refine W.nx (V.seq (V.region (W.mv rfl (W.mv rfl (W.nc rfl (W.fa fo82_4 rfl (W.st 0 4 HS inf3 rfl rfl rfl rfl rfl rfl fun w HS => ?_)))))))
  refine W.nc rfl (W.fa fo82_6 rfl (W.st 0 6 HS inf3 rfl rfl rfl rfl rfl rfl fun w HS => ?_))
  refine W.nx (V.seq (V.region (W.mv rfl (W.r (X.bd (Value.agg #[Value.int .i64 (3), Value.int .i64 (0), Value.int .i64 (0), Value.bool true]) rfl (fun _ => by kernel_rfl)) rfl ?_))))
  replace HS := arq_Arq.close trivial HS
  obtain ⟨t7, A8, H⟩ := bind_s H
  refine W.e (Y.cl Try.func46 (arq_Arq_tell.calls A8 HS.j1)) rfl ?_
  rintro _ w ⟨rfl, HS⟩
  replace HS := HS.o1
  refine W.nx (V.seq (V.region (W.mv rfl ?_)))
  obtain ⟨t9, A10, H⟩ := bind_s H
  refine W.e (Y.cl Try.func47 (arq_Arq_start.calls A10 HS.j1)) rfl ?_
  rintro _ w ⟨rfl, HS⟩
  replace HS := HS.o1
  refine W.nx (V.seq (V.region (W.as rfl (W.nx (V.ret ?_)))))
  cases H
  exact At.ret1 rfl rfl ⟨_, rfl, rfl, HS⟩
 ·replace H := ite_f c4 H
  refine V.condT (sb (n_f (decide_eq_false c4))) (V.seq (V.region (W.as rfl (W.nx (V.ret (At.thenRet ?_))))))
  replace HS := arq_Arq.close trivial HS
  cases H
  exact At.ret1 rfl rfl ⟨_, rfl, rfl, HS⟩
def backlog_Log_Clear.f (a0 : backlog_Log) : Option (Int × backlog_Log) := some ((a0.l.length : Int), ({ a0 with first := 0, out := 0, l := ([] : List (List Int)) } : backlog_Log))
theorem backlog_Log_Clear.calls {a0 : backlog_Log} {R : As} {w0 w : World} {b0 : Nat} {r : Int × backlog_Log} (H : backlog_Log_Clear.f a0 = some r) (HS : Sep.St [backlog_Log.at b0 a0, R] w0 w)  : Calls Try.prog 76 #[Value.pointer (some ⟨b0, 0, none⟩)] w (Ret fun u w => u = Value.int .i64 r.1 ∧ Sep.St [backlog_Log.at b0 r.2, R] w0 w) := by
 unfold backlog_Log_Clear.f at H
 refine calls_enter Try.func76 rfl rfl ?_
 have H : _ = some r := H
 refine V.seq (V.region (W.as rfl (W.nx (V.seq (V.region (W.mv rfl (W.nc rfl ?_)))))))
 obtain ⟨a5_1, c5_1, d5_1, hi2, HS⟩ := backlog_Log.open HS
 refine W.fa fo103_5 rfl (W.ld 0 HS Try.underlying30 rfl rfl rfl rfl (W.r (X.lenSl Try.underlying30 rfl) rfl (W.as rfl (W.nx (V.seq (V.region (W.mv rfl (W.mv rfl (W.mv rfl (W.nc rfl (W.fa fo103_5 rfl (W.st 0 5 HS inf30 rfl rfl rfl rfl rfl rfl fun w HS => ?_))))))))))))
 refine W.nc rfl (W.fa fo103_4 rfl (W.st 0 4 HS inf3 rfl rfl rfl rfl rfl rfl fun w HS => ?_))
 refine W.nc rfl (W.fa fo103_3 rfl (W.st 0 3 HS inf3 rfl rfl rfl rfl rfl rfl fun w HS => ?_))
 refine W.nx (V.seq (V.region (W.mv rfl (W.as rfl (W.nx (V.ret ?_))))))
 replace HS := row_nilE (El.sl (El.int .u8)) 39 1 HS
 replace HS := HS.pm [2, 0, 1, 3, 4, 5]
 replace HS := backlog_Log.close (l5 := ([] : List (List Int))) trivial HS
 replace HS := HS.pk [0, 3] [1, 2]
 cases H
 exact At.ret1 rfl rfl ⟨_, rfl, rfl, HS⟩
def reorder_Order_Clear.f (a0 : reorder_Order) : Option reorder_Order := some (({ a0 with next := 0, kept := ([] : List (Int × (List Int))) } : reorder_Order))
theorem reorder_Order_Clear.calls {a0 : reorder_Order} {R : As} {w0 w : World} {b0 : Nat} {r : reorder_Order} (H : reorder_Order_Clear.f a0 = some r) (HS : Sep.St [reorder_Order.at b0 a0, R] w0 w)  : Calls Try.prog 77 #[Value.pointer (some ⟨b0, 0, none⟩)] w (Ret fun u w => u = Value.tuple #[] ∧ Sep.St [reorder_Order.at b0 r, R] w0 w) := by
 unfold reorder_Order_Clear.f at H
 refine calls_enter Try.func77 rfl rfl ?_
 have H : _ = some r := H
 refine V.seq (V.region (W.mv rfl (W.nc rfl ?_)))
 obtain ⟨b3_1, k3_1, a4_1, c4_1, d4_1, hi2, HS⟩ := reorder_Order.open HS
 refine W.fa fo106_3 rfl (W.ld 0 HS Try.underlying104 rfl rfl rfl rfl ?_)
 replace HS := HS.fr 2
 replace HS := HS.mono (B := tieM (El.sl (El.int .u8)) [] ([] : List (Int × (List Int)))) fun _ _ => trivial
 refine W.en (Y.clearMap 2 Try.underlying104 HS rfl rfl) rfl ?_
 rintro _ w HS
 refine W.nx (V.region (W.mv rfl (W.nc rfl (W.fa fo106_2 rfl (W.st 1 2 HS inf3 rfl rfl rfl rfl rfl rfl fun w HS => ?_)))))
 refine W.nil ?_
 replace HS := HS.pm [1, 2, 0, 3, 4, 5]
 replace HS := reorder_Order.close trivial HS
 cases H
 exact At.end0 rfl ⟨_, rfl, rfl, HS⟩
def clock_Set_Left.f (a0 : clock_Set) (a1 : Int) : Option (Int × Bool) := ((clock_has.f a1).bind fun t1 => (if t1 = true then (if 0 ≤ a1 ∧ a1 < 32 then some (a0.left.getD a1.toNat 0, decide ((a0.left.getD a1.toNat 0) > 0)) else none) else some (0, false)))
theorem clock_Set_Left.calls {a0 : clock_Set} {a1 : Int} {R : As} {w0 w : World} {b0 : Nat} {r : Int × Bool} (H : clock_Set_Left.f a0 a1 = some r) (HS : Sep.St [blk b0 (([Value.int .u32 a0.now] ++ a0.left.map (Value.int .i64)).toArray) 109, R] w0 w) (hv0 : a0.left.length = 32) : Calls Try.prog 49 #[Value.pointer (some ⟨b0, 0, none⟩), Value.int .i64 a1] w (Ret fun u w => u = Value.tuple #[Value.int .i64 r.1, Value.bool r.2] ∧ Sep.St [blk b0 (([Value.int .u32 a0.now] ++ a0.left.map (Value.int .i64)).toArray) 109, R] w0 w) := by
 unfold clock_Set_Left.f at H
 refine calls_enter Try.func49 rfl rfl ?_
 have H : _ = some r := H
 refine V.seq (V.region (W.as rfl (W.as rfl (W.nx (V.seq (V.seq (V.region (W.mv rfl ?_))))))))
 obtain ⟨t1, A2, H⟩ := bind_s H
 refine W.e (Y.cl Try.func79 (clock_has.calls A2 HS.j0)) rfl ?_
 rintro _ w ⟨rfl, HS⟩
 replace HS := HS.o0
 refine W.r (X.not rfl) rfl (W.nx ?_)
 by_cases c3 : t1 = true
 ·replace H := ite_t c3 H
  refine V.condF (sb (n_t c3)) (V.skip (At.next (V.seq ?_)))
  obtain ⟨c4, H⟩ := ite_n H
  refine V.dr [] [] [(9, Value.pointer (some ⟨b0, 0, none⟩)), (10, Value.int .i64 a1), (11, Value.pointer (some ⟨b0, 0, none⟩)), (12, Value.pointer (some ⟨b0, 0 + 1, none⟩)), (13, Value.pointer (some ⟨b0, 0 + 1 + a1.toNat * 1, none⟩)), (14, Value.int .i64 (a0.left.getD a1.toNat 0)), (15, Value.pointer (some ⟨b0, 0, none⟩)), (16, Value.int .i64 a1), (17, Value.pointer (some ⟨b0, 0, none⟩)), (18, Value.pointer (some ⟨b0, 0 + 1, none⟩)), (19, Value.pointer (some ⟨b0, 0 + 1 + a1.toNat * 1, none⟩)), (20, Value.int .i64 (a0.left.getD a1.toNat 0)), (21, Value.bool (decide ((a0.left.getD a1.toNat 0) > 0))), (4, Value.int .i64 (a0.left.getD a1.toNat 0)), (5, Value.bool (decide ((a0.left.getD a1.toNat 0) > 0)))] mo HS ?_
  refine T.fn [(4, _), (5, _)] ⟨rfl, rfl, trivial⟩ ⟨.mv 0, .mv 1, .nc 9, .fa 11 fo109_1, .n2 10 12 rfl rfl rfl (fun w HS => X.indexAr Try.underlying107 inf3 rfl rfl c4.1 c4.2), .n1 13 rfl rfl (fun w HS => X.load Try.underlying3 rfl rfl (cellArr 0 HS rfl rfl c4.1 c4.2 (by first | exact hv0 | (simp only [List.length_set]; exact hv0)))), .mv 0, .mv 1, .nc 15, .fa 17 fo109_1, .n2 16 18 rfl rfl rfl (fun w HS => X.indexAr Try.underlying107 inf3 rfl rfl c4.1 c4.2), .n1 19 rfl rfl (fun w HS => X.load Try.underlying3 rfl rfl (cellArr 0 HS rfl rfl c4.1 c4.2 (by first | exact hv0 | (simp only [List.length_set]; exact hv0)))), .n1 20 rfl rfl (fun w HS => X.cmp (decide ((a0.left.getD a1.toNat 0) > 0)) rfl rfl rfl rfl), .as 14, .as 21, trivial⟩ (fun w HS => ?_)
  refine At.next (V.ret ?_)
  cases H
  exact At.ret2 rfl rfl rfl ⟨_, rfl, rfl, HS⟩
 ·replace H := ite_f c3 H
  refine V.condT (sb (n_f (b_f c3))) (V.seq (V.region (W.as rfl (W.as rfl (W.nx (V.ret (At.thenRet ?_)))))))
  cases H
  exact At.ret2 rfl rfl rfl ⟨_, rfl, rfl, HS⟩
def clock_Set_Stop.f (a0 : clock_Set) (a1 : Int) : Option (Bool × clock_Set) := ((clock_Set_Left.f a0 a1).bind fun t3 => (if t3.2 = true then (if 0 ≤ a1 ∧ a1 < 32 then some (t3.2, ({ now := a0.now, left := a0.left.set a1.toNat (0) } : clock_Set)) else none) else some (t3.2, a0)))
theorem clock_Set_Stop.calls {a0 : clock_Set} {a1 : Int} {R : As} {w0 w : World} {b0 : Nat} {r : Bool × clock_Set} (H : clock_Set_Stop.f a0 a1 = some r) (HS : Sep.St [clock_Set.at b0 a0, R] w0 w)  : Calls Try.prog 78 #[Value.pointer (some ⟨b0, 0, none⟩), Value.int .i64 a1] w (Ret fun u w => u = Value.bool r.1 ∧ Sep.St [clock_Set.at b0 r.2, R] w0 w) := by
 unfold clock_Set_Stop.f at H
 refine calls_enter Try.func78 rfl rfl ?_
 have H : _ = some r := H
 refine V.seq (V.region (W.as rfl (W.nx (V.seq (V.region (W.mv rfl (W.mv rfl ?_)))))))
 obtain ⟨hi2, HS⟩ := clock_Set.open HS
 obtain ⟨t3, A4, H⟩ := bind_s H
 refine W.e (Y.cl Try.func49 (clock_Set_Left.calls A4 HS.j1 (by first | exact hi2 | (simp only [List.length_set]; exact hi2)))) rfl ?_
 rintro _ w ⟨rfl, HS⟩
 replace HS := HS.o1
 refine W.mv rfl (W.r (X.extract rfl rfl) rfl (W.r (X.extract rfl rfl) rfl (W.as rfl (W.as rfl (W.nx (V.seq (V.seq (V.region (W.mv rfl (W.nx ?_))))))))))
 by_cases c5 : t3.2 = true
 ·replace H := ite_t c5 H
  refine V.condT (sb c5) (V.region (W.mv rfl (W.mv rfl (W.nc rfl (W.fa fo109_1 rfl ?_)))))
  obtain ⟨c6, H⟩ := ite_n H
  refine W.r (X.indexAr Try.underlying107 inf3 rfl rfl c6.1 c6.2) rfl (W.en (Y.storeArr 0 HS rfl rfl inf3 rfl rfl c6.1 c6.2 (by first | exact hi2 | (simp only [List.length_set]; exact hi2))) rfl ?_)
  rintro _ w HS
  refine W.nx (V.seq (V.region (W.mv rfl (W.as rfl (W.nx (V.ret ?_))))))
  replace HS := clock_Set.close (by first | exact hi2 | (simp only [List.length_set]; exact hi2)) HS
  cases H
  exact At.ret1 rfl rfl ⟨_, rfl, rfl, HS⟩
 ·replace H := ite_f c5 H
  refine V.condF (sb (b_f c5)) (V.skip (At.next (V.seq (V.region (W.mv rfl (W.as rfl (W.nx (V.ret ?_))))))))
  replace HS := clock_Set.close (by first | exact hi2 | (simp only [List.length_set]; exact hi2)) HS
  cases H
  exact At.ret1 rfl rfl ⟨_, rfl, rfl, HS⟩
def arq_Arq_fresh.f (a0 : arq_Arq) (a1 : Int) : Option arq_Arq := ((backlog_Log_Clear.f a0.log).bind fun t3 => ((reorder_Order_Clear.f a0.order).bind fun t5 => ((clock_Set_Stop.f a0.timers 0).bind fun t7 => some (({ a0 with state := a1, tries := 0, rejected := false, log := t3.2, order := t5, timers := t7.2, lost := w64 (a0.lost + t3.1) } : arq_Arq)))))
theorem arq_Arq_fresh.calls {a0 : arq_Arq} {a1 : Int} {R : As} {w0 w : World} {b0 : Nat} {r : arq_Arq} (H : arq_Arq_fresh.f a0 a1 = some r) (HS : Sep.St [arq_Arq.at b0 a0, R] w0 w)  : Calls Try.prog 48 #[Value.pointer (some ⟨b0, 0, none⟩), Value.int .i64 a1] w (Ret fun u w => u = Value.tuple #[] ∧ Sep.St [arq_Arq.at b0 r, R] w0 w) := by
 unfold arq_Arq_fresh.f at H
 refine calls_enter Try.func48 rfl rfl ?_
 have H : _ = some r := H
 refine V.seq (V.region (W.mv rfl (W.mv rfl (W.mv rfl (W.mv rfl (W.nc rfl ?_))))))
 obtain ⟨b8_1, b9_1, b10_1, a11_1, c11_1, d11_1, a12_1, c12_1, hi2, HS⟩ := arq_Arq.open HS
 refine W.fa fo82_4 rfl (W.st 0 4 HS inf3 rfl rfl rfl rfl rfl rfl fun w HS => ?_)
 refine W.nc rfl (W.fa fo82_6 rfl (W.st 0 6 HS inf3 rfl rfl rfl rfl rfl rfl fun w HS => ?_))
 refine W.nc rfl (W.fa fo82_7 rfl (W.st 0 7 HS inf4 rfl rfl rfl rfl rfl rfl fun w HS => ?_))
 refine W.nx (V.seq (V.dr [8, 12] [9, 10, 11] [(14, Value.pointer (some ⟨b0, 0, none⟩)), (15, Value.pointer (some ⟨b0, 0, none⟩)), (16, Value.pointer (some ⟨b0, 0 + 15, none⟩)), (17, Value.int .i64 a0.lost), (18, Value.pointer (some ⟨b0, 0, none⟩)), (19, Value.pointer (some ⟨b0, 0, none⟩)), (20, Value.pointer (some ⟨b0, 0 + 8, none⟩)), (21, Value.pointer (some ⟨b8_1, 0, none⟩))] mo HS ?_))
 refine T.ev [(21, _)] [] [4, 5, 6, 7] ⟨rfl, trivial⟩ ⟨.mv 0, .nc 14, .fa 15 fo82_15, .ld 16 0 Try.underlying3, .mv 0, .nc 18, .fa 19 fo82_8, .ld 20 0 Try.underlying74, trivial⟩ rfl (fun w HS => ?_)
 obtain ⟨t3, A4, H⟩ := bind_s H
 replace HS := HS.pm [1, 0, 2, 3, 4, 5, 6, 7]
 refine ⟨_, Y.cl Try.func76 (backlog_Log_Clear.calls A4 HS.j1), ?_⟩
 rintro _ w ⟨rfl, HS⟩
 replace HS := HS.o1
 refine T.nm [(22, Value.int .i64 t3.1), (23, Value.int .i64 (w64 (a0.lost + t3.1))), (24, Value.pointer (some ⟨b0, 0, none⟩)), (25, Value.pointer (some ⟨b0, 0 + 15, none⟩))] HS ⟨.inl ⟨rfl, rfl⟩, ⟨.inr ⟨by decide, rfl⟩, ⟨.inr ⟨by decide, rfl⟩, ⟨.inr ⟨by decide, rfl⟩, trivial⟩⟩⟩⟩ ?_
 refine T.ev [(23, _), (25, _)] [] [0, 1, 2, 3, 9, 10, 11] ⟨rfl, rfl, trivial⟩ ⟨.mv 0, .nc 14, .fa 15 fo82_15, .ld 16 1 Try.underlying3, .n2 17 22 rfl rfl rfl (fun w HS => X.add rfl rfl), .nc 14, .fa 24 fo82_15, trivial⟩ rfl (fun w HS => ?_)
 refine ⟨_, Y.sto 1 15 HS inf3 rfl rfl rfl rfl rfl rfl, ?_⟩
 rintro _ w HS
 refine T.nn HS ?_
 refine T.fn [(0, _)] ⟨rfl, trivial⟩ trivial (fun w HS => ?_)
 refine At.next (V.seq (V.region (W.mv rfl (W.nc rfl (W.fa fo82_9 rfl (W.ld 1 HS Try.underlying76 rfl rfl rfl rfl ?_))))))
 obtain ⟨t5, A6, H⟩ := bind_s H
 replace HS := HS.pm [2, 0, 1, 3, 4, 5, 6, 7]
 refine W.e (Y.cl Try.func77 (reorder_Order_Clear.calls A6 HS.j1)) rfl ?_
 rintro _ w ⟨rfl, HS⟩
 replace HS := HS.o1
 refine W.nx (V.region (W.mv rfl (W.nc rfl (W.fa fo82_10 rfl (W.ld 2 HS Try.underlying78 rfl rfl rfl rfl ?_)))))
 obtain ⟨t7, A8, H⟩ := bind_s H
 replace HS := HS.pm [3, 0, 1, 2, 4, 5, 6, 7]
 refine W.e (Y.cl Try.func78 (clock_Set_Stop.calls A8 HS.j1)) rfl ?_
 rintro _ w ⟨rfl, HS⟩
 replace HS := HS.o1
 refine W.nil ?_
 replace HS := HS.pm [3, 2, 1, 0, 4, 5, 6, 7]
 replace HS := arq_Arq.close trivial HS
 cases H
 exact At.end0 rfl ⟨_, rfl, rfl, HS⟩
mutual
def arq_Arq_Close.j0 (k : Nat) (a0 : arq_Arq) (x2 : Bool) : Option (Int × arq_Arq) := (if x2 = true then some (7, a0) else ((arq_Arq_fresh.f a0 3).bind fun t5 => ((arq_Arq_tell.f k t5 ({ Kind := 5, Ns := 0, Nr := 0, Poll := true } : api_Ctl)).bind fun t7 => ((arq_Arq_start.f t7).bind fun t9 => some (0, t9)))))
end
def arq_Arq_Close.f (k : Nat) (a0 : arq_Arq) : Option (Int × arq_Arq) := (if a0.state = 0 then (arq_Arq_Close.j0 k a0 true) else (arq_Arq_Close.j0 k a0 (decide (a0.state = 3))))
theorem arq_Arq_Close.calls {k : Nat} {a0 : arq_Arq} {R : As} {w0 w : World} {b0 : Nat} {r : Int × arq_Arq} (H : arq_Arq_Close.f k a0 = some r) (HS : Sep.St [arq_Arq.at b0 a0, R] w0 w)  : Calls Try.prog 19 #[Value.pointer (some ⟨b0, 0, none⟩)] w (Ret fun u w => u = Value.int .i64 r.1 ∧ Sep.St [arq_Arq.at b0 r.2, R] w0 w) := by
 unfold arq_Arq_Close.f at H
 refine calls_enter Try.func19 rfl rfl ?_
 have H : _ = some r := H
 refine V.seq (V.region (W.as rfl (W.nx (V.seq (V.meet (σ := Bool) (fun st w => match st with | x2 => Sep.St [arq_Arq.at b0 a0, R] w0 w ∧ ∃ kf3, kf3 ≤ k ∧ arq_Arq_Close.j0 kf3 a0 x2 = some r) (fun st => match st with | x2 => [(0, Value.pointer (some ⟨b0, 0, none⟩)), (14, Value.bool x2)]) ?_ ?_)))))
 ·refine V.region (W.mv rfl (W.nc rfl ?_))
  obtain ⟨b8_11, b9_11, b10_11, a11_11, c11_11, d11_11, a12_11, c12_11, hi12, HS⟩ := arq_Arq.open HS
  refine W.fa fo82_4 rfl (W.ld 0 HS Try.underlying3 rfl rfl rfl rfl (W.r (X.cmp (decide (a0.state = 0)) rfl rfl rfl rfl) rfl (W.mv rfl ?_)))
  by_cases c13 : a0.state = 0
  ·replace H := ite_t c13 H
   refine W.pass 8 rfl (sb (decide_eq_true c13)) rfl rfl (W.pass 8 rfl (sb (decide_eq_true c13)) rfl rfl (W.pass 8 rfl (sb (decide_eq_true c13)) rfl rfl (W.pass 8 rfl (sb (decide_eq_true c13)) rfl rfl (W.pass 8 rfl (sb (decide_eq_true c13)) rfl rfl (W.r (X.pickT (sb (decide_eq_true c13)) rfl) rfl (W.nil ?_))))))
   replace HS := arq_Arq.close trivial HS
   exact At.meet true ⟨rfl, rfl, trivial⟩ ⟨HS, k, by omega, H⟩
  ·replace H := ite_f c13 H
   refine W.want 8 rfl (sb (decide_eq_false c13)) (W.mv rfl (W.want 8 rfl (sb (decide_eq_false c13)) (W.nc rfl (W.want 8 rfl (sb (decide_eq_false c13)) (W.fa fo82_4 rfl (W.want 8 rfl (sb (decide_eq_false c13)) (W.ld 0 HS Try.underlying3 rfl rfl rfl rfl (W.want 8 rfl (sb (decide_eq_false c13)) (W.r (X.cmp (decide (a0.state = 3)) rfl rfl rfl rfl) rfl (W.r (X.pickF (sb (decide_eq_false c13)) rfl) rfl (W.nil ?_)))))))))))
   replace HS := arq_Arq.close trivial HS
   exact At.meet (decide (a0.state = 3)) ⟨rfl, rfl, trivial⟩ ⟨HS, k, by omega, H⟩
 ·rintro x2 w ⟨HS, kf3, hkkf3, H⟩
  unfold arq_Arq_Close.j0 at H
  by_cases c4 : x2 = true
  ·replace H := ite_t c4 H
   refine V.condT (sb c4) (V.seq (V.region (W.as rfl (W.nx (V.ret (At.thenRet ?_))))))
   cases H
   exact At.ret1 rfl rfl ⟨_, rfl, rfl, HS⟩
  ·replace H := ite_f c4 H
   refine V.condF (sb (b_f c4)) (V.skip (At.next (V.seq (V.region (W.mv rfl ?_)))))
   obtain ⟨t5, A6, H⟩ := bind_s H
   refine W.e (Y.cl Try.func48 (arq_Arq_fresh.calls A6 HS.j1)) rfl ?_
   rintro _ w ⟨rfl, HS⟩
   replace HS := HS.o1
   refine W.nx (V.seq (V.region (W.mv rfl (W.r (X.bd (Value.agg #[Value.int .i64 (5), Value.int .i64 (0), Value.int .i64 (0), Value.bool true]) rfl (fun _ => by kernel_rfl)) rfl ?_))))
   obtain ⟨t7, A8, H⟩ := bind_s H
   refine W.e (Y.cl Try.func46 (arq_Arq_tell.calls A8 HS.j1)) rfl ?_
   rintro _ w ⟨rfl, HS⟩
   replace HS := HS.o1
   refine W.nx (V.seq (V.region (W.mv rfl ?_)))
   obtain ⟨t9, A10, H⟩ := bind_s H
   refine W.e (Y.cl Try.func47 (arq_Arq_start.calls A10 HS.j1)) rfl ?_
   rintro _ w ⟨rfl, HS⟩
   replace HS := HS.o1
   refine W.nx (V.seq (V.region (W.as rfl (W.nx (V.ret ?_)))))
   cases H
   exact At.ret1 rfl rfl ⟨_, rfl, rfl, HS⟩
def slices_Clone_Sbytebyte.f (a0 : List Int) : Option (List Int) := (if (([] : List Int).length : Int) + a0.length ≤ 1099511627776 then some (([] : List Int) ++ a0) else none)
theorem slices_Clone_Sbytebyte.calls {a0 : List Int} {R : As} {w0 w : World} {sa0 : Option Addr} {sc0 : Nat} {r : List Int} (H : slices_Clone_Sbytebyte.f a0 = some r) (HS : Sep.St [R] w0 w) (hr0 : rdC R 1 (.slice sa0 a0.length sc0) a0.length (a0.map (Value.int .u8))) : Calls Try.prog 93 #[Value.slice sa0 a0.length sc0] w (Ret fun u w => ∃ (aq0 : Option Addr) (cq0 : Nat), u = Value.slice aq0 r.length cq0 ∧ Sep.St [row 5 1 (.slice aq0 r.length cq0) r.length (r.map (Value.int .u8)), R] w0 w) := by
 unfold slices_Clone_Sbytebyte.f at H
 refine calls_enter Try.func93 rfl rfl ?_
 have H : _ = some r := H
 refine V.seq (V.region (W.as rfl (W.nx (V.seq (V.seq (V.region (W.mv rfl (W.r (X.eqSl Try.underlying39 rfl rfl) rfl (W.nx ?_)))))))))
 by_cases cg1 : sa0.isNone = false
 ·refine V.condF (sb cg1) (V.skip (At.next (V.seq (V.region (W.e (Y.lit (e := 5) (sz := 1) (vs := #[]) [] HS (fun a ha => by simp only [List.map_toArray, List.map_cons, List.map_nil]; try rfl) rfl (by decide) (fun _ => by kernel_rfl)) rfl ?_)))))
  rintro _ w ⟨ra4, rc5, rfl, HS⟩
  have HS : Sep.St [row 5 1 (.slice ra4 ([] : List Int).length rc5) ([] : List Int).length (([] : List Int).map (Value.int .u8)), R] w0 w := HS
  refine W.mv rfl ?_
  obtain ⟨c7, H⟩ := ite_n H
  refine W.e (Y.appF (Value.int .u8) (fun _ => rfl) 0 Try.underlying39 ap5 rfl HS rfl rfl rfl (rdC.at 1 hr0 HS rfl) (by omega) (by omega)) rfl ?_
  rintro _ w ⟨ra8, rc9, rfl, HS⟩
  refine W.as rfl (W.nx (V.ret ?_))
  cases H
  exact At.ret1 rfl rfl ⟨_, rfl, ra8, rc9, rfl, HS⟩
 ·have hN2 : sa0.isNone = true := by simpa using cg1
  have hz3 : a0 = [] := List.eq_nil_of_length_eq_zero ((rdC.at 0 hr0 HS rfl).nil (Option.isNone_iff_eq_none.1 hN2)).1
  have H : some ([] : List Int) = some r := by simpa [hz3] using H
  refine V.condT (sb hN2) (V.seq (V.region (W.as rfl (W.nx (V.ret (At.thenRet ?_))))))
  replace HS := row_nilF (Value.int .u8) 5 1 HS
  cases H
  exact At.ret1 rfl rfl ⟨_, rfl, none, 0, rfl, HS⟩
def backlog_Log_Add.f (a0 : backlog_Log) (a1 : List Int) : Option (Int × backlog_Log) := (if (w64 ((a0.l.length : Int) - a0.out)) ≥ a0.queue then some (6, a0) else ((slices_Clone_Sbytebyte.f a1).bind fun t5 => (if (a0.l.length : Int) + (([t5] : List (List Int))).length ≤ 1099511627776 then some (0, ({ a0 with l := a0.l ++ ([t5] : List (List Int)) } : backlog_Log)) else none)))
theorem backlog_Log_Add.calls {a0 : backlog_Log} {a1 : List Int} {R : As} {w0 w : World} {b0 : Nat} {sa1 : Option Addr} {sc1 : Nat} {r : Int × backlog_Log} (H : backlog_Log_Add.f a0 a1 = some r) (HS : Sep.St [backlog_Log.at b0 a0, R] w0 w) (hr1 : rdC R 1 (.slice sa1 a1.length sc1) a1.length (a1.map (Value.int .u8))) : Calls Try.prog 69 #[Value.pointer (some ⟨b0, 0, none⟩), Value.slice sa1 a1.length sc1] w (Ret fun u w => u = Value.int .i64 r.1 ∧ Sep.St [backlog_Log.at b0 r.2, R] w0 w) := by
 unfold backlog_Log_Add.f at H
 refine calls_enter Try.func69 rfl rfl ?_
 have H : _ = some r := H
 refine V.seq (V.region (W.as rfl (W.nx (V.seq (V.seq ?_)))))
 obtain ⟨a5_2, c5_2, d5_2, hi3, HS⟩ := backlog_Log.open HS
 refine V.dr [] [] [(5, Value.pointer (some ⟨b0, 0, none⟩)), (6, Value.pointer (some ⟨b0, 0, none⟩)), (7, Value.pointer (some ⟨b0, 0 + 5, none⟩)), (8, Value.slice a5_2 a0.l.length c5_2), (9, Value.int .i64 (a0.l.length : Int)), (10, Value.pointer (some ⟨b0, 0, none⟩)), (11, Value.pointer (some ⟨b0, 0, none⟩)), (12, Value.pointer (some ⟨b0, 0 + 4, none⟩)), (13, Value.int .i64 a0.out), (14, Value.int .i64 (w64 ((a0.l.length : Int) - a0.out))), (15, Value.pointer (some ⟨b0, 0, none⟩)), (16, Value.pointer (some ⟨b0, 0, none⟩)), (17, Value.pointer (some ⟨b0, 0 + 2, none⟩)), (18, Value.int .i64 a0.queue), (19, Value.bool (decide ((w64 ((a0.l.length : Int) - a0.out)) ≥ a0.queue)))] mo HS ?_
 refine T.fn [(0, _), (1, _), (19, _)] ⟨rfl, rfl, rfl, trivial⟩ ⟨.mv 0, .nc 5, .fa 6 fo103_5, .ld 7 0 Try.underlying30, .n1 8 rfl rfl (fun w HS => X.lenSl Try.underlying30 rfl), .mv 0, .nc 10, .fa 11 fo103_4, .ld 12 0 Try.underlying3, .n2 9 13 rfl rfl rfl (fun w HS => X.sub rfl rfl), .mv 0, .nc 15, .fa 16 fo103_2, .ld 17 0 Try.underlying3, .n2 14 18 rfl rfl rfl (fun w HS => X.cmp (decide ((w64 ((a0.l.length : Int) - a0.out)) ≥ a0.queue)) rfl rfl rfl rfl), trivial⟩ (fun w HS => ?_)
 refine At.next ?_
 by_cases c4 : (w64 ((a0.l.length : Int) - a0.out)) ≥ a0.queue
 ·replace H := ite_t c4 H
  refine V.condT (sb (decide_eq_true c4)) (V.seq (V.region (W.as rfl (W.nx (V.ret (At.thenRet ?_))))))
  replace HS := backlog_Log.close trivial HS
  cases H
  exact At.ret1 rfl rfl ⟨_, rfl, rfl, HS⟩
 ·replace H := ite_f c4 H
  refine V.condF (sb (decide_eq_false c4)) (V.skip (At.next (V.seq (V.dr [6, 7, 8, 11] [9, 10] [(20, Value.pointer (some ⟨b0, 0, none⟩)), (21, Value.pointer (some ⟨b0, 0, none⟩)), (22, Value.pointer (some ⟨b0, 0, none⟩)), (23, Value.pointer (some ⟨b0, 0 + 5, none⟩)), (24, Value.slice a5_2 a0.l.length c5_2), (25, Value.slice sa1 a1.length sc1)] mo HS ?_))))
  refine T.ev [(25, _)] [9, 10] [5] ⟨rfl, trivial⟩ ⟨.mv 0, .mv 0, .nc 21, .fa 22 fo103_5, .ld 23 0 Try.underlying30, .mv 1, trivial⟩ rfl (fun w HS => ?_)
  obtain ⟨t5, A6, H⟩ := bind_s H
  refine ⟨_, Y.cl Try.func93 (slices_Clone_Sbytebyte.calls A6 HS.j0 (rdC.part 3 hr1 rfl)), ?_⟩
  rintro _ w ⟨at5_0, ct5_0, rfl, HS⟩
  replace HS := HS.o1
  refine T.nw HS ?_
  refine T.ev [(26, _)] [9, 10] [] ⟨rfl, trivial⟩ ⟨.mv 0, .mv 0, .nc 21, .fa 22 fo103_5, .ld 23 1 Try.underlying30, trivial⟩ rfl (fun w HS => ?_)
  replace HS := St.row_freeze HS
  refine ⟨_, Y.lc (e := 39) (sz := 1) [Value.slice at5_0 t5.length ct5_0] HS rfl rfl (fun _ => by kernel_rfl), ?_⟩
  rintro _ w ⟨lb7, rfl, HS⟩
  replace HS := St.put (A := tie (El.sl (El.int .u8)) ([]) (([] : List (List Int)))) (fun _ => tie.nil) HS
  replace HS := HS.more 2 rfl (fun _ t => t) fsl.pers
  replace HS := St.put (A := tie (El.int .u8) (t5.map (Value.int .u8)) t5) (fun _ => int_tie) HS
  replace HS := St.swap HS
  replace HS := St.sl_close (E := (El.int .u8)) HS
  replace HS := HS.fr 1
  replace HS := HS.fr 1
  replace HS := St.tie_cons HS
  refine T.nw HS ?_
  refine T.ev [(24, _), (27, _)] [] [1, 2, 3, 4] ⟨rfl, rfl, trivial⟩ ⟨.mv 0, .mv 0, .nc 21, .fa 22 fo103_5, .ld 23 3 Try.underlying30, trivial⟩ rfl (fun w HS => ?_)
  obtain ⟨c10, H⟩ := ite_n H
  refine ⟨_, Y.app (xs := a0.l) (ys := ([t5] : List (List Int))) 4 Try.underlying30 ap39 rfl (by decide) HS rfl rfl rfl (rdC.at 1 row_rd HS rfl) (St.tie_one 0 HS rfl) (by omega) (by omega), ?_⟩
  rintro _ w ⟨ra11, rc12, rfl, HS⟩
  replace HS := HS.fr 5
  replace HS := St.tie_app 1 HS rfl
  refine T.nm [(28, Value.slice ra11 (a0.l ++ ([t5] : List (List Int))).length rc12), (29, Value.pointer (some ⟨b0, 0, none⟩)), (30, Value.pointer (some ⟨b0, 0 + 5, none⟩))] HS ⟨.inl ⟨rfl, rfl⟩, ⟨.inr ⟨by decide, rfl⟩, ⟨.inr ⟨by decide, rfl⟩, trivial⟩⟩⟩ ?_
  refine T.ev [(28, _), (30, _)] [] [0, 9, 10] ⟨rfl, rfl, trivial⟩ ⟨.mv 0, .nc 20, .fa 29 fo103_5, trivial⟩ rfl (fun w HS => ?_)
  refine ⟨_, Y.sto 4 5 HS inf30 rfl rfl rfl rfl rfl rfl, ?_⟩
  rintro _ w HS
  refine T.nn HS ?_
  refine T.fn [] trivial trivial (fun w HS => ?_)
  refine At.next (V.seq (V.region (W.as rfl (W.nx (V.ret ?_)))))
  replace HS := HS.pm [4, 5, 0, 1, 2, 3, 6]
  replace HS := backlog_Log.close trivial HS
  replace HS := HS.pk [0, 4] [1, 2, 3]
  cases H
  exact At.ret1 rfl rfl ⟨_, rfl, rfl, HS⟩
def backlog_Log_number.f (a0 : backlog_Log) (a1 : Int) : Option Int := (if ¬ (a0.m = 0) then some ((w64 (a0.first + a1)).tmod a0.m) else none)
theorem backlog_Log_number.calls {a0 : backlog_Log} {a1 : Int} {R : As} {w0 w : World} {b0 : Nat} {a5_p0 : Option Addr} {c5_p0 : Nat} {d5_p0 : List Value} {r : Int} (H : backlog_Log_number.f a0 a1 = some r) (HS : Sep.St [blk b0 (#[Value.int .i64 a0.m, Value.int .i64 a0.window, Value.int .i64 a0.queue, Value.int .i64 a0.first, Value.int .i64 a0.out, Value.slice a5_p0 a0.l.length c5_p0]) 103, row 39 1 (.slice a5_p0 a0.l.length c5_p0) a0.l.length d5_p0, tie (El.sl (El.int .u8)) d5_p0 a0.l, R] w0 w)  : Calls Try.prog 98 #[Value.pointer (some ⟨b0, 0, none⟩), Value.int .i64 a1] w (Ret fun u w => u = Value.int .i64 r ∧ Sep.St [blk b0 (#[Value.int .i64 a0.m, Value.int .i64 a0.window, Value.int .i64 a0.queue, Value.int .i64 a0.first, Value.int .i64 a0.out, Value.slice a5_p0 a0.l.length c5_p0]) 103, row 39 1 (.slice a5_p0 a0.l.length c5_p0) a0.l.length d5_p0, tie (El.sl (El.int .u8)) d5_p0 a0.l, R] w0 w) := by
 unfold backlog_Log_number.f at H
 refine calls_enter Try.func98 rfl rfl ?_
 have H : _ = some r := H
 refine V.seq (V.region (W.as rfl (W.nx (V.seq ?_))))
 obtain ⟨c1, H⟩ := ite_n H
 refine V.dr [] [] [(5, Value.pointer (some ⟨b0, 0, none⟩)), (6, Value.pointer (some ⟨b0, 0, none⟩)), (7, Value.pointer (some ⟨b0, 0 + 3, none⟩)), (8, Value.int .i64 a0.first), (9, Value.int .i64 a1), (10, Value.int .i64 (w64 (a0.first + a1))), (11, Value.pointer (some ⟨b0, 0, none⟩)), (12, Value.pointer (some ⟨b0, 0, none⟩)), (13, Value.pointer (some ⟨b0, 0 + 0, none⟩)), (14, Value.int .i64 a0.m), (15, Value.int .i64 ((w64 (a0.first + a1)).tmod a0.m)), (4, Value.int .i64 ((w64 (a0.first + a1)).tmod a0.m))] mo HS ?_
 refine T.fn [(4, _)] ⟨rfl, trivial⟩ ⟨.mv 0, .nc 5, .fa 6 fo103_3, .ld 7 0 Try.underlying3, .mv 1, .n2 8 9 rfl rfl rfl (fun w HS => X.add rfl rfl), .mv 0, .nc 11, .fa 12 fo103_0, .ld 13 0 Try.underlying3, .n2 10 14 rfl rfl rfl (fun w HS => X.rem rfl rfl c1), .as 15, trivial⟩ (fun w HS => ?_)
 refine At.next (V.ret ?_)
 cases H
 exact At.ret1 rfl rfl ⟨_, rfl, rfl, HS⟩
mutual
def backlog_Log_Next.j0 (a0 : backlog_Log) (x2 : Bool) : Option (Int × List Int × Bool × backlog_Log) := (if x2 = true then some (0, ([] : List Int), false, a0) else (if 0 ≤ a0.out ∧ a0.out < (a0.l.length : Int) then ((backlog_Log_number.f ({ a0 with out := w64 (a0.out + 1) } : backlog_Log) a0.out).bind fun t16 => ((slices_Clone_Sbytebyte.f (a0.l.getD a0.out.toNat [])).bind fun t18 => some (t16, t18, true, ({ a0 with out := w64 (a0.out + 1) } : backlog_Log)))) else none))
end
def backlog_Log_Next.f (a0 : backlog_Log) : Option (Int × List Int × Bool × backlog_Log) := (if a0.out = (a0.l.length : Int) then (backlog_Log_Next.j0 a0 true) else (backlog_Log_Next.j0 a0 (decide (a0.out = a0.window))))
theorem backlog_Log_Next.calls {a0 : backlog_Log} {R : As} {w0 w : World} {b0 : Nat} {r : Int × List Int × Bool × backlog_Log} (H : backlog_Log_Next.f a0 = some r) (HS : Sep.St [backlog_Log.at b0 a0, R] w0 w)  : Calls Try.prog 94 #[Value.pointer (some ⟨b0, 0, none⟩)] w (Ret fun u w => ∃ (aq1 : Option Addr) (cq1 : Nat), u = Value.tuple #[Value.int .i64 r.1, Value.slice aq1 r.2.1.length cq1, Value.bool r.2.2.1] ∧ Sep.St [row 5 1 (.slice aq1 r.2.1.length cq1) r.2.1.length (r.2.1.map (Value.int .u8)), backlog_Log.at b0 r.2.2.2, R] w0 w) := by
 unfold backlog_Log_Next.f at H
 refine calls_enter Try.func94 rfl rfl ?_
 have H : _ = some r := H
 refine V.seq (V.region (W.as rfl (W.as rfl (W.as rfl (W.nx (V.seq (V.meet (σ := Bool) (fun st w => match st with | x2 => Sep.St [backlog_Log.at b0 a0, R] w0 w ∧ backlog_Log_Next.j0 a0 x2 = some r) (fun st => match st with | x2 => [(0, Value.pointer (some ⟨b0, 0, none⟩)), (26, Value.bool x2)]) ?_ ?_)))))))
 ·obtain ⟨a5_20, c5_20, d5_20, hi21, HS⟩ := backlog_Log.open HS
  by_cases c22 : a0.out = (a0.l.length : Int)
  ·replace H := ite_t c22 H
   refine V.dr [] [] [(6, Value.pointer (some ⟨b0, 0, none⟩)), (7, Value.pointer (some ⟨b0, 0, none⟩)), (8, Value.pointer (some ⟨b0, 0 + 4, none⟩)), (9, Value.int .i64 a0.out), (10, Value.pointer (some ⟨b0, 0, none⟩)), (11, Value.pointer (some ⟨b0, 0, none⟩)), (12, Value.pointer (some ⟨b0, 0 + 5, none⟩)), (13, Value.slice a5_20 a0.l.length c5_20), (14, Value.int .i64 (a0.l.length : Int)), (15, Value.bool (decide (a0.out = (a0.l.length : Int)))), (16, Value.bool (decide (a0.out = (a0.l.length : Int)))), (17, undef), (18, undef), (19, undef), (20, undef), (21, undef), (22, undef), (23, undef), (24, undef), (25, undef), (26, Value.bool true)] mo HS ?_
   refine T.fn [(0, _), (26, _)] ⟨rfl, rfl, trivial⟩ ⟨.mv 0, .nc 6, .fa 7 fo103_4, .ld 8 0 Try.underlying3, .mv 0, .nc 10, .fa 11 fo103_5, .ld 12 0 Try.underlying30, .n1 13 rfl rfl (fun w HS => X.lenSl Try.underlying30 rfl), .n2 9 14 rfl rfl rfl (fun w HS => X.cmp (decide (a0.out = (a0.l.length : Int))) rfl rfl rfl rfl), .mv 15, .gp 10 false true 16 rfl rfl (Option.some.inj (sb (decide_eq_true c22))) rfl, .gp 10 false true 16 rfl rfl (Option.some.inj (sb (decide_eq_true c22))) rfl, .gp 10 false true 16 rfl rfl (Option.some.inj (sb (decide_eq_true c22))) rfl, .gp 10 false true 16 rfl rfl (Option.some.inj (sb (decide_eq_true c22))) rfl, .gp 10 false true 16 rfl rfl (Option.some.inj (sb (decide_eq_true c22))) rfl, .gp 10 false true 16 rfl rfl (Option.some.inj (sb (decide_eq_true c22))) rfl, .gp 10 false true 16 rfl rfl (Option.some.inj (sb (decide_eq_true c22))) rfl, .gp 10 false true 16 rfl rfl (Option.some.inj (sb (decide_eq_true c22))) rfl, .gp 10 false true 16 rfl rfl (Option.some.inj (sb (decide_eq_true c22))) rfl, .n2 16 25 rfl rfl rfl (fun w HS => X.pickT (sb (decide_eq_true c22)) rfl), trivial⟩ (fun w HS => ?_)
   replace HS := backlog_Log.close trivial HS
   exact At.meet true ⟨rfl, rfl, trivial⟩ ⟨HS, H⟩
  ·replace H := ite_f c22 H
   refine V.dr [] [] [(6, Value.pointer (some ⟨b0, 0, none⟩)), (7, Value.pointer (some ⟨b0, 0, none⟩)), (8, Value.pointer (some ⟨b0, 0 + 4, none⟩)), (9, Value.int .i64 a0.out), (10, Value.pointer (some ⟨b0, 0, none⟩)), (11, Value.pointer (some ⟨b0, 0, none⟩)), (12, Value.pointer (some ⟨b0, 0 + 5, none⟩)), (13, Value.slice a5_20 a0.l.length c5_20), (14, Value.int .i64 (a0.l.length : Int)), (15, Value.bool (decide (a0.out = (a0.l.length : Int)))), (16, Value.bool (decide (a0.out = (a0.l.length : Int)))), (17, Value.pointer (some ⟨b0, 0, none⟩)), (18, Value.pointer (some ⟨b0, 0, none⟩)), (19, Value.pointer (some ⟨b0, 0 + 4, none⟩)), (20, Value.int .i64 a0.out), (21, Value.pointer (some ⟨b0, 0, none⟩)), (22, Value.pointer (some ⟨b0, 0, none⟩)), (23, Value.pointer (some ⟨b0, 0 + 1, none⟩)), (24, Value.int .i64 a0.window), (25, Value.bool (decide (a0.out = a0.window))), (26, Value.bool (decide (a0.out = a0.window)))] mo HS ?_
   refine T.fn [(0, _), (26, _)] ⟨rfl, rfl, trivial⟩ ⟨.mv 0, .nc 6, .fa 7 fo103_4, .ld 8 0 Try.underlying3, .mv 0, .nc 10, .fa 11 fo103_5, .ld 12 0 Try.underlying30, .n1 13 rfl rfl (fun w HS => X.lenSl Try.underlying30 rfl), .n2 9 14 rfl rfl rfl (fun w HS => X.cmp (decide (a0.out = (a0.l.length : Int))) rfl rfl rfl rfl), .mv 15, .gw [(0, _), (16, _)] 10 false 16 ⟨rfl, rfl, trivial⟩ rfl (sb (decide_eq_false c22)) (fun w HS => X.move rfl), .gw [(17, _), (16, _)] 10 false 16 ⟨rfl, rfl, trivial⟩ rfl (sb (decide_eq_false c22)) (fun w HS => X.nilCheck rfl), .gw [(18, _), (16, _)] 10 false 16 ⟨rfl, rfl, trivial⟩ rfl (sb (decide_eq_false c22)) (fun w HS => X.fieldAddr 4 fo103_4 rfl), .gw [(19, _), (16, _)] 10 false 16 ⟨rfl, rfl, trivial⟩ rfl (sb (decide_eq_false c22)) (fun w HS => X.loadAt 0 HS rfl Try.underlying3 rfl rfl rfl), .gw [(0, _), (16, _)] 10 false 16 ⟨rfl, rfl, trivial⟩ rfl (sb (decide_eq_false c22)) (fun w HS => X.move rfl), .gw [(21, _), (16, _)] 10 false 16 ⟨rfl, rfl, trivial⟩ rfl (sb (decide_eq_false c22)) (fun w HS => X.nilCheck rfl), .gw [(22, _), (16, _)] 10 false 16 ⟨rfl, rfl, trivial⟩ rfl (sb (decide_eq_false c22)) (fun w HS => X.fieldAddr 1 fo103_1 rfl), .gw [(23, _), (16, _)] 10 false 16 ⟨rfl, rfl, trivial⟩ rfl (sb (decide_eq_false c22)) (fun w HS => X.loadAt 0 HS rfl Try.underlying3 rfl rfl rfl), .gw [(20, _), (24, _), (16, _)] 10 false 16 ⟨rfl, rfl, rfl, trivial⟩ rfl (sb (decide_eq_false c22)) (fun w HS => X.cmp (decide (a0.out = a0.window)) rfl rfl rfl rfl), .n2 16 25 rfl rfl rfl (fun w HS => X.pickF (sb (decide_eq_false c22)) rfl), trivial⟩ (fun w HS => ?_)
   replace HS := backlog_Log.close trivial HS
   exact At.meet (decide (a0.out = a0.window)) ⟨rfl, rfl, trivial⟩ ⟨HS, H⟩
 ·rintro x2 w ⟨HS, H⟩
  unfold backlog_Log_Next.j0 at H
  by_cases c4 : x2 = true
  ·replace H := ite_t c4 H
   refine V.condT (sb c4) (V.seq (V.region (W.as rfl (W.as rfl (W.as rfl (W.nx (V.ret (At.thenRet ?_))))))))
   replace HS := row_nilF (Value.int .u8) 5 1 HS
   cases H
   exact At.ret3 rfl rfl rfl rfl ⟨_, rfl, none, 0, rfl, HS⟩
  ·replace H := ite_f c4 H
   refine V.condF (sb (b_f c4)) (V.skip (At.next (V.seq (V.region (W.mv rfl (W.nc rfl ?_))))))
   obtain ⟨a5_5, c5_5, d5_5, hi6, HS⟩ := backlog_Log.open HS
   refine W.fa fo103_4 rfl (W.ld 0 HS Try.underlying3 rfl rfl rfl rfl (W.as rfl (W.nx (V.seq (V.region (W.mv rfl (W.nc rfl (W.fa fo103_4 rfl (W.ld 0 HS Try.underlying3 rfl rfl rfl rfl (W.r (X.add rfl rfl) rfl (W.nc rfl (W.fa fo103_4 rfl (W.st 0 4 HS inf3 rfl rfl rfl rfl rfl rfl fun w HS => ?_)))))))))))))
   refine W.nx (V.seq ?_)
   obtain ⟨c7, H⟩ := ite_n H
   obtain ⟨eb8, eo9, hh⟩ := (rdC.at 1 row_rd HS rfl).some (by decide) c7.1 c7.2; subst hh
   obtain ⟨ec10, hc11, HS⟩ := St.tie_at 2 HS rfl ([]) c7.1 c7.2
   obtain ⟨ea12, em13, he15, HN⟩ := St.sl_openF (Value.int .u8) (fun t => tie_int t) HS; clear HS; subst he15; have HS := HN
   refine V.dr [2, 10] [11, 12, 13] [(38, Value.pointer (some ⟨b0, 0, none⟩)), (39, Value.int .i64 a0.out), (41, Value.pointer (some ⟨b0, 0, none⟩)), (42, Value.pointer (some ⟨b0, 0, none⟩)), (43, Value.pointer (some ⟨b0, 0 + 5, none⟩)), (44, Value.slice (some ⟨eb8, eo9, none⟩) a0.l.length c5_5), (45, Value.int .i64 a0.out), (46, Value.pointer (some ⟨eb8, eo9 + a0.out.toNat * 1, none⟩)), (47, Value.slice ea12 (a0.l.getD a0.out.toNat []).length em13)] mo HS ?_
   refine T.ev [(38, _), (39, _)] [11, 12, 13] [0, 1] ⟨rfl, rfl, trivial⟩ ⟨.mv 0, .mv 5, .mv 0, .nc 41, .fa 42 fo103_5, .ld 43 1 Try.underlying30, .mv 5, .n2 44 45 rfl rfl rfl (fun w HS => X.indexSl Try.underlying30 inf39 rfl rfl c7.1 c7.2), .n1 46 rfl rfl (fun w HS => X.load Try.underlying39 rfl rfl ((rdC.at 2 row_rd HS rfl).cellEl0 (hc11 0 _ rfl))), trivial⟩ rfl (fun w HS => ?_)
   obtain ⟨t16, A17, H⟩ := bind_s H
   replace HS := HS.pm [1, 2, 3, 0, 4]
   refine ⟨_, Y.cl Try.func98 (backlog_Log_number.calls A17 HS.j3), ?_⟩
   rintro _ w ⟨rfl, HS⟩
   replace HS := HS.o3
   refine T.nw HS ?_
   refine T.ev [(47, _)] [] [3, 4, 5, 6, 7, 8, 9] ⟨rfl, trivial⟩ ⟨.mv 0, .nc 41, .fa 42 fo103_5, .ld 43 0 Try.underlying30, .mv 5, .n2 44 45 rfl rfl rfl (fun w HS => X.indexSl Try.underlying30 inf39 rfl rfl c7.1 c7.2), .n1 46 rfl rfl (fun w HS => X.load Try.underlying39 rfl rfl ((rdC.at 1 row_rd HS rfl).cellEl0 (hc11 0 _ rfl))), trivial⟩ rfl (fun w HS => ?_)
   obtain ⟨t18, A19, H⟩ := bind_s H
   refine ⟨_, Y.cl Try.func93 (slices_Clone_Sbytebyte.calls A19 HS.j0 (rdC.part 3 fsl.rd rfl)), ?_⟩
   rintro _ w ⟨at18_0, ct18_0, rfl, HS⟩
   replace HS := HS.o1
   refine T.nm [(48, Value.slice at18_0 t18.length ct18_0), (2, Value.int .i64 t16), (3, Value.slice at18_0 t18.length ct18_0), (4, Value.bool true)] HS ⟨.inl ⟨rfl, rfl⟩, ⟨.inr ⟨by decide, rfl⟩, ⟨.inr ⟨by decide, rfl⟩, ⟨.inr ⟨by decide, rfl⟩, trivial⟩⟩⟩⟩ ?_
   refine T.fn [(2, _), (3, _), (4, _)] ⟨rfl, rfl, rfl, trivial⟩ ⟨.as 40, .as 48, .n0 (fun w HS => X.assign rfl), trivial⟩ (fun w HS => ?_)
   refine At.next (V.ret ?_)
   replace HS := HS.pm [1, 2, 3, 0, 4, 5]
   replace HS := backlog_Log.close trivial HS
   replace HS := HS.pk [1, 0, 3] [2]
   cases H
   exact At.ret3 rfl rfl rfl rfl ⟨_, rfl, at18_0, ct18_0, rfl, HS⟩
def reorder_Order_Next.f (a0 : reorder_Order) : Option Int := some a0.next
theorem reorder_Order_Next.calls {a0 : reorder_Order} {R : As} {w0 w : World} {b0 : Nat} {b3_p0 : Nat} {k3_p0 : List (Int × Value)} {a4_p0 : Option Addr} {c4_p0 : Nat} {d4_p0 : List Value} {r : Int} (H : reorder_Order_Next.f a0 = some r) (HS : Sep.St [blk b0 (#[Value.int .i64 a0.m, Value.int .i64 a0.window, Value.int .i64 a0.next, Value.map (some b3_p0), Value.slice a4_p0 a0.ready.length c4_p0]) 106, mblk b3_p0 k3_p0, tieM (El.sl (El.int .u8)) k3_p0 a0.kept, row 39 1 (.slice a4_p0 a0.ready.length c4_p0) a0.ready.length d4_p0, tie (El.sl (El.int .u8)) d4_p0 a0.ready, R] w0 w)  : Calls Try.prog 103 #[Value.pointer (some ⟨b0, 0, none⟩)] w (Ret fun u w => u = Value.int .i64 r ∧ Sep.St [blk b0 (#[Value.int .i64 a0.m, Value.int .i64 a0.window, Value.int .i64 a0.next, Value.map (some b3_p0), Value.slice a4_p0 a0.ready.length c4_p0]) 106, mblk b3_p0 k3_p0, tieM (El.sl (El.int .u8)) k3_p0 a0.kept, row 39 1 (.slice a4_p0 a0.ready.length c4_p0) a0.ready.length d4_p0, tie (El.sl (El.int .u8)) d4_p0 a0.ready, R] w0 w) := by
 unfold reorder_Order_Next.f at H
 refine calls_enter Try.func103 rfl rfl ?_
 have H : _ = some r := H
 refine V.seq (V.region (W.as rfl (W.nx (V.seq (V.region (W.mv rfl (W.nc rfl (W.fa fo106_2 rfl (W.ld 0 HS Try.underlying3 rfl rfl rfl rfl (W.as rfl (W.nx (V.ret ?_))))))))))))
 cases H
 exact At.ret1 rfl rfl ⟨_, rfl, rfl, HS⟩
def arq_Arq_message.f (k : Nat) (a0 : arq_Arq) (a1 : Int) (a2 : List Int) (a3 : Bool) : Option arq_Arq := ((reorder_Order_Next.f a0.order).bind fun t5 => ((arq_Arq_put.f k a0 a0.tag ({ Kind := 0, Ns := a1, Nr := t5, Poll := a3 } : api_Ctl) a2).bind fun t7 => some t7))
theorem arq_Arq_message.calls {k : Nat} {a0 : arq_Arq} {a1 : Int} {a2 : List Int} {a3 : Bool} {R : As} {w0 w : World} {b0 : Nat} {sa2 : Option Addr} {sc2 : Nat} {r : arq_Arq} (H : arq_Arq_message.f k a0 a1 a2 a3 = some r) (HS : Sep.St [arq_Arq.at b0 a0, fsl 1 (.slice sa2 a2.length sc2) a2.length (a2.map (Value.int .u8)), R] w0 w)  : Calls Try.prog 95 #[Value.pointer (some ⟨b0, 0, none⟩), Value.int .i64 a1, Value.slice sa2 a2.length sc2, Value.bool a3] w (Ret fun u w => u = Value.tuple #[] ∧ Sep.St [arq_Arq.at b0 r, R] w0 w) := by
 unfold arq_Arq_message.f at H
 refine calls_enter Try.func95 rfl rfl ?_
 have H : _ = some r := H
 obtain ⟨b8_1, b9_1, b10_1, a11_1, c11_1, d11_1, a12_1, c12_1, hi2, HS⟩ := arq_Arq.open HS
 refine V.dr [10, 14] [12] [(8, Value.pointer (some ⟨b0, 0, none⟩)), (9, Value.pointer (some ⟨b0, 0, none⟩)), (10, Value.pointer (some ⟨b0, 0, none⟩)), (11, Value.pointer (some ⟨b0, 0 + 5, none⟩)), (12, Value.int .i64 a0.tag), (13, Value.int .i64 a1), (14, Value.pointer (some ⟨b0, 0, none⟩)), (15, Value.pointer (some ⟨b0, 0, none⟩)), (16, Value.pointer (some ⟨b0, 0 + 9, none⟩)), (17, Value.pointer (some ⟨b9_1, 0, none⟩)), (19, Value.bool a3), (21, Value.slice sa2 a2.length sc2)] mo HS ?_
 refine T.ev [(17, _)] [] [6, 7, 8, 9] ⟨rfl, trivial⟩ ⟨.mv 0, .mv 0, .nc 9, .fa 10 fo82_5, .ld 11 0 Try.underlying3, .mv 1, .mv 0, .nc 14, .fa 15 fo82_9, .ld 16 0 Try.underlying76, .mv 3, .mv 2, trivial⟩ rfl (fun w HS => ?_)
 replace HS := HS.fr 2
 obtain ⟨b3_3, k3_3, a4_3, c4_3, d4_3, hi4, HS⟩ := reorder_Order.open HS
 obtain ⟨t5, A6, H⟩ := bind_s H
 refine ⟨_, Y.cl Try.func103 (reorder_Order_Next.calls A6 HS.j5), ?_⟩
 rintro _ w ⟨rfl, HS⟩
 replace HS := HS.o5
 refine T.nm [(18, Value.int .i64 t5), (20, Value.agg #[Value.int .i64 (0), Value.int .i64 a1, Value.int .i64 t5, Value.bool a3])] HS ⟨.inl ⟨rfl, rfl⟩, ⟨.inr ⟨by decide, rfl⟩, trivial⟩⟩ ?_
 refine T.ev [(8, _), (12, _), (20, _), (21, _)] [] [0, 1, 2, 3, 4, 5, 11, 12, 13] ⟨rfl, rfl, rfl, rfl, trivial⟩ ⟨.mv 0, .mv 0, .nc 9, .fa 10 fo82_5, .ld 11 5 Try.underlying3, .mv 1, .mv 3, .ns [(13, _), (18, _), (19, _)] ⟨rfl, rfl, rfl, trivial⟩ rfl (fun w HS => X.bd (Value.agg #[Value.int .i64 (0), Value.int .i64 a1, Value.int .i64 t5, Value.bool a3]) rfl (fun _ => by kernel_rfl)), .mv 2, trivial⟩ rfl (fun w HS => ?_)
 replace HS := reorder_Order.close trivial HS
 replace HS := HS.pm [1, 2, 0, 3, 4, 5, 6, 7, 8]
 replace HS := arq_Arq.close trivial HS
 obtain ⟨t7, A8, H⟩ := bind_s H
 refine ⟨_, Y.cl Try.func74 (arq_Arq_put.calls A8 HS.j2), ?_⟩
 rintro _ w ⟨rfl, HS⟩
 replace HS := HS.o1
 refine T.nw HS ?_
 refine T.fn [] trivial trivial (fun w HS => ?_)
 cases H
 exact At.end0 rfl ⟨_, rfl, rfl, HS⟩
mutual
def arq_Arq_pump.l0 : Nat → Int → Bool → arq_Arq → (List Int) → Option arq_Arq
 | 0, _, _, _, _ => none
 | k + 1, x14, x15, x16, x19 => (if x15 = true then ((arq_Arq_message.f k x16 x14 x19 false).bind fun t31 => ((clock_Set_Left.f t31.timers 0).bind fun t37 => (if t37.2 = true then (arq_Arq_pump.j1 (arq_Arq_pump.l0 k) t31) else ((arq_Arq_start.f t31).bind fun t40 => (arq_Arq_pump.j1 (arq_Arq_pump.l0 k) t40))))) else some x16)
def arq_Arq_pump.j1 (Lq25 : Int → Bool → arq_Arq → (List Int) → Option arq_Arq) (x23 : arq_Arq) : Option arq_Arq := ((backlog_Log_Next.f x23.log).bind fun t29 => (Lq25 t29.1 t29.2.2.1 ({ x23 with log := t29.2.2.2 } : arq_Arq) t29.2.1))
end
def arq_Arq_pump.f (k : Nat) (a0 : arq_Arq) : Option arq_Arq := (if a0.state = 2 then ((backlog_Log_Next.f a0.log).bind fun t5 => (arq_Arq_pump.l0 k t5.1 t5.2.2.1 ({ a0 with log := t5.2.2.2 } : arq_Arq) t5.2.1)) else some a0)
theorem arq_Arq_pump.calls {k : Nat} {a0 : arq_Arq} {R : As} {w0 w : World} {b0 : Nat} {r : arq_Arq} (H : arq_Arq_pump.f k a0 = some r) (HS : Sep.St [arq_Arq.at b0 a0, R] w0 w)  : Calls Try.prog 70 #[Value.pointer (some ⟨b0, 0, none⟩)] w (Ret fun u w => u = Value.tuple #[] ∧ Sep.St [arq_Arq.at b0 r, R] w0 w) := by
 unfold arq_Arq_pump.f at H
 refine calls_enter Try.func70 rfl rfl ?_
 have H : _ = some r := H
 refine V.seq (V.seq (V.region (W.mv rfl (W.nc rfl ?_))))
 obtain ⟨b8_2, b9_2, b10_2, a11_2, c11_2, d11_2, a12_2, c12_2, hi3, HS⟩ := arq_Arq.open HS
 refine W.fa fo82_4 rfl (W.ld 0 HS Try.underlying3 rfl rfl rfl rfl (W.r (X.cmp (!(decide (a0.state = 2))) rfl rfl rfl rfl) rfl (W.nx ?_)))
 by_cases c4 : a0.state = 2
 ·replace H := ite_t c4 H
  refine V.condF (sb (n_t (decide_eq_true c4))) (V.skip (At.next (V.seq (V.region (W.mv rfl (W.nc rfl (W.fa fo82_8 rfl (W.ld 0 HS Try.underlying74 rfl rfl rfl rfl ?_))))))))
  obtain ⟨t5, A6, H⟩ := bind_s H
  replace HS := HS.pm [1, 0, 2, 3, 4, 5, 6, 7]
  refine W.e (Y.cl Try.func94 (backlog_Log_Next.calls A6 HS.j1)) rfl ?_
  rintro _ w ⟨at5_1, ct5_1, rfl, HS⟩
  replace HS := HS.o2
  refine W.mv rfl (W.r (X.extract rfl rfl) rfl (W.r (X.extract rfl rfl) rfl (W.r (X.extract rfl rfl) rfl (W.as rfl (W.as rfl (W.as rfl (W.nx (V.block ?_))))))))
  replace HS := HS.pm [2, 1, 3, 4, 5, 6, 7, 0, 8]
  replace HS := arq_Arq.close trivial HS
  refine V.loop (σ := Int × Bool × arq_Arq × Option Addr × Nat × List Int) (fun kq (st : Int × Bool × arq_Arq × Option Addr × Nat × List Int) w => match st with | (x14, x15, x16, ra17, rc18, x19) => Sep.St [arq_Arq.at b0 x16, row 5 1 (.slice ra17 x19.length rc18) x19.length (x19.map (Value.int .u8)), R] w0 w ∧ arq_Arq_pump.l0 kq x14 x15 x16 x19 = some r ∧ kq ≤ k) (fun st => match st with | (x14, x15, x16, ra17, rc18, x19) => [(0, Value.pointer (some ⟨b0, 0, none⟩)), (2, Value.int .i64 x14), (3, Value.slice ra17 x19.length rc18), (4, Value.bool x15)]) k (t5.1, t5.2.2.1, ({ a0 with log := t5.2.2.2 } : arq_Arq), at5_1, ct5_1, t5.2.1) ⟨rfl, rfl, rfl, rfl, trivial⟩ ⟨HS, H, Nat.le_refl _⟩ ?_
  rintro kq20 ⟨x14, x15, x16, ra17, rc18, x19⟩ w ⟨HS, H, hk21⟩
  cases kq20 with
  | zero => exact absurd H (by simp [arq_Arq_pump.l0])
  | succ kq20 =>
   simp only [arq_Arq_pump.l0] at H
   refine V.seq (V.seq (V.region (W.mv rfl (W.nx ?_))))
   by_cases c22 : x15 = true
   ·replace H := ite_t c22 H
    refine V.condT (sb c22) (V.skip (At.next (V.meet (σ := arq_Arq) (fun st w => match st with | x23 => Sep.St [arq_Arq.at b0 x23, R] w0 w ∧ ∃ kl26, kl26 ≤ kq20 ∧ arq_Arq_pump.j1 (arq_Arq_pump.l0 kl26) x23 = some r) (fun st => match st with | x23 => [(0, Value.pointer (some ⟨b0, 0, none⟩))]) ?_ ?_)))
    ·refine V.block (V.seq (V.region (W.mv rfl (W.mv rfl (W.mv rfl ?_)))))
     replace HS := HS.fr 1
     replace HS := St.row_freeze HS
     obtain ⟨t31, A32, H⟩ := bind_s H
     replace HS := HS.pm [1, 0, 2]
     refine W.e (Y.cl Try.func95 (arq_Arq_message.calls A32 HS.j2)) rfl ?_
     rintro _ w ⟨rfl, HS⟩
     replace HS := HS.o1
     refine W.nx (V.seq (V.region (W.mv rfl (W.nc rfl ?_))))
     obtain ⟨b8_33, b9_33, b10_33, a11_33, c11_33, d11_33, a12_33, c12_33, hi34, HS⟩ := arq_Arq.open HS
     refine W.fa fo82_10 rfl (W.ld 0 HS Try.underlying78 rfl rfl rfl rfl ?_)
     replace HS := HS.fr 3
     obtain ⟨hi36, HS⟩ := clock_Set.open HS
     obtain ⟨t37, A38, H⟩ := bind_s H
     refine W.e (Y.cl Try.func49 (clock_Set_Left.calls A38 HS.j1 (by first | exact hi36 | (simp only [List.length_set]; exact hi36)))) rfl ?_
     rintro _ w ⟨rfl, HS⟩
     replace HS := HS.o1
     refine W.mv rfl (W.r (X.extract rfl rfl) rfl (W.r (X.extract rfl rfl) rfl (W.as rfl (W.as rfl (W.nx (V.seq (V.region (W.mv rfl (W.r (X.not rfl) rfl (W.nx ?_))))))))))
     by_cases c39 : t37.2 = true
     ·replace H := ite_t c39 H
      refine V.condF (sb (n_t c39)) (V.skip (At.blockEnd ?_))
      replace HS := clock_Set.close (by first | exact hi36 | (simp only [List.length_set]; exact hi36)) HS
      replace HS := HS.pm [1, 2, 3, 0, 4, 5, 6, 7]
      replace HS := arq_Arq.close trivial HS
      exact At.meet t31 ⟨rfl, trivial⟩ ⟨HS, kq20, by omega, H⟩
     ·replace H := ite_f c39 H
      refine V.condT (sb (n_f (b_f c39))) (V.region (W.mv rfl ?_))
      replace HS := clock_Set.close (by first | exact hi36 | (simp only [List.length_set]; exact hi36)) HS
      replace HS := HS.pm [1, 2, 3, 0, 4, 5, 6, 7]
      replace HS := arq_Arq.close trivial HS
      obtain ⟨t40, A41, H⟩ := bind_s H
      refine W.e (Y.cl Try.func47 (arq_Arq_start.calls A41 HS.j1)) rfl ?_
      rintro _ w ⟨rfl, HS⟩
      replace HS := HS.o1
      refine W.nil (At.blockEnd ?_)
      exact At.meet t40 ⟨rfl, trivial⟩ ⟨HS, kq20, by omega, H⟩
    ·rintro x23 w ⟨HS, kl26, hkkl26, H⟩
     unfold arq_Arq_pump.j1 at H
     refine V.region (W.mv rfl (W.nc rfl ?_))
     obtain ⟨b8_27, b9_27, b10_27, a11_27, c11_27, d11_27, a12_27, c12_27, hi28, HS⟩ := arq_Arq.open HS
     refine W.fa fo82_8 rfl (W.ld 0 HS Try.underlying74 rfl rfl rfl rfl ?_)
     obtain ⟨t29, A30, H⟩ := bind_s H
     replace HS := HS.pm [1, 0, 2, 3, 4, 5, 6, 7]
     refine W.e (Y.cl Try.func94 (backlog_Log_Next.calls A30 HS.j1)) rfl ?_
     rintro _ w ⟨at29_1, ct29_1, rfl, HS⟩
     replace HS := HS.o2
     refine W.mv rfl (W.r (X.extract rfl rfl) rfl (W.r (X.extract rfl rfl) rfl (W.r (X.extract rfl rfl) rfl (W.as rfl (W.as rfl (W.as rfl (W.nil ?_)))))))
     replace HS := HS.pm [2, 1, 3, 4, 5, 6, 7, 0, 8]
     replace HS := arq_Arq.close trivial HS
     exact At.round kl26 (by omega) (t29.1, t29.2.2.1, ({ x23 with log := t29.2.2.2 } : arq_Arq), at29_1, ct29_1, t29.2.1) ⟨rfl, rfl, rfl, rfl, trivial⟩ ⟨HS, H, by omega⟩
   ·replace H := ite_f c22 H
    refine V.condF (sb (b_f c22)) (V.exit (At.thenExit (At.thenExit (At.blockExit ?_))))
    replace HS := HS.pk [0, 2] [1]
    cases H
    exact At.end0 rfl ⟨_, rfl, rfl, HS⟩
 ·replace H := ite_f c4 H
  refine V.condT (sb (n_f (decide_eq_false c4))) (V.ret (At.thenRet ?_))
  replace HS := arq_Arq.close trivial HS
  cases H
  exact At.ret0 rfl ⟨_, rfl, rfl, HS⟩
def arq_Arq_Send.f (k : Nat) (a0 : arq_Arq) (a1 : List Int) : Option (Int × arq_Arq) := (if (a1.length : Int) > a0.size then some (5, a0) else (if a0.state = 2 then ((backlog_Log_Add.f a0.log a1).bind fun t12 => (if t12.1 = 0 then ((arq_Arq_pump.f k ({ a0 with log := t12.2, sent := w64 (a0.sent + 1) } : arq_Arq)).bind fun t15 => some (0, t15)) else some (t12.1, ({ a0 with log := t12.2 } : arq_Arq)))) else some (7, a0)))
theorem arq_Arq_Send.calls {k : Nat} {a0 : arq_Arq} {a1 : List Int} {R : As} {w0 w : World} {b0 : Nat} {sa1 : Option Addr} {sc1 : Nat} {r : Int × arq_Arq} (H : arq_Arq_Send.f k a0 a1 = some r) (HS : Sep.St [arq_Arq.at b0 a0, R] w0 w) (hr1 : rdC R 1 (.slice sa1 a1.length sc1) a1.length (a1.map (Value.int .u8))) : Calls Try.prog 34 #[Value.pointer (some ⟨b0, 0, none⟩), Value.slice sa1 a1.length sc1] w (Ret fun u w => u = Value.int .i64 r.1 ∧ Sep.St [arq_Arq.at b0 r.2, R] w0 w) := by
 unfold arq_Arq_Send.f at H
 refine calls_enter Try.func34 rfl rfl ?_
 have H : _ = some r := H
 refine V.seq (V.region (W.as rfl (W.nx (V.seq (V.block (V.seq (V.region (W.mv rfl (W.r (X.lenSl Try.underlying39 rfl) rfl (W.mv rfl (W.nc rfl ?_)))))))))))
 obtain ⟨b8_2, b9_2, b10_2, a11_2, c11_2, d11_2, a12_2, c12_2, hi3, HS⟩ := arq_Arq.open HS
 refine W.fa fo82_3 rfl (W.ld 0 HS Try.underlying3 rfl rfl rfl rfl (W.r (X.cmp (decide ((a1.length : Int) > a0.size)) rfl rfl rfl rfl) rfl (W.as rfl (W.nx ?_))))
 by_cases c4 : (a1.length : Int) > a0.size
 ·replace H := ite_t c4 H
  refine V.condT (sb (decide_eq_true c4)) (V.seq (V.region (W.as rfl (W.nx (V.ret (At.blockRet (At.thenRet ?_)))))))
  replace HS := arq_Arq.close trivial HS
  cases H
  exact At.ret1 rfl rfl ⟨_, rfl, rfl, HS⟩
 ·replace H := ite_f c4 H
  refine V.condF (sb (decide_eq_false c4)) (V.seq (V.region (W.mv rfl (W.nc rfl (W.fa fo82_4 rfl (W.ld 0 HS Try.underlying3 rfl rfl rfl rfl (W.r (X.cmp (!(decide (a0.state = 2))) rfl rfl rfl rfl) rfl (W.as rfl (W.nx ?_)))))))))
  by_cases c5 : a0.state = 2
  ·replace H := ite_t c5 H
   refine V.condF (sb (n_t (decide_eq_true c5))) (V.skip (At.blockEnd (At.next (V.seq (V.seq (V.region (W.mv rfl (W.nc rfl (W.fa fo82_8 rfl (W.ld 0 HS Try.underlying74 rfl rfl rfl rfl (W.mv rfl ?_)))))))))))
   obtain ⟨t12, A13, H⟩ := bind_s H
   replace HS := HS.pm [1, 0, 2, 3, 4, 5, 6, 7]
   refine W.e (Y.cl Try.func69 (backlog_Log_Add.calls A13 HS.j1 (rdC.part 6 hr1 rfl))) rfl ?_
   rintro _ w ⟨rfl, HS⟩
   replace HS := HS.o1
   refine W.as rfl (W.nx (V.seq (V.region (W.mv rfl (W.r (X.cmp (!(decide (t12.1 = 0))) rfl rfl rfl rfl) rfl (W.nx ?_))))))
   by_cases c14 : t12.1 = 0
   ·replace H := ite_t c14 H
    refine V.condF (sb (n_t (decide_eq_true c14))) (V.skip (At.next (V.seq (V.region (W.mv rfl (W.nc rfl (W.fa fo82_13 rfl (W.ld 1 HS Try.underlying3 rfl rfl rfl rfl (W.r (X.add rfl rfl) rfl (W.nc rfl (W.fa fo82_13 rfl (W.st 1 13 HS inf3 rfl rfl rfl rfl rfl rfl fun w HS => ?_))))))))))))
    refine W.nx (V.seq (V.region (W.mv rfl ?_)))
    replace HS := HS.pm [1, 0, 2, 3, 4, 5, 6, 7]
    replace HS := arq_Arq.close trivial HS
    obtain ⟨t15, A16, H⟩ := bind_s H
    refine W.e (Y.cl Try.func70 (arq_Arq_pump.calls A16 HS.j1)) rfl ?_
    rintro _ w ⟨rfl, HS⟩
    replace HS := HS.o1
    refine W.nx (V.seq (V.region (W.as rfl (W.nx (V.ret ?_)))))
    cases H
    exact At.ret1 rfl rfl ⟨_, rfl, rfl, HS⟩
   ·replace H := ite_f c14 H
    refine V.condT (sb (n_f (decide_eq_false c14))) (V.seq (V.region (W.mv rfl (W.as rfl (W.nx (V.ret (At.thenRet ?_)))))))
    replace HS := HS.pm [1, 0, 2, 3, 4, 5, 6, 7]
    replace HS := arq_Arq.close trivial HS
    cases H
    exact At.ret1 rfl rfl ⟨_, rfl, rfl, HS⟩
  ·replace H := ite_f c5 H
   refine V.condT (sb (n_f (decide_eq_false c5))) (V.seq (V.region (W.as rfl (W.nx (V.ret (At.blockRet (At.thenRet ?_)))))))
   replace HS := arq_Arq.close trivial HS
   cases H
   exact At.ret1 rfl rfl ⟨_, rfl, rfl, HS⟩
mutual
def slices_Index_Sbytebyte.l0 : Nat → (List Int) → Int → Int → Option Int
 | 0, _, _, _ => none
 | k + 1, a0, a1, x1 => (if x1 < (a0.length : Int) then (if 0 ≤ x1 ∧ x1 < (a0.length : Int) then (if a1 = (a0.getD x1.toNat 0) then some x1 else (slices_Index_Sbytebyte.l0 k a0 a1 (w64 (x1 + 1)))) else none) else some (-1))
end
def slices_Index_Sbytebyte.f (k : Nat) (a0 : List Int) (a1 : Int) : Option Int := (slices_Index_Sbytebyte.l0 k a0 a1 0)
theorem slices_Index_Sbytebyte.calls {k : Nat} {a0 : List Int} {a1 : Int} {R : As} {w0 w : World} {sa0 : Option Addr} {sc0 : Nat} {r : Int} (H : slices_Index_Sbytebyte.f k a0 a1 = some r) (HS : Sep.St [R] w0 w) (hr0 : rdC R 1 (.slice sa0 a0.length sc0) a0.length (a0.map (Value.int .u8))) : Calls Try.prog 85 #[Value.slice sa0 a0.length sc0, Value.int .u8 a1] w (Ret fun u w => u = Value.int .i64 r ∧ Sep.St [R] w0 w) := by
 unfold slices_Index_Sbytebyte.f at H
 refine calls_enter Try.func85 rfl rfl ?_
 have H : _ = some r := H
 refine V.seq (V.region (W.as rfl (W.nx (V.seq (V.seq (V.region (W.mv rfl (W.r (X.lenSl Try.underlying39 rfl) rfl (W.mv rfl (W.nx (V.block (V.loop (σ := Int) (fun kq (st : Int) w => match st with | x1 => Sep.St [R] w0 w ∧ slices_Index_Sbytebyte.l0 kq a0 a1 x1 = some r ∧ kq ≤ k) (fun st => match st with | x1 => [(0, Value.slice sa0 a0.length sc0), (1, Value.int .u8 a1), (7, Value.int .i64 (a0.length : Int)), (8, Value.int .i64 x1)]) k (0) ⟨rfl, rfl, rfl, rfl, trivial⟩ ⟨HS, H, Nat.le_refl _⟩ ?_))))))))))))
 rintro kq2 x1 w ⟨HS, H, hk3⟩
 cases kq2 with
 | zero => exact absurd H (by simp [slices_Index_Sbytebyte.l0])
 | succ kq2 =>
  simp only [slices_Index_Sbytebyte.l0] at H
  refine V.seq (V.region (W.r (X.cmp (decide (x1 < (a0.length : Int))) rfl rfl rfl rfl) rfl (W.nx (V.seq ?_))))
  by_cases c4 : x1 < (a0.length : Int)
  ·replace H := ite_t c4 H
   refine V.condT (sb (decide_eq_true c4)) (V.skip (At.next (V.seq (V.block (V.seq (V.region (W.mv rfl (W.as rfl (W.nx (V.seq (V.region (W.mv rfl (W.mv rfl (W.mv rfl ?_))))))))))))))
   obtain ⟨c5, H⟩ := ite_n H
   obtain ⟨eb6, eo7, hh⟩ := (rdC.at 0 hr0 HS rfl).some (by decide) c5.1 c5.2; subst hh
   refine W.r (X.indexSl Try.underlying39 inf5 rfl rfl c5.1 c5.2) rfl (W.r (X.load Try.underlying5 rfl rfl ((rdC.at 0 hr0 HS rfl).cellI c5.1 c5.2)) rfl (W.r (X.cmp (decide (a1 = (a0.getD x1.toNat 0))) rfl rfl rfl rfl) rfl (W.nx ?_)))
   by_cases c8 : a1 = (a0.getD x1.toNat 0)
   ·replace H := ite_t c8 H
    refine V.condT (sb (decide_eq_true c8)) (V.seq (V.region (W.mv rfl (W.as rfl (W.nx (V.ret (At.blockRet (At.thenRet (At.thenRet (At.blockRet (At.thenRet ?_)))))))))))
    cases H
    exact At.ret1 rfl rfl ⟨_, rfl, rfl, HS⟩
   ·replace H := ite_f c8 H
    refine V.condF (sb (decide_eq_false c8)) (V.skip (At.blockEnd (At.next (V.region (W.r (X.add rfl rfl) rfl (W.mv rfl (W.nil ?_)))))))
    exact At.round kq2 (by omega) (w64 (x1 + 1)) ⟨rfl, rfl, rfl, rfl, trivial⟩ ⟨HS, H, by omega⟩
  ·replace H := ite_f c4 H
   refine V.condF (sb (decide_eq_false c4)) (V.exit (At.thenExit (At.thenExit (At.blockExit (At.next (V.seq (V.region (W.as rfl (W.nx (V.ret ?_))))))))))
   cases H
   exact At.ret1 rfl rfl ⟨_, rfl, rfl, HS⟩
mutual
def control_number.l0 : Nat → (List Int) → Int → Int → Option Int
 | 0, _, _, _ => none
 | k + 1, a0, x1, x2 => (if x2 < (a0.length : Int) then (if 0 ≤ x2 ∧ x2 < (a0.length : Int) then (if ¬ (w64 (8 * x2) < 0) then (control_number.l0 k a0 (ior .i64 x1 (w64 ((w64 (a0.getD x2.toNat 0)) * 2 ^ (min (w64 (8 * x2)).toNat IntKind.i64.bits)))) (w64 (x2 + 1))) else none) else none) else some x1)
end
def control_number.f (k : Nat) (a0 : List Int) : Option Int := (control_number.l0 k a0 0 0)
theorem control_number.calls {k : Nat} {a0 : List Int} {R : As} {w0 w : World} {sa0 : Option Addr} {sc0 : Nat} {r : Int} (H : control_number.f k a0 = some r) (HS : Sep.St [R] w0 w) (hr0 : rdC R 1 (.slice sa0 a0.length sc0) a0.length (a0.map (Value.int .u8))) : Calls Try.prog 88 #[Value.slice sa0 a0.length sc0] w (Ret fun u w => u = Value.int .i64 r ∧ Sep.St [R] w0 w) := by
 unfold control_number.f at H
 refine calls_enter Try.func88 rfl rfl ?_
 have H : _ = some r := H
 refine V.seq (V.region (W.as rfl (W.nx (V.seq (V.region (W.as rfl (W.nx (V.seq (V.seq (V.region (W.mv rfl (W.r (X.lenSl Try.underlying39 rfl) rfl (W.mv rfl (W.nx (V.block (V.loop (σ := Int × Int) (fun kq (st : Int × Int) w => match st with | (x1, x2) => Sep.St [R] w0 w ∧ control_number.l0 kq a0 x1 x2 = some r ∧ kq ≤ k) (fun st => match st with | (x1, x2) => [(3, Value.int .i64 x1), (6, Value.slice sa0 a0.length sc0), (7, Value.int .i64 (a0.length : Int)), (8, Value.int .i64 x2)]) k (0, 0) ⟨rfl, rfl, rfl, rfl, trivial⟩ ⟨HS, H, Nat.le_refl _⟩ ?_))))))))))))))))
 rintro kq3 ⟨x1, x2⟩ w ⟨HS, H, hk4⟩
 cases kq3 with
 | zero => exact absurd H (by simp [control_number.l0])
 | succ kq3 =>
  simp only [control_number.l0] at H
  refine V.seq (V.region (W.r (X.cmp (decide (x2 < (a0.length : Int))) rfl rfl rfl rfl) rfl (W.nx (V.seq ?_))))
  by_cases c5 : x2 < (a0.length : Int)
  ·replace H := ite_t c5 H
   refine V.condT (sb (decide_eq_true c5)) (V.skip (At.next (V.seq (V.block (V.seq (V.region (W.mv rfl ?_)))))))
   obtain ⟨c6, H⟩ := ite_n H
   obtain ⟨eb7, eo8, hh⟩ := (rdC.at 0 hr0 HS rfl).some (by decide) c6.1 c6.2; subst hh
   refine W.r (X.indexSl Try.underlying39 inf5 rfl rfl c6.1 c6.2) rfl (W.r (X.load Try.underlying5 rfl rfl ((rdC.at 0 hr0 HS rfl).cellI c6.1 c6.2)) rfl (W.as rfl (W.as rfl (W.nx (V.region (W.mv rfl (W.mv rfl (W.r (X.conv Try.underlying5 Try.underlying3 rfl) rfl (W.mv rfl (W.r (X.mul rfl rfl) rfl ?_))))))))))
   obtain ⟨c9, H⟩ := ite_n H
   refine W.r (X.shl rfl rfl c9) rfl (W.r (X.or rfl rfl) rfl (W.as rfl (W.nil (At.blockEnd (At.next (V.region (W.r (X.add rfl rfl) rfl (W.mv rfl (W.nil ?_)))))))))
   exact At.round kq3 (by omega) (ior .i64 x1 (w64 ((w64 (a0.getD x2.toNat 0)) * 2 ^ (min (w64 (8 * x2)).toNat IntKind.i64.bits))), w64 (x2 + 1)) ⟨rfl, rfl, rfl, rfl, trivial⟩ ⟨HS, H, by omega⟩
  ·replace H := ite_f c5 H
   refine V.condF (sb (decide_eq_false c5)) (V.exit (At.thenExit (At.thenExit (At.blockExit (At.next (V.seq (V.region (W.mv rfl (W.as rfl (W.nx (V.ret ?_)))))))))))
   cases H
   exact At.ret1 rfl rfl ⟨_, rfl, rfl, HS⟩
mutual
def control_Read.j0 (k : Nat) (a0 : List Int) (a1 : Int) (x20 : api_Ctl) : Option (api_Ctl × Int × Int) := ((control_put.f ([] : List Int) 0 a1).bind fun t22 => (if (a0.length : Int) < (w64 (2 * (t22.length : Int))) then some (({ Kind := 0, Ns := 0, Nr := 0, Poll := false } : api_Ctl), 0, 3) else (if 0 ≤ (0 : Int) ∧ (0 : Int) ≤ (t22.length : Int) ∧ (t22.length : Int) ≤ (a0.length : Int) then (if 0 ≤ (t22.length : Int) ∧ (t22.length : Int) ≤ w64 (2 * (t22.length : Int)) ∧ w64 (2 * (t22.length : Int)) ≤ (a0.length : Int) then ((control_number.f k (cut a0 (0 : Int) (t22.length : Int))).bind fun t31 => ((control_number.f k (cut a0 (t22.length : Int) (w64 (2 * (t22.length : Int))))).bind fun t33 => (if x20.Kind = 0 then some (({ Kind := x20.Kind, Ns := w64 (t31.tdiv (2)), Nr := w64 (t33.tdiv (2)), Poll := decide ((iand .i64 t33 (1)) = 1) } : api_Ctl), w64 (2 * (t22.length : Int)), 0) else (if t31 = (w64 (a0.getD (0 : Int).toNat 0)) then some (({ Kind := x20.Kind, Ns := x20.Ns, Nr := w64 (t33.tdiv (2)), Poll := decide ((iand .i64 t33 (1)) = 1) } : api_Ctl), w64 (2 * (t22.length : Int)), 0) else some (({ Kind := 0, Ns := 0, Nr := 0, Poll := false } : api_Ctl), 0, 2))))) else none) else none)))
end
def control_Read.f (k : Nat) (a0 : List Int) (a1 : Int) : Option (api_Ctl × Int × Int) := ((control_modulus.f a1).bind fun t3 => (if t3 = true then (if (a0.length : Int) = 0 then some (({ Kind := 0, Ns := 0, Nr := 0, Poll := false } : api_Ctl), 0, 3) else (if 0 ≤ (0 : Int) ∧ (0 : Int) < (a0.length : Int) then ((control_plain.f ).bind fun t11 => ((slices_Index_Sbytebyte.f k t11 (iandn .u8 (a0.getD (0 : Int).toNat 0) (16))).bind fun t13 => (if t13 ≥ 0 then some (({ Kind := w64 (3 + t13), Ns := 0, Nr := 0, Poll := !(decide ((iand .u8 (a0.getD (0 : Int).toNat 0) (16)) = 0)) } : api_Ctl), 1, 0) else (if (a0.getD (0 : Int).toNat 0) = 1 then (control_Read.j0 k a0 a1 ({ Kind := 1, Ns := 0, Nr := 0, Poll := false } : api_Ctl)) else (if (a0.getD (0 : Int).toNat 0) = 9 then (control_Read.j0 k a0 a1 ({ Kind := 2, Ns := 0, Nr := 0, Poll := false } : api_Ctl)) else (if (iand .u8 (a0.getD (0 : Int).toNat 0) (1)) = 1 then some (({ Kind := 0, Ns := 0, Nr := 0, Poll := false } : api_Ctl), 0, 2) else (control_Read.j0 k a0 a1 ({ Kind := 0, Ns := 0, Nr := 0, Poll := false } : api_Ctl)))))))) else none)) else some (({ Kind := 0, Ns := 0, Nr := 0, Poll := false } : api_Ctl), 0, 1)))
theorem control_Read.calls {k : Nat} {a0 : List Int} {a1 : Int} {R : As} {w0 w : World} {sa0 : Option Addr} {sc0 : Nat} {r : api_Ctl × Int × Int} (H : control_Read.f k a0 a1 = some r) (HS : Sep.St [R] w0 w) (hr0 : rdC R 1 (.slice sa0 a0.length sc0) a0.length (a0.map (Value.int .u8))) : Calls Try.prog 52 #[Value.slice sa0 a0.length sc0, Value.int .i64 a1] w (Ret fun u w => u = Value.tuple #[Value.agg #[Value.int .i64 r.1.Kind, Value.int .i64 r.1.Ns, Value.int .i64 r.1.Nr, Value.bool r.1.Poll], Value.int .i64 r.2.1, Value.int .i64 r.2.2] ∧ Sep.St [R] w0 w) := by
 unfold control_Read.f at H
 refine calls_enter Try.func52 rfl rfl ?_
 have H : _ = some r := H
 refine V.seq (V.region (W.e (Y.alloc (z := Value.agg (#[Value.int .i64 (0), Value.int .i64 (0), Value.int .i64 (0), Value.bool false])) HS ze42) rfl ?_))
 rintro _ w ⟨nb1, rfl, HS⟩
 refine W.as rfl (W.as rfl (W.nx (V.seq (V.seq (V.region (W.mv rfl ?_))))))
 obtain ⟨t3, A4, H⟩ := bind_s H
 refine W.e (Y.cl Try.func84 (control_modulus.calls A4 HS.j0)) rfl ?_
 rintro _ w ⟨rfl, HS⟩
 replace HS := HS.o0
 refine W.r (X.not rfl) rfl (W.nx ?_)
 by_cases c5 : t3 = true
 ·replace H := ite_t c5 H
  refine V.condF (sb (n_t c5)) (V.skip (At.next (V.seq (V.seq (V.region (W.mv rfl (W.r (X.lenSl Try.underlying39 rfl) rfl (W.r (X.cmp (decide ((a0.length : Int) = 0)) rfl rfl rfl rfl) rfl (W.nx ?_)))))))))
  by_cases c6 : (a0.length : Int) = 0
  ·replace H := ite_t c6 H
   refine V.condT (sb (decide_eq_true c6)) (V.seq (V.region (W.r (X.bd (Value.agg #[Value.int .i64 (0), Value.int .i64 (0), Value.int .i64 (0), Value.bool false]) rfl (fun _ => by kernel_rfl)) rfl (W.en (Y.storeSt (c' := #[Value.int .i64 (0), Value.int .i64 (0), Value.int .i64 (0), Value.bool false]) 0 [Value.int .i64 (0), Value.int .i64 (0), Value.int .i64 (0), Value.bool false] HS rfl inf42 rfl rfl rfl rfl rfl rfl) rfl ?_))))
   rintro _ w HS
   refine W.as rfl (W.as rfl (W.nx (V.ret (At.thenRet ?_))))
   have hv7 := run_loadSt (P := Try.prog) (p := 0) 0 [Value.int .i64 (0), Value.int .i64 (0), Value.int .i64 (0), Value.bool false] HS rfl Try.underlying42 rfl inf42 rfl
   replace HS := HS.pk [1] [0]
   cases H
   exact At.retv3 rfl ⟨_, rfl, hv7⟩ rfl rfl ⟨_, rfl, rfl, HS⟩
  ·replace H := ite_f c6 H
   refine V.condF (sb (decide_eq_false c6)) (V.skip (At.next (V.seq (V.seq ?_))))
   obtain ⟨c8, H⟩ := ite_n H
   obtain ⟨eb9, eo10, hh⟩ := (rdC.at 1 hr0 HS rfl).some (by decide) c8.1 c8.2; subst hh
   refine V.dr [0, 5] [6] [(21, Value.slice (some ⟨eb9, eo10, none⟩) a0.length sc0), (22, Value.pointer (some ⟨eb9, eo10 + (0 : Int).toNat * 1, none⟩)), (23, Value.int .u8 (a0.getD (0 : Int).toNat 0)), (24, Value.int .u8 (iandn .u8 (a0.getD (0 : Int).toNat 0) (16)))] mo HS ?_
   refine T.ev [] [6] [] trivial ⟨.mv 0, .n1 21 rfl rfl (fun w HS => X.indexSl Try.underlying39 inf5 rfl rfl c8.1 c8.2), .n1 22 rfl rfl (fun w HS => X.load Try.underlying5 rfl rfl ((rdC.at 1 hr0 HS rfl).cellI c8.1 c8.2)), .n1 23 rfl rfl (fun w HS => X.andNot rfl rfl), trivial⟩ rfl (fun w HS => ?_)
   obtain ⟨t11, A12, H⟩ := bind_s H
   refine ⟨_, Y.cl Try.func86 (control_plain.calls A12 HS.j0), ?_⟩
   rintro _ w ⟨at11_0, ct11_0, rfl, HS⟩
   replace HS := HS.o1
   refine T.nw HS ?_
   refine T.ev [(20, _), (24, _)] [] [1, 2, 3, 4] ⟨rfl, rfl, trivial⟩ ⟨.mv 0, .n1 21 rfl rfl (fun w HS => X.indexSl Try.underlying39 inf5 rfl rfl c8.1 c8.2), .n1 22 rfl rfl (fun w HS => X.load Try.underlying5 rfl rfl ((rdC.at 2 hr0 HS rfl).cellI c8.1 c8.2)), .n1 23 rfl rfl (fun w HS => X.andNot rfl rfl), trivial⟩ rfl (fun w HS => ?_)
   obtain ⟨t13, A14, H⟩ := bind_s H
   refine ⟨_, Y.cl Try.func85 (slices_Index_Sbytebyte.calls A14 HS.j0 (rdC.part 0 row_rd rfl)), ?_⟩
   rintro _ w ⟨rfl, HS⟩
   replace HS := HS.o0
   refine T.nm [(25, Value.int .i64 t13), (7, Value.int .i64 t13)] HS ⟨.inl ⟨rfl, rfl⟩, ⟨.inr ⟨by decide, rfl⟩, trivial⟩⟩ ?_
   refine T.fn [(0, _), (1, _), (4, _), (7, _)] ⟨rfl, rfl, rfl, rfl, trivial⟩ ⟨.as 25, trivial⟩ (fun w HS => ?_)
   refine At.next (V.seq (V.region (W.mv rfl (W.r (X.cmp (decide (t13 ≥ 0)) rfl rfl rfl rfl) rfl (W.nx ?_)))))
   by_cases c15 : t13 ≥ 0
   ·replace H := ite_t c15 H
    refine V.condT (sb (decide_eq_true c15)) (V.seq (V.region (W.mv rfl (W.r (X.add rfl rfl) rfl (W.mv rfl (W.r (X.indexSl Try.underlying39 inf5 rfl rfl c8.1 c8.2) rfl (W.r (X.load Try.underlying5 rfl rfl ((rdC.at 2 hr0 HS rfl).cellI c8.1 c8.2)) rfl (W.r (X.and rfl rfl) rfl (W.r (X.cmp (!(decide ((iand .u8 (a0.getD (0 : Int).toNat 0) (16)) = 0))) rfl rfl rfl rfl) rfl (W.r (X.bd (Value.agg #[Value.int .i64 (w64 (3 + t13)), Value.int .i64 (0), Value.int .i64 (0), Value.bool (!(decide ((iand .u8 (a0.getD (0 : Int).toNat 0) (16)) = 0)))]) rfl (fun _ => by kernel_rfl)) rfl (W.en (Y.storeSt (c' := #[Value.int .i64 (w64 (3 + t13)), Value.int .i64 (0), Value.int .i64 (0), Value.bool (!(decide ((iand .u8 (a0.getD (0 : Int).toNat 0) (16)) = 0)))]) 1 [Value.int .i64 (w64 (3 + t13)), Value.int .i64 (0), Value.int .i64 (0), Value.bool (!(decide ((iand .u8 (a0.getD (0 : Int).toNat 0) (16)) = 0)))] HS rfl inf42 rfl rfl rfl rfl rfl rfl) rfl ?_)))))))))))
    rintro _ w HS
    refine W.as rfl (W.as rfl (W.nx (V.ret (At.thenRet ?_))))
    have hv16 := run_loadSt (P := Try.prog) (p := 0) 1 [Value.int .i64 (w64 (3 + t13)), Value.int .i64 (0), Value.int .i64 (0), Value.bool (!(decide ((iand .u8 (a0.getD (0 : Int).toNat 0) (16)) = 0)))] HS rfl Try.underlying42 rfl inf42 rfl
    replace HS := HS.pk [2] [0, 1]
    cases H
    exact At.retv3 rfl ⟨_, rfl, hv16⟩ rfl rfl ⟨_, rfl, rfl, HS⟩
   ·replace H := ite_f c15 H
    refine V.condF (sb (decide_eq_false c15)) (V.skip (At.next (V.seq (V.region (W.r (X.bd (Value.agg #[Value.int .i64 (0), Value.int .i64 (0), Value.int .i64 (0), Value.bool false]) rfl (fun _ => by kernel_rfl)) rfl (W.e (Y.alloc (z := Value.agg (#[Value.int .i64 (0), Value.int .i64 (0), Value.int .i64 (0), Value.bool false])) HS ze42) rfl ?_))))))
    rintro _ w ⟨nb17, rfl, HS⟩
    refine W.en (Y.storeSt (c' := #[Value.int .i64 (0), Value.int .i64 (0), Value.int .i64 (0), Value.bool false]) 0 [Value.int .i64 (0), Value.int .i64 (0), Value.int .i64 (0), Value.bool false] HS rfl inf42 rfl rfl rfl rfl rfl rfl) rfl ?_
    rintro _ w HS
    refine W.nx (V.meet (σ := api_Ctl) (fun st w => match st with | x20 => Sep.St [api_Ctl.at nb1 ({ Kind := 0, Ns := 0, Nr := 0, Poll := false } : api_Ctl), api_Ctl.at nb17 x20, row 5 1 (.slice at11_0 t11.length ct11_0) t11.length (t11.map (Value.int .u8)), R] w0 w ∧ ∃ kf21, kf21 ≤ k ∧ control_Read.j0 kf21 a0 a1 x20 = some r) (fun st => match st with | x20 => [(0, Value.slice (some ⟨eb9, eo10, none⟩) a0.length sc0), (1, Value.int .i64 a1), (4, Value.pointer (some ⟨nb1, 0, none⟩)), (8, Value.pointer (some ⟨nb17, 0, none⟩))]) ?_ ?_)
    ·refine V.block (V.seq (V.region (W.mv rfl (W.r (X.indexSl Try.underlying39 inf5 rfl rfl c8.1 c8.2) rfl (W.r (X.load Try.underlying5 rfl rfl ((rdC.at 3 hr0 HS rfl).cellI c8.1 c8.2)) rfl (W.r (X.cmp (decide ((a0.getD (0 : Int).toNat 0) = 1)) rfl rfl rfl rfl) rfl (W.as rfl (W.nx ?_))))))))
     by_cases c48 : (a0.getD (0 : Int).toNat 0) = 1
     ·replace H := ite_t c48 H
      refine V.condT (sb (decide_eq_true c48)) (V.region (W.fa fo42_0 rfl (W.st 0 0 HS inf3 rfl rfl rfl rfl rfl rfl fun w HS => ?_)))
      refine W.nil (At.blockEnd ?_)
      replace HS := HS.pm [2, 0, 1, 3]
      replace HS := api_Ctl.close trivial HS
      replace HS := HS.pm [1, 0, 2, 3]
      replace HS := api_Ctl.close trivial HS
      replace HS := HS.pk [1, 0, 2, 3] []
      exact At.meet ({ Kind := 1, Ns := 0, Nr := 0, Poll := false } : api_Ctl) ⟨rfl, rfl, rfl, rfl, trivial⟩ ⟨HS, k, by omega, H⟩
     ·replace H := ite_f c48 H
      refine V.condF (sb (decide_eq_false c48)) (V.seq (V.region (W.mv rfl (W.r (X.indexSl Try.underlying39 inf5 rfl rfl c8.1 c8.2) rfl (W.r (X.load Try.underlying5 rfl rfl ((rdC.at 3 hr0 HS rfl).cellI c8.1 c8.2)) rfl (W.r (X.cmp (decide ((a0.getD (0 : Int).toNat 0) = 9)) rfl rfl rfl rfl) rfl (W.as rfl (W.nx ?_))))))))
      by_cases c49 : (a0.getD (0 : Int).toNat 0) = 9
      ·replace H := ite_t c49 H
       refine V.condT (sb (decide_eq_true c49)) (V.region (W.fa fo42_0 rfl (W.st 0 0 HS inf3 rfl rfl rfl rfl rfl rfl fun w HS => ?_)))
       refine W.nil (At.blockEnd ?_)
       replace HS := HS.pm [2, 0, 1, 3]
       replace HS := api_Ctl.close trivial HS
       replace HS := HS.pm [1, 0, 2, 3]
       replace HS := api_Ctl.close trivial HS
       replace HS := HS.pk [1, 0, 2, 3] []
       exact At.meet ({ Kind := 2, Ns := 0, Nr := 0, Poll := false } : api_Ctl) ⟨rfl, rfl, rfl, rfl, trivial⟩ ⟨HS, k, by omega, H⟩
      ·replace H := ite_f c49 H
       refine V.condF (sb (decide_eq_false c49)) (V.seq (V.region (W.mv rfl (W.r (X.indexSl Try.underlying39 inf5 rfl rfl c8.1 c8.2) rfl (W.r (X.load Try.underlying5 rfl rfl ((rdC.at 3 hr0 HS rfl).cellI c8.1 c8.2)) rfl (W.r (X.and rfl rfl) rfl (W.r (X.cmp (decide ((iand .u8 (a0.getD (0 : Int).toNat 0) (1)) = 1)) rfl rfl rfl rfl) rfl (W.as rfl (W.nx ?_)))))))))
       by_cases c50 : (iand .u8 (a0.getD (0 : Int).toNat 0) (1)) = 1
       ·replace H := ite_t c50 H
        refine V.condT (sb (decide_eq_true c50)) (V.seq (V.region (W.r (X.bd (Value.agg #[Value.int .i64 (0), Value.int .i64 (0), Value.int .i64 (0), Value.bool false]) rfl (fun _ => by kernel_rfl)) rfl (W.en (Y.storeSt (c' := #[Value.int .i64 (0), Value.int .i64 (0), Value.int .i64 (0), Value.bool false]) 2 [Value.int .i64 (0), Value.int .i64 (0), Value.int .i64 (0), Value.bool false] HS rfl inf42 rfl rfl rfl rfl rfl rfl) rfl ?_))))
        rintro _ w HS
        refine W.as rfl (W.as rfl (W.nx (V.ret (At.blockRet (At.thenRet ?_)))))
        have hv51 := run_loadSt (P := Try.prog) (p := 0) 2 [Value.int .i64 (0), Value.int .i64 (0), Value.int .i64 (0), Value.bool false] HS rfl Try.underlying42 rfl inf42 rfl
        replace HS := HS.pk [3] [0, 1, 2]
        cases H
        exact At.retv3 rfl ⟨_, rfl, hv51⟩ rfl rfl ⟨_, rfl, rfl, HS⟩
       ·replace H := ite_f c50 H
        refine V.condF (sb (decide_eq_false c50)) (V.skip (At.blockEnd ?_))
        replace HS := HS.pm [2, 0, 1, 3]
        replace HS := api_Ctl.close trivial HS
        replace HS := HS.pm [1, 0, 2, 3]
        replace HS := api_Ctl.close trivial HS
        replace HS := HS.pk [1, 0, 2, 3] []
        exact At.meet ({ Kind := 0, Ns := 0, Nr := 0, Poll := false } : api_Ctl) ⟨rfl, rfl, rfl, rfl, trivial⟩ ⟨HS, k, by omega, H⟩
    ·rintro x20 w ⟨HS, kf21, hkkf21, H⟩
     unfold control_Read.j0 at H
     refine V.seq (V.region (W.mv rfl ?_))
     replace HS := row_nilF (Value.int .u8) 5 1 HS
     obtain ⟨t22, A23, H⟩ := bind_s H
     refine W.e (Y.cl Try.func87 (control_put.calls A23 HS.j1)) rfl ?_
     rintro _ w ⟨at22_0, ct22_0, rfl, HS⟩
     replace HS := HS.o1
     refine W.r (X.lenSl Try.underlying39 rfl) rfl (W.as rfl (W.nx (V.seq (V.seq (V.region (W.mv rfl (W.r (X.lenSl Try.underlying39 rfl) rfl (W.mv rfl (W.r (X.mul rfl rfl) rfl (W.r (X.cmp (decide ((a0.length : Int) < (w64 (2 * (t22.length : Int))))) rfl rfl rfl rfl) rfl (W.nx ?_)))))))))))
     by_cases c25 : (a0.length : Int) < (w64 (2 * (t22.length : Int)))
     ·replace H := ite_t c25 H
      refine V.condT (sb (decide_eq_true c25)) (V.seq (V.region (W.r (X.bd (Value.agg #[Value.int .i64 (0), Value.int .i64 (0), Value.int .i64 (0), Value.bool false]) rfl (fun _ => by kernel_rfl)) rfl ?_)))
      replace HS := HS.fr 1
      obtain ⟨hi27, HS⟩ := api_Ctl.open HS
      refine W.en (Y.storeSt (c' := #[Value.int .i64 (0), Value.int .i64 (0), Value.int .i64 (0), Value.bool false]) 0 [Value.int .i64 (0), Value.int .i64 (0), Value.int .i64 (0), Value.bool false] HS rfl inf42 rfl rfl rfl rfl rfl rfl) rfl ?_
      rintro _ w HS
      refine W.as rfl (W.as rfl (W.nx (V.ret (At.thenRet ?_))))
      have hv28 := run_loadSt (P := Try.prog) (p := 0) 0 [Value.int .i64 (0), Value.int .i64 (0), Value.int .i64 (0), Value.bool false] HS rfl Try.underlying42 rfl inf42 rfl
      replace HS := HS.pk [4] [0, 1, 2, 3]
      cases H
      exact At.retv3 rfl ⟨_, rfl, hv28⟩ rfl rfl ⟨_, rfl, rfl, HS⟩
     ·replace H := ite_f c25 H
      refine V.condF (sb (decide_eq_false c25)) (V.skip (At.next (V.seq ?_)))
      obtain ⟨c29, H⟩ := ite_n H
      obtain ⟨c30, H⟩ := ite_n H
      refine V.dr [3, 9] [10, 11] [(65, Value.slice (some ⟨eb9, eo10, none⟩) a0.length sc0), (66, Value.int .i64 (t22.length : Int)), (67, Value.slice (vaddr (some ⟨eb9, eo10, none⟩) sc0 (0 : Int).toNat 1) (cut a0 (0 : Int) (t22.length : Int)).length (sc0 - (0 : Int).toNat)), (69, Value.slice (some ⟨eb9, eo10, none⟩) a0.length sc0), (70, Value.int .i64 (t22.length : Int)), (71, Value.int .i64 (t22.length : Int)), (72, Value.int .i64 (w64 (2 * (t22.length : Int)))), (73, Value.slice (vaddr (some ⟨eb9, eo10, none⟩) sc0 (t22.length : Int).toNat 1) (cut a0 (t22.length : Int) (w64 (2 * (t22.length : Int)))).length (sc0 - (t22.length : Int).toNat))] mo HS ?_
      refine T.ev [(67, _)] [10, 11] [0, 1, 2] ⟨rfl, trivial⟩ ⟨.mv 0, .mv 9, .n2 65 66 rfl rfl rfl (fun w HS => X.slH Try.underlying39 inf5 rfl rfl c29 (rdC.at 4 hr0 HS rfl).cap), .mv 0, .mv 9, .mv 9, .n1 71 rfl rfl (fun w HS => X.mul rfl rfl), .ns [(69, _), (70, _), (72, _)] ⟨rfl, rfl, rfl, trivial⟩ rfl (fun w HS => X.slLH Try.underlying39 inf5 rfl rfl rfl c30 (rdC.at 4 hr0 HS rfl).cap), trivial⟩ rfl (fun w HS => ?_)
      obtain ⟨t31, A32, H⟩ := bind_s H
      refine ⟨_, Y.cl Try.func88 (control_number.calls A32 HS.j0 (rdC.part 4 (rdC.subM hr0 c29) rfl)), ?_⟩
      rintro _ w ⟨rfl, HS⟩
      replace HS := HS.o0
      refine T.nw HS ?_
      refine T.ev [(73, _)] [] [4, 5, 6, 7, 8] ⟨rfl, trivial⟩ ⟨.mv 0, .mv 9, .mv 9, .n1 71 rfl rfl (fun w HS => X.mul rfl rfl), .ns [(69, _), (70, _), (72, _)] ⟨rfl, rfl, rfl, trivial⟩ rfl (fun w HS => X.slLH Try.underlying39 inf5 rfl rfl rfl c30 (rdC.at 4 hr0 HS rfl).cap), trivial⟩ rfl (fun w HS => ?_)
      obtain ⟨t33, A34, H⟩ := bind_s H
      refine ⟨_, Y.cl Try.func88 (control_number.calls A34 HS.j0 (rdC.part 4 (rdC.subM hr0 c30) rfl)), ?_⟩
      rintro _ w ⟨rfl, HS⟩
      replace HS := HS.o0
      refine T.nm [(74, Value.int .i64 t33), (10, Value.int .i64 t31), (11, Value.int .i64 t33)] HS ⟨.inl ⟨rfl, rfl⟩, ⟨.inr ⟨by decide, rfl⟩, ⟨.inr ⟨by decide, rfl⟩, trivial⟩⟩⟩ ?_
      refine T.fn [(0, _), (4, _), (8, _), (9, _), (10, _), (11, _)] ⟨rfl, rfl, rfl, rfl, rfl, rfl, trivial⟩ ⟨.as 68, .as 74, trivial⟩ (fun w HS => ?_)
      refine At.next (V.seq (V.seq (V.region ?_)))
      replace HS := HS.fr 2
      obtain ⟨hi36, HS⟩ := api_Ctl.open HS
      refine W.fa fo42_0 rfl (W.ld 0 HS Try.underlying3 rfl rfl rfl rfl (W.r (X.cmp (decide (x20.Kind = 0)) rfl rfl rfl rfl) rfl (W.nx ?_)))
      by_cases c37 : x20.Kind = 0
      ·replace H := ite_t c37 H
       refine V.condT (sb (decide_eq_true c37)) (V.region (W.mv rfl (W.r (X.quo rfl rfl (by decide)) rfl (W.fa fo42_1 rfl (W.st 0 1 HS inf3 rfl rfl rfl rfl rfl rfl fun w HS => ?_)))))
       refine W.nx (V.seq (V.region (W.mv rfl (W.r (X.quo rfl rfl (by decide)) rfl (W.mv rfl (W.r (X.and rfl rfl) rfl (W.r (X.cmp (decide ((iand .i64 t33 (1)) = 1)) rfl rfl rfl rfl) rfl (W.fa fo42_2 rfl (W.st 0 2 HS inf3 rfl rfl rfl rfl rfl rfl fun w HS => ?_)))))))))
       refine W.fa fo42_3 rfl (W.st 0 3 HS inf4 rfl rfl rfl rfl rfl rfl fun w HS => ?_)
       refine W.nx (V.seq (V.region (W.r (X.loadSt 0 [Value.int .i64 x20.Kind, Value.int .i64 (w64 (t31.tdiv (2))), Value.int .i64 (w64 (t33.tdiv (2))), Value.bool (decide ((iand .i64 t33 (1)) = 1))] HS rfl Try.underlying42 rfl inf42 rfl rfl) rfl (W.mv rfl (W.r (X.mul rfl rfl) rfl ?_)))))
       replace HS := HS.fr 2
       obtain ⟨hi39, HS⟩ := api_Ctl.open HS
       refine W.en (Y.storeSt (c' := #[Value.int .i64 x20.Kind, Value.int .i64 (w64 (t31.tdiv (2))), Value.int .i64 (w64 (t33.tdiv (2))), Value.bool (decide ((iand .i64 t33 (1)) = 1))]) 0 [Value.int .i64 x20.Kind, Value.int .i64 (w64 (t31.tdiv (2))), Value.int .i64 (w64 (t33.tdiv (2))), Value.bool (decide ((iand .i64 t33 (1)) = 1))] HS rfl inf42 rfl rfl rfl rfl rfl rfl) rfl ?_
       rintro _ w HS
       refine W.as rfl (W.as rfl (W.nx (V.ret ?_)))
       have hv40 := run_loadSt (P := Try.prog) (p := 0) 0 [Value.int .i64 x20.Kind, Value.int .i64 (w64 (t31.tdiv (2))), Value.int .i64 (w64 (t33.tdiv (2))), Value.bool (decide ((iand .i64 t33 (1)) = 1))] HS rfl Try.underlying42 rfl inf42 rfl
       replace HS := HS.pk [4] [0, 1, 2, 3]
       cases H
       exact At.retv3 rfl ⟨_, rfl, hv40⟩ rfl rfl ⟨_, rfl, rfl, HS⟩
      ·replace H := ite_f c37 H
       refine V.condF (sb (decide_eq_false c37)) (V.seq (V.region (W.mv rfl (W.mv rfl (W.r (X.indexSl Try.underlying39 inf5 rfl rfl c8.1 c8.2) rfl (W.r (X.load Try.underlying5 rfl rfl ((rdC.at 4 hr0 HS rfl).cellI c8.1 c8.2)) rfl (W.r (X.conv Try.underlying5 Try.underlying3 rfl) rfl (W.r (X.cmp (!(decide (t31 = (w64 (a0.getD (0 : Int).toNat 0))))) rfl rfl rfl rfl) rfl (W.nx ?_)))))))))
       by_cases c41 : t31 = (w64 (a0.getD (0 : Int).toNat 0))
       ·replace H := ite_t c41 H
        refine V.condF (sb (n_t (decide_eq_true c41))) (V.skip (At.next (V.seq (V.region (W.mv rfl (W.r (X.quo rfl rfl (by decide)) rfl (W.mv rfl (W.r (X.and rfl rfl) rfl (W.r (X.cmp (decide ((iand .i64 t33 (1)) = 1)) rfl rfl rfl rfl) rfl (W.fa fo42_2 rfl (W.st 0 2 HS inf3 rfl rfl rfl rfl rfl rfl fun w HS => ?_)))))))))))
        refine W.fa fo42_3 rfl (W.st 0 3 HS inf4 rfl rfl rfl rfl rfl rfl fun w HS => ?_)
        refine W.nx (V.seq (V.region (W.r (X.loadSt 0 [Value.int .i64 x20.Kind, Value.int .i64 x20.Ns, Value.int .i64 (w64 (t33.tdiv (2))), Value.bool (decide ((iand .i64 t33 (1)) = 1))] HS rfl Try.underlying42 rfl inf42 rfl rfl) rfl (W.mv rfl (W.r (X.mul rfl rfl) rfl ?_)))))
        replace HS := HS.fr 2
        obtain ⟨hi43, HS⟩ := api_Ctl.open HS
        refine W.en (Y.storeSt (c' := #[Value.int .i64 x20.Kind, Value.int .i64 x20.Ns, Value.int .i64 (w64 (t33.tdiv (2))), Value.bool (decide ((iand .i64 t33 (1)) = 1))]) 0 [Value.int .i64 x20.Kind, Value.int .i64 x20.Ns, Value.int .i64 (w64 (t33.tdiv (2))), Value.bool (decide ((iand .i64 t33 (1)) = 1))] HS rfl inf42 rfl rfl rfl rfl rfl rfl) rfl ?_
        rintro _ w HS
        refine W.as rfl (W.as rfl (W.nx (V.ret ?_)))
        have hv44 := run_loadSt (P := Try.prog) (p := 0) 0 [Value.int .i64 x20.Kind, Value.int .i64 x20.Ns, Value.int .i64 (w64 (t33.tdiv (2))), Value.bool (decide ((iand .i64 t33 (1)) = 1))] HS rfl Try.underlying42 rfl inf42 rfl
        replace HS := HS.pk [4] [0, 1, 2, 3]
        cases H
        exact At.retv3 rfl ⟨_, rfl, hv44⟩ rfl rfl ⟨_, rfl, rfl, HS⟩
       ·replace H := ite_f c41 H
        refine V.condT (sb (n_f (decide_eq_false c41))) (V.seq (V.region (W.r (X.bd (Value.agg #[Value.int .i64 (0), Value.int .i64 (0), Value.int .i64 (0), Value.bool false]) rfl (fun _ => by kernel_rfl)) rfl ?_)))
        replace HS := HS.fr 2
        obtain ⟨hi46, HS⟩ := api_Ctl.open HS
        refine W.en (Y.storeSt (c' := #[Value.int .i64 (0), Value.int .i64 (0), Value.int .i64 (0), Value.bool false]) 0 [Value.int .i64 (0), Value.int .i64 (0), Value.int .i64 (0), Value.bool false] HS rfl inf42 rfl rfl rfl rfl rfl rfl) rfl ?_
        rintro _ w HS
        refine W.as rfl (W.as rfl (W.nx (V.ret (At.thenRet ?_))))
        have hv47 := run_loadSt (P := Try.prog) (p := 0) 0 [Value.int .i64 (0), Value.int .i64 (0), Value.int .i64 (0), Value.bool false] HS rfl Try.underlying42 rfl inf42 rfl
        replace HS := HS.pk [4] [0, 1, 2, 3]
        cases H
        exact At.retv3 rfl ⟨_, rfl, hv47⟩ rfl rfl ⟨_, rfl, rfl, HS⟩
 ·replace H := ite_f c5 H
  refine V.condT (sb (n_f (b_f c5))) (V.seq (V.region (W.r (X.bd (Value.agg #[Value.int .i64 (0), Value.int .i64 (0), Value.int .i64 (0), Value.bool false]) rfl (fun _ => by kernel_rfl)) rfl (W.en (Y.storeSt (c' := #[Value.int .i64 (0), Value.int .i64 (0), Value.int .i64 (0), Value.bool false]) 0 [Value.int .i64 (0), Value.int .i64 (0), Value.int .i64 (0), Value.bool false] HS rfl inf42 rfl rfl rfl rfl rfl rfl) rfl ?_))))
  rintro _ w HS
  refine W.as rfl (W.as rfl (W.nx (V.ret (At.thenRet ?_))))
  have hv52 := run_loadSt (P := Try.prog) (p := 0) 0 [Value.int .i64 (0), Value.int .i64 (0), Value.int .i64 (0), Value.bool false] HS rfl Try.underlying42 rfl inf42 rfl
  replace HS := HS.pk [1] [0]
  cases H
  exact At.retv3 rfl ⟨_, rfl, hv52⟩ rfl rfl ⟨_, rfl, rfl, HS⟩
def serial_Dist.f (a0 : Int) (a1 : Int) (a2 : Int) : Option Int := ((serial_round.f a0 a2).bind fun t1 => ((serial_round.f a1 a2).bind fun t3 => ((serial_round.f (w64 (t3.1 - t1.1)) t3.2).bind fun t5 => some t5.1)))
theorem serial_Dist.calls {a0 : Int} {a1 : Int} {a2 : Int} {R : As} {w0 w : World}  {r : Int} (H : serial_Dist.f a0 a1 a2 = some r) (HS : Sep.St [R] w0 w)  : Calls Try.prog 100 #[Value.int .i64 a0, Value.int .i64 a1, Value.int .i64 a2] w (Ret fun u w => u = Value.int .i64 r ∧ Sep.St [R] w0 w) := by
 unfold serial_Dist.f at H
 refine calls_enter Try.func100 rfl rfl ?_
 have H : _ = some r := H
 refine V.seq (V.region (W.as rfl (W.nx (V.seq (V.region (W.mv rfl (W.mv rfl ?_)))))))
 obtain ⟨t1, A2, H⟩ := bind_s H
 refine W.e (Y.cl Try.func73 (serial_round.calls A2 HS.j0)) rfl ?_
 rintro _ w ⟨rfl, HS⟩
 replace HS := HS.o0
 refine W.mv rfl (W.r (X.extract rfl rfl) rfl (W.r (X.extract rfl rfl) rfl (W.as rfl (W.nx (V.seq (V.region (W.mv rfl (W.mv rfl ?_))))))))
 obtain ⟨t3, A4, H⟩ := bind_s H
 refine W.e (Y.cl Try.func73 (serial_round.calls A4 HS.j0)) rfl ?_
 rintro _ w ⟨rfl, HS⟩
 replace HS := HS.o0
 refine W.mv rfl (W.r (X.extract rfl rfl) rfl (W.r (X.extract rfl rfl) rfl (W.as rfl (W.as rfl (W.nx (V.seq (V.region (W.mv rfl (W.mv rfl (W.r (X.sub rfl rfl) rfl (W.mv rfl ?_)))))))))))
 obtain ⟨t5, A6, H⟩ := bind_s H
 refine W.e (Y.cl Try.func73 (serial_round.calls A6 HS.j0)) rfl ?_
 rintro _ w ⟨rfl, HS⟩
 replace HS := HS.o0
 refine W.mv rfl (W.r (X.extract rfl rfl) rfl (W.r (X.extract rfl rfl) rfl (W.as rfl (W.as rfl (W.nx (V.seq (V.region (W.mv rfl (W.as rfl (W.nx (V.ret ?_)))))))))))
 cases H
 exact At.ret1 rfl rfl ⟨_, rfl, rfl, HS⟩
def arq_Arq_ahead.f (a0 : arq_Arq) (a1 : Int) : Option Bool := ((serial_Dist.f a0.tag a1 65536).bind fun t1 => (if t1 ≥ 1 then some (decide (t1 < 32768)) else some false))
theorem arq_Arq_ahead.calls {a0 : arq_Arq} {a1 : Int} {R : As} {w0 w : World} {b0 : Nat} {b8_p0 : Nat} {b9_p0 : Nat} {b10_p0 : Nat} {a11_p0 : Option Addr} {c11_p0 : Nat} {d11_p0 : List Value} {a12_p0 : Option Addr} {c12_p0 : Nat} {r : Bool} (H : arq_Arq_ahead.f a0 a1 = some r) (HS : Sep.St [blk b0 (#[Value.int .i64 a0.m, Value.int .i64 a0.t1, Value.int .i64 a0.n2, Value.int .i64 a0.size, Value.int .i64 a0.state, Value.int .i64 a0.tag, Value.int .i64 a0.tries, Value.bool a0.rejected, Value.pointer (some ⟨b8_p0, 0, none⟩), Value.pointer (some ⟨b9_p0, 0, none⟩), Value.pointer (some ⟨b10_p0, 0, none⟩), Value.slice a11_p0 a0.out.length c11_p0, Value.slice a12_p0 a0.inds.length c12_p0, Value.int .i64 a0.sent, Value.int .i64 a0.acked, Value.int .i64 a0.lost]) 82, backlog_Log.at b8_p0 a0.log, reorder_Order.at b9_p0 a0.order, clock_Set.at b10_p0 a0.timers, row 39 1 (.slice a11_p0 a0.out.length c11_p0) a0.out.length d11_p0, tie (El.sl (El.int .u8)) d11_p0 a0.out, row 3 1 (.slice a12_p0 a0.inds.length c12_p0) a0.inds.length (a0.inds.map (Value.int .i64)), R] w0 w)  : Calls Try.prog 89 #[Value.pointer (some ⟨b0, 0, none⟩), Value.int .i64 a1] w (Ret fun u w => u = Value.bool r ∧ Sep.St [blk b0 (#[Value.int .i64 a0.m, Value.int .i64 a0.t1, Value.int .i64 a0.n2, Value.int .i64 a0.size, Value.int .i64 a0.state, Value.int .i64 a0.tag, Value.int .i64 a0.tries, Value.bool a0.rejected, Value.pointer (some ⟨b8_p0, 0, none⟩), Value.pointer (some ⟨b9_p0, 0, none⟩), Value.pointer (some ⟨b10_p0, 0, none⟩), Value.slice a11_p0 a0.out.length c11_p0, Value.slice a12_p0 a0.inds.length c12_p0, Value.int .i64 a0.sent, Value.int .i64 a0.acked, Value.int .i64 a0.lost]) 82, backlog_Log.at b8_p0 a0.log, reorder_Order.at b9_p0 a0.order, clock_Set.at b10_p0 a0.timers, row 39 1 (.slice a11_p0 a0.out.length c11_p0) a0.out.length d11_p0, tie (El.sl (El.int .u8)) d11_p0 a0.out, row 3 1 (.slice a12_p0 a0.inds.length c12_p0) a0.inds.length (a0.inds.map (Value.int .i64)), R] w0 w) := by
 unfold arq_Arq_ahead.f at H
 refine calls_enter Try.func89 rfl rfl ?_
 have H : _ = some r := H
 refine V.seq (V.region (W.as rfl (W.nx (V.seq (V.region (W.mv rfl (W.nc rfl (W.fa fo82_5 rfl (W.ld 0 HS Try.underlying3 rfl rfl rfl rfl (W.mv rfl ?_))))))))))
 obtain ⟨t1, A2, H⟩ := bind_s H
 refine W.e (Y.cl Try.func100 (serial_Dist.calls A2 HS.j0)) rfl ?_
 rintro _ w ⟨rfl, HS⟩
 replace HS := HS.o0
 refine W.as rfl (W.nx (V.seq (V.region (W.mv rfl (W.r (X.cmp (decide (t1 ≥ 1)) rfl rfl rfl rfl) rfl (W.mv rfl ?_))))))
 by_cases c3 : t1 ≥ 1
 ·replace H := ite_t c3 H
  refine W.want 14 rfl (sb (decide_eq_true c3)) (W.mv rfl (W.want 14 rfl (sb (decide_eq_true c3)) (W.r (X.cmp (decide (t1 < 32768)) rfl rfl rfl rfl) rfl (W.r (X.pickT (sb (decide_eq_true c3)) rfl) rfl (W.as rfl (W.nx (V.ret ?_)))))))
  cases H
  exact At.ret1 rfl rfl ⟨_, rfl, rfl, HS⟩
 ·replace H := ite_f c3 H
  refine W.pass 14 rfl (sb (decide_eq_false c3)) rfl rfl (W.pass 14 rfl (sb (decide_eq_false c3)) rfl rfl (W.r (X.pickF (sb (decide_eq_false c3)) rfl) rfl (W.as rfl (W.nx (V.ret ?_)))))
  cases H
  exact At.ret1 rfl rfl ⟨_, rfl, rfl, HS⟩
mutual
def arq_Arq_asked.j0  (x10 : arq_Arq) : Option arq_Arq := some x10
def arq_Arq_asked.j2 (k : Nat) (a0 : arq_Arq) (a1 : Int) (a2 : Bool) (x18 : Bool) : Option arq_Arq := (if x18 = true then ((arq_Arq_fresh.f a0 2).bind fun t21 => ((arq_Arq_tell.f k ({ t21 with tag := a1 } : arq_Arq) ({ Kind := 4, Ns := 0, Nr := 0, Poll := a2 } : api_Ctl)).bind fun t25 => (if a0.state = 2 then (if (t25.inds.length : Int) + ([3] : List Int).length ≤ 1099511627776 then some (({ t25 with inds := t25.inds ++ ([3] : List Int) } : arq_Arq)) else none) else (if (t25.inds.length : Int) + ([1] : List Int).length ≤ 1099511627776 then some (({ t25 with inds := t25.inds ++ ([1] : List Int) } : arq_Arq)) else none)))) else (if a0.state = 0 then ((arq_Arq_tell.f k a0 ({ Kind := 6, Ns := 0, Nr := 0, Poll := false } : api_Ctl)).bind fun t47 => (arq_Arq_asked.j0 t47)) else (arq_Arq_asked.j0 a0)))
def arq_Arq_asked.j1 (k : Nat) (a0 : arq_Arq) (a1 : Int) (a2 : Bool) (x13 : Bool) : Option arq_Arq := (if x13 = true then ((arq_Arq_tell.f k a0 ({ Kind := 4, Ns := 0, Nr := 0, Poll := a2 } : api_Ctl)).bind fun t16 => some t16) else ((arq_Arq_ahead.f a0 a1).bind fun t51 => (if t51 = true then (arq_Arq_asked.j2 k a0 a1 a2 true) else (if a0.state = 1 then (arq_Arq_asked.j2 k a0 a1 a2 (decide (a1 = a0.tag))) else (arq_Arq_asked.j2 k a0 a1 a2 false)))))
end
def arq_Arq_asked.f (k : Nat) (a0 : arq_Arq) (a1 : Int) (a2 : Bool) : Option arq_Arq := (if a0.state = 3 then some a0 else (if a0.state = 2 then (arq_Arq_asked.j1 k a0 a1 a2 (decide (a1 = a0.tag))) else (arq_Arq_asked.j1 k a0 a1 a2 false)))
theorem arq_Arq_asked.calls {k : Nat} {a0 : arq_Arq} {a1 : Int} {a2 : Bool} {R : As} {w0 w : World} {b0 : Nat} {r : arq_Arq} (H : arq_Arq_asked.f k a0 a1 a2 = some r) (HS : Sep.St [arq_Arq.at b0 a0, R] w0 w)  : Calls Try.prog 53 #[Value.pointer (some ⟨b0, 0, none⟩), Value.int .i64 a1, Value.bool a2] w (Ret fun u w => u = Value.tuple #[] ∧ Sep.St [arq_Arq.at b0 r, R] w0 w) := by
 unfold arq_Arq_asked.f at H
 refine calls_enter Try.func53 rfl rfl ?_
 have H : _ = some r := H
 refine V.scope 1 (V.seq (V.region (W.mv rfl (W.nc rfl ?_))))
 obtain ⟨b8_1, b9_1, b10_1, a11_1, c11_1, d11_1, a12_1, c12_1, hi2, HS⟩ := arq_Arq.open HS
 refine W.fa fo82_4 rfl (W.ld 0 HS Try.underlying3 rfl rfl rfl rfl (W.r (X.cmp (decide (a0.state = 2)) rfl rfl rfl rfl) rfl (W.as rfl (W.nx (V.meet (σ := arq_Arq) (fun st w => match st with | x10 => Sep.St [arq_Arq.at b0 x10, R] w0 w ∧ arq_Arq_asked.j0 x10 = some r) (fun st => match st with | x10 => []) ?_ ?_)))))
 ·refine V.block (V.seq (V.region (W.mv rfl (W.nc rfl (W.fa fo82_4 rfl (W.ld 0 HS Try.underlying3 rfl rfl rfl rfl (W.r (X.cmp (decide (a0.state = 3)) rfl rfl rfl rfl) rfl (W.as rfl (W.nx ?_)))))))))
  by_cases c12 : a0.state = 3
  ·replace H := ite_t c12 H
   refine V.condT (sb (decide_eq_true c12)) (V.ret (At.blockRet (At.thenRet (At.scopeRet ?_))))
   replace HS := arq_Arq.close trivial HS
   cases H
   exact At.ret0 rfl ⟨_, rfl, rfl, HS⟩
  ·replace H := ite_f c12 H
   refine V.condF (sb (decide_eq_false c12)) (V.meet (σ := Bool) (fun st w => match st with | x13 => Sep.St [arq_Arq.at b0 a0, R] w0 w ∧ ∃ kf14, kf14 ≤ k ∧ arq_Arq_asked.j1 kf14 a0 a1 a2 x13 = some r) (fun st => match st with | x13 => [(0, Value.pointer (some ⟨b0, 0, none⟩)), (1, Value.int .i64 a1), (2, Value.bool a2), (6, Value.bool (decide (a0.state = 2))), (18, Value.bool x13)]) ?_ ?_)
   ·refine V.region (W.mv rfl (W.mv rfl ?_))
    by_cases c55 : a0.state = 2
    ·replace H := ite_t c55 H
     refine W.want 20 rfl (sb (decide_eq_true c55)) (W.mv rfl (W.want 20 rfl (sb (decide_eq_true c55)) (W.mv rfl (W.want 20 rfl (sb (decide_eq_true c55)) (W.nc rfl (W.want 20 rfl (sb (decide_eq_true c55)) (W.fa fo82_5 rfl (W.want 20 rfl (sb (decide_eq_true c55)) (W.ld 0 HS Try.underlying3 rfl rfl rfl rfl (W.want 20 rfl (sb (decide_eq_true c55)) (W.r (X.cmp (decide (a1 = a0.tag)) rfl rfl rfl rfl) rfl (W.r (X.pickT (sb (decide_eq_true c55)) rfl) rfl (W.as rfl (W.nil ?_))))))))))))))
     replace HS := arq_Arq.close trivial HS
     exact At.meet (decide (a1 = a0.tag)) ⟨rfl, rfl, rfl, rfl, rfl, trivial⟩ ⟨HS, k, by omega, H⟩
    ·replace H := ite_f c55 H
     refine W.pass 20 rfl (sb (decide_eq_false c55)) rfl rfl (W.pass 20 rfl (sb (decide_eq_false c55)) rfl rfl (W.pass 20 rfl (sb (decide_eq_false c55)) rfl rfl (W.pass 20 rfl (sb (decide_eq_false c55)) rfl rfl (W.pass 20 rfl (sb (decide_eq_false c55)) rfl rfl (W.pass 20 rfl (sb (decide_eq_false c55)) rfl rfl (W.r (X.pickF (sb (decide_eq_false c55)) rfl) rfl (W.as rfl (W.nil ?_))))))))
     replace HS := arq_Arq.close trivial HS
     exact At.meet false ⟨rfl, rfl, rfl, rfl, rfl, trivial⟩ ⟨HS, k, by omega, H⟩
   ·rintro x13 w ⟨HS, kf14, hkkf14, H⟩
    unfold arq_Arq_asked.j1 at H
    by_cases c15 : x13 = true
    ·replace H := ite_t c15 H
     refine V.condT (sb c15) (V.seq (V.region (W.mv rfl (W.mv rfl (W.r (X.bd (Value.agg #[Value.int .i64 (4), Value.int .i64 (0), Value.int .i64 (0), Value.bool a2]) rfl (fun _ => by kernel_rfl)) rfl ?_)))))
     obtain ⟨t16, A17, H⟩ := bind_s H
     refine W.e (Y.cl Try.func46 (arq_Arq_tell.calls A17 HS.j1)) rfl ?_
     rintro _ w ⟨rfl, HS⟩
     replace HS := HS.o1
     refine W.nx (V.ret (At.blockRet (At.thenRet (At.scopeRet ?_))))
     cases H
     exact At.ret0 rfl ⟨_, rfl, rfl, HS⟩
    ·replace H := ite_f c15 H
     refine V.condF (sb (b_f c15)) (V.meet (σ := Bool) (fun st w => match st with | x18 => Sep.St [arq_Arq.at b0 a0, R] w0 w ∧ ∃ kf19, kf19 ≤ kf14 ∧ arq_Arq_asked.j2 kf19 a0 a1 a2 x18 = some r) (fun st => match st with | x18 => [(0, Value.pointer (some ⟨b0, 0, none⟩)), (1, Value.int .i64 a1), (2, Value.bool a2), (6, Value.bool (decide (a0.state = 2))), (32, Value.bool x18)]) ?_ ?_)
     ·refine V.region (W.mv rfl (W.mv rfl ?_))
      obtain ⟨b8_49, b9_49, b10_49, a11_49, c11_49, d11_49, a12_49, c12_49, hi50, HS⟩ := arq_Arq.open HS
      obtain ⟨t51, A52, H⟩ := bind_s H
      refine W.e (Y.cl Try.func89 (arq_Arq_ahead.calls A52 HS.j7)) rfl ?_
      rintro _ w ⟨rfl, HS⟩
      replace HS := HS.o7
      refine W.mv rfl ?_
      by_cases c53 : t51 = true
      ·replace H := ite_t c53 H
       refine W.pass 36 rfl (sb c53) rfl rfl (W.pass 36 rfl (sb c53) rfl rfl (W.pass 36 rfl (sb c53) rfl rfl (W.pass 36 rfl (sb c53) rfl rfl (W.pass 36 rfl (sb c53) rfl rfl (W.pass 36 rfl (sb c53) rfl rfl (W.passU 42 rfl rfl rfl (W.passU 42 rfl rfl rfl (W.passU 42 rfl rfl rfl (W.passU 42 rfl rfl rfl (W.passU 42 rfl rfl rfl (W.passU 42 rfl rfl rfl (W.pass 36 rfl (sb c53) rfl rfl (W.r (X.pickT (sb c53) rfl) rfl (W.as rfl (W.nil ?_)))))))))))))))
       replace HS := arq_Arq.close trivial HS
       exact At.meet true ⟨rfl, rfl, rfl, rfl, rfl, trivial⟩ ⟨HS, kf14, by omega, H⟩
      ·replace H := ite_f c53 H
       refine W.want 36 rfl (sb (b_f c53)) (W.mv rfl (W.want 36 rfl (sb (b_f c53)) (W.nc rfl (W.want 36 rfl (sb (b_f c53)) (W.fa fo82_4 rfl (W.want 36 rfl (sb (b_f c53)) (W.ld 0 HS Try.underlying3 rfl rfl rfl rfl (W.want 36 rfl (sb (b_f c53)) (W.r (X.cmp (decide (a0.state = 1)) rfl rfl rfl rfl) rfl (W.want 36 rfl (sb (b_f c53)) (W.mv rfl ?_)))))))))))
       by_cases c54 : a0.state = 1
       ·replace H := ite_t c54 H
        refine W.want 42 rfl (sb (decide_eq_true c54)) (W.mv rfl (W.want 42 rfl (sb (decide_eq_true c54)) (W.mv rfl (W.want 42 rfl (sb (decide_eq_true c54)) (W.nc rfl (W.want 42 rfl (sb (decide_eq_true c54)) (W.fa fo82_5 rfl (W.want 42 rfl (sb (decide_eq_true c54)) (W.ld 0 HS Try.underlying3 rfl rfl rfl rfl (W.want 42 rfl (sb (decide_eq_true c54)) (W.r (X.cmp (decide (a1 = a0.tag)) rfl rfl rfl rfl) rfl (W.want 36 rfl (sb (b_f c53)) (W.r (X.pickT (sb (decide_eq_true c54)) rfl) rfl (W.r (X.pickF (sb (b_f c53)) rfl) rfl (W.as rfl (W.nil ?_))))))))))))))))
        replace HS := arq_Arq.close trivial HS
        exact At.meet (decide (a1 = a0.tag)) ⟨rfl, rfl, rfl, rfl, rfl, trivial⟩ ⟨HS, kf14, by omega, H⟩
       ·replace H := ite_f c54 H
        refine W.pass 42 rfl (sb (decide_eq_false c54)) rfl rfl (W.pass 42 rfl (sb (decide_eq_false c54)) rfl rfl (W.pass 42 rfl (sb (decide_eq_false c54)) rfl rfl (W.pass 42 rfl (sb (decide_eq_false c54)) rfl rfl (W.pass 42 rfl (sb (decide_eq_false c54)) rfl rfl (W.pass 42 rfl (sb (decide_eq_false c54)) rfl rfl (W.want 36 rfl (sb (b_f c53)) (W.r (X.pickF (sb (decide_eq_false c54)) rfl) rfl (W.r (X.pickF (sb (b_f c53)) rfl) rfl (W.as rfl (W.nil ?_))))))))))
        replace HS := arq_Arq.close trivial HS
        exact At.meet false ⟨rfl, rfl, rfl, rfl, rfl, trivial⟩ ⟨HS, kf14, by omega, H⟩
     ·rintro x18 w ⟨HS, kf19, hkkf19, H⟩
      unfold arq_Arq_asked.j2 at H
      by_cases c20 : x18 = true
      ·replace H := ite_t c20 H
       refine V.condT (sb c20) (V.goto (At.blockGoto (At.thenGoto (At.jump rfl ?_))))
       refine V.seq (V.skip (At.next (V.seq (V.region (W.mv rfl ?_)))))
       obtain ⟨t21, A22, H⟩ := bind_s H
       refine W.e (Y.cl Try.func48 (arq_Arq_fresh.calls A22 HS.j1)) rfl ?_
       rintro _ w ⟨rfl, HS⟩
       replace HS := HS.o1
       refine W.nx (V.seq (V.region (W.mv rfl (W.mv rfl (W.nc rfl ?_)))))
       obtain ⟨b8_23, b9_23, b10_23, a11_23, c11_23, d11_23, a12_23, c12_23, hi24, HS⟩ := arq_Arq.open HS
       refine W.fa fo82_5 rfl (W.st 0 5 HS inf3 rfl rfl rfl rfl rfl rfl fun w HS => ?_)
       refine W.nx (V.seq (V.region (W.mv rfl (W.mv rfl (W.r (X.bd (Value.agg #[Value.int .i64 (4), Value.int .i64 (0), Value.int .i64 (0), Value.bool a2]) rfl (fun _ => by kernel_rfl)) rfl ?_)))))
       replace HS := arq_Arq.close trivial HS
       obtain ⟨t25, A26, H⟩ := bind_s H
       refine W.e (Y.cl Try.func46 (arq_Arq_tell.calls A26 HS.j1)) rfl ?_
       rintro _ w ⟨rfl, HS⟩
       replace HS := HS.o1
       refine W.nx (V.seq (V.region (W.mv rfl (W.nx ?_))))
       by_cases c27 : a0.state = 2
       ·replace H := ite_t c27 H
        refine V.condT (sb (decide_eq_true c27)) (V.region (W.mv rfl (W.mv rfl (W.nc rfl ?_))))
        obtain ⟨b8_28, b9_28, b10_28, a11_28, c11_28, d11_28, a12_28, c12_28, hi29, HS⟩ := arq_Arq.open HS
        refine W.fa fo82_12 rfl (W.ld 0 HS Try.underlying34 rfl rfl rfl rfl (W.e (Y.ls (e := 3) (Value.int .i64) ([3] : List Int) HS rfl rfl (fun _ => by kernel_rfl)) rfl ?_))
        rintro _ w ⟨lb32, rfl, HS⟩
        obtain ⟨c33, H⟩ := ite_n H
        refine W.e (Y.appF (Value.int .i64) (fun _ => rfl) 7 Try.underlying34 ap3 rfl HS rfl rfl rfl (rdC.at 0 row_rd HS rfl) (by omega) (by omega)) rfl ?_
        rintro _ w ⟨ra34, rc35, rfl, HS⟩
        refine W.nc rfl (W.fa fo82_12 rfl (W.st 1 12 HS inf34 rfl rfl rfl rfl rfl rfl fun w HS => ?_))
        refine W.nil (At.scopeEnd ?_)
        replace HS := HS.pm [1, 2, 3, 4, 5, 6, 7, 0, 8]
        replace HS := arq_Arq.close trivial HS
        replace HS := HS.pk [0, 2] [1]
        cases H
        exact At.end0 rfl ⟨_, rfl, rfl, HS⟩
       ·replace H := ite_f c27 H
        refine V.condF (sb (decide_eq_false c27)) (V.region (W.mv rfl (W.mv rfl (W.nc rfl ?_))))
        obtain ⟨b8_36, b9_36, b10_36, a11_36, c11_36, d11_36, a12_36, c12_36, hi37, HS⟩ := arq_Arq.open HS
        refine W.fa fo82_12 rfl (W.ld 0 HS Try.underlying34 rfl rfl rfl rfl (W.e (Y.ls (e := 3) (Value.int .i64) ([1] : List Int) HS rfl rfl (fun _ => by kernel_rfl)) rfl ?_))
        rintro _ w ⟨lb40, rfl, HS⟩
        obtain ⟨c41, H⟩ := ite_n H
        refine W.e (Y.appF (Value.int .i64) (fun _ => rfl) 7 Try.underlying34 ap3 rfl HS rfl rfl rfl (rdC.at 0 row_rd HS rfl) (by omega) (by omega)) rfl ?_
        rintro _ w ⟨ra42, rc43, rfl, HS⟩
        refine W.nc rfl (W.fa fo82_12 rfl (W.st 1 12 HS inf34 rfl rfl rfl rfl rfl rfl fun w HS => ?_))
        refine W.nil (At.scopeEnd ?_)
        replace HS := HS.pm [1, 2, 3, 4, 5, 6, 7, 0, 8]
        replace HS := arq_Arq.close trivial HS
        replace HS := HS.pk [0, 2] [1]
        cases H
        exact At.end0 rfl ⟨_, rfl, rfl, HS⟩
      ·replace H := ite_f c20 H
       refine V.condF (sb (b_f c20)) (V.seq (V.region (W.mv rfl (W.nc rfl ?_))))
       obtain ⟨b8_44, b9_44, b10_44, a11_44, c11_44, d11_44, a12_44, c12_44, hi45, HS⟩ := arq_Arq.open HS
       refine W.fa fo82_4 rfl (W.ld 0 HS Try.underlying3 rfl rfl rfl rfl (W.r (X.cmp (decide (a0.state = 0)) rfl rfl rfl rfl) rfl (W.as rfl (W.nx ?_))))
       by_cases c46 : a0.state = 0
       ·replace H := ite_t c46 H
        refine V.condT (sb (decide_eq_true c46)) (V.region (W.mv rfl (W.r (X.bd (Value.agg #[Value.int .i64 (6), Value.int .i64 (0), Value.int .i64 (0), Value.bool false]) rfl (fun _ => by kernel_rfl)) rfl ?_)))
        replace HS := arq_Arq.close trivial HS
        obtain ⟨t47, A48, H⟩ := bind_s H
        refine W.e (Y.cl Try.func46 (arq_Arq_tell.calls A48 HS.j1)) rfl ?_
        rintro _ w ⟨rfl, HS⟩
        replace HS := HS.o1
        refine W.nil (At.blockEnd ?_)
        exact At.meet t47 trivial ⟨HS, H⟩
       ·replace H := ite_f c46 H
        refine V.condF (sb (decide_eq_false c46)) (V.skip (At.blockEnd ?_))
        replace HS := arq_Arq.close trivial HS
        exact At.meet a0 trivial ⟨HS, H⟩
 ·rintro x10 w ⟨HS, H⟩
  unfold arq_Arq_asked.j0 at H
  refine V.seq (V.ret (At.thenRet (At.scopeRet ?_)))
  cases H
  exact At.ret0 rfl ⟨_, rfl, rfl, HS⟩
def arq_Arq_end.f (a0 : arq_Arq) : Option arq_Arq := ((arq_Arq_fresh.f a0 0).bind fun t1 => (if (t1.inds.length : Int) + ([2] : List Int).length ≤ 1099511627776 then some (({ t1 with inds := t1.inds ++ ([2] : List Int) } : arq_Arq)) else none))
theorem arq_Arq_end.calls {a0 : arq_Arq} {R : As} {w0 w : World} {b0 : Nat} {r : arq_Arq} (H : arq_Arq_end.f a0 = some r) (HS : Sep.St [arq_Arq.at b0 a0, R] w0 w)  : Calls Try.prog 57 #[Value.pointer (some ⟨b0, 0, none⟩)] w (Ret fun u w => u = Value.tuple #[] ∧ Sep.St [arq_Arq.at b0 r, R] w0 w) := by
 unfold arq_Arq_end.f at H
 refine calls_enter Try.func57 rfl rfl ?_
 have H : _ = some r := H
 refine V.seq (V.region (W.mv rfl ?_))
 obtain ⟨t1, A2, H⟩ := bind_s H
 refine W.e (Y.cl Try.func48 (arq_Arq_fresh.calls A2 HS.j1)) rfl ?_
 rintro _ w ⟨rfl, HS⟩
 replace HS := HS.o1
 refine W.nx (V.region (W.mv rfl (W.mv rfl (W.nc rfl ?_))))
 obtain ⟨b8_3, b9_3, b10_3, a11_3, c11_3, d11_3, a12_3, c12_3, hi4, HS⟩ := arq_Arq.open HS
 refine W.fa fo82_12 rfl (W.ld 0 HS Try.underlying34 rfl rfl rfl rfl (W.e (Y.ls (e := 3) (Value.int .i64) ([2] : List Int) HS rfl rfl (fun _ => by kernel_rfl)) rfl ?_))
 rintro _ w ⟨lb7, rfl, HS⟩
 obtain ⟨c8, H⟩ := ite_n H
 refine W.e (Y.appF (Value.int .i64) (fun _ => rfl) 7 Try.underlying34 ap3 rfl HS rfl rfl rfl (rdC.at 0 row_rd HS rfl) (by omega) (by omega)) rfl ?_
 rintro _ w ⟨ra9, rc10, rfl, HS⟩
 refine W.nc rfl (W.fa fo82_12 rfl (W.st 1 12 HS inf34 rfl rfl rfl rfl rfl rfl fun w HS => ?_))
 refine W.nil ?_
 replace HS := HS.pm [1, 2, 3, 4, 5, 6, 7, 0, 8]
 replace HS := arq_Arq.close trivial HS
 replace HS := HS.pk [0, 2] [1]
 cases H
 exact At.end0 rfl ⟨_, rfl, rfl, HS⟩
def arq_Arq_accepted.f (k : Nat) (a0 : arq_Arq) : Option arq_Arq := (if a0.state = 1 then ((clock_Set_Stop.f a0.timers 0).bind fun t4 => (if (a0.inds.length : Int) + ([1] : List Int).length ≤ 1099511627776 then ((arq_Arq_pump.f k ({ a0 with state := 2, tries := 0, timers := t4.2, inds := a0.inds ++ ([1] : List Int) } : arq_Arq)).bind fun t12 => some t12) else none)) else (if a0.state = 3 then ((arq_Arq_end.f a0).bind fun t15 => some t15) else some a0))
theorem arq_Arq_accepted.calls {k : Nat} {a0 : arq_Arq} {R : As} {w0 w : World} {b0 : Nat} {r : arq_Arq} (H : arq_Arq_accepted.f k a0 = some r) (HS : Sep.St [arq_Arq.at b0 a0, R] w0 w)  : Calls Try.prog 54 #[Value.pointer (some ⟨b0, 0, none⟩)] w (Ret fun u w => u = Value.tuple #[] ∧ Sep.St [arq_Arq.at b0 r, R] w0 w) := by
 unfold arq_Arq_accepted.f at H
 refine calls_enter Try.func54 rfl rfl ?_
 have H : _ = some r := H
 refine V.seq (V.region (W.mv rfl (W.nc rfl ?_)))
 obtain ⟨b8_1, b9_1, b10_1, a11_1, c11_1, d11_1, a12_1, c12_1, hi2, HS⟩ := arq_Arq.open HS
 refine W.fa fo82_4 rfl (W.ld 0 HS Try.underlying3 rfl rfl rfl rfl (W.nx (V.block (V.seq (V.region (W.r (X.cmp (decide (a0.state = 1)) rfl rfl rfl rfl) rfl (W.as rfl (W.nx ?_))))))))
 by_cases c3 : a0.state = 1
 ·replace H := ite_t c3 H
  refine V.condT (sb (decide_eq_true c3)) (V.seq (V.region (W.mv rfl (W.mv rfl (W.nc rfl (W.fa fo82_4 rfl (W.st 0 4 HS inf3 rfl rfl rfl rfl rfl rfl fun w HS => ?_)))))))
  refine W.nc rfl (W.fa fo82_6 rfl (W.st 0 6 HS inf3 rfl rfl rfl rfl rfl rfl fun w HS => ?_))
  refine W.nx (V.seq (V.region (W.mv rfl (W.nc rfl (W.fa fo82_10 rfl (W.ld 0 HS Try.underlying78 rfl rfl rfl rfl ?_))))))
  obtain ⟨t4, A5, H⟩ := bind_s H
  replace HS := HS.pm [3, 0, 1, 2, 4, 5, 6, 7]
  refine W.e (Y.cl Try.func78 (clock_Set_Stop.calls A5 HS.j1)) rfl ?_
  rintro _ w ⟨rfl, HS⟩
  replace HS := HS.o1
  refine W.nx (V.seq (V.region (W.mv rfl (W.mv rfl (W.nc rfl (W.fa fo82_12 rfl (W.ld 1 HS Try.underlying34 rfl rfl rfl rfl (W.e (Y.ls (e := 3) (Value.int .i64) ([1] : List Int) HS rfl rfl (fun _ => by kernel_rfl)) rfl ?_))))))))
  rintro _ w ⟨lb8, rfl, HS⟩
  obtain ⟨c9, H⟩ := ite_n H
  refine W.e (Y.appF (Value.int .i64) (fun _ => rfl) 7 Try.underlying34 ap3 rfl HS rfl rfl rfl (rdC.at 0 row_rd HS rfl) (by omega) (by omega)) rfl ?_
  rintro _ w ⟨ra10, rc11, rfl, HS⟩
  refine W.nc rfl (W.fa fo82_12 rfl (W.st 2 12 HS inf34 rfl rfl rfl rfl rfl rfl fun w HS => ?_))
  refine W.nx (V.region (W.mv rfl ?_))
  replace HS := HS.pm [2, 3, 4, 1, 5, 6, 7, 0, 8]
  replace HS := arq_Arq.close trivial HS
  obtain ⟨t12, A13, H⟩ := bind_s H
  refine W.e (Y.cl Try.func70 (arq_Arq_pump.calls A13 HS.j1)) rfl ?_
  rintro _ w ⟨rfl, HS⟩
  replace HS := HS.o1
  refine W.nil (At.blockEnd ?_)
  replace HS := HS.pk [0, 2] [1]
  cases H
  exact At.end0 rfl ⟨_, rfl, rfl, HS⟩
 ·replace H := ite_f c3 H
  refine V.condF (sb (decide_eq_false c3)) (V.seq (V.region (W.r (X.cmp (decide (a0.state = 3)) rfl rfl rfl rfl) rfl (W.as rfl (W.nx ?_)))))
  by_cases c14 : a0.state = 3
  ·replace H := ite_t c14 H
   refine V.condT (sb (decide_eq_true c14)) (V.region (W.mv rfl ?_))
   replace HS := arq_Arq.close trivial HS
   obtain ⟨t15, A16, H⟩ := bind_s H
   refine W.e (Y.cl Try.func57 (arq_Arq_end.calls A16 HS.j1)) rfl ?_
   rintro _ w ⟨rfl, HS⟩
   replace HS := HS.o1
   refine W.nil (At.blockEnd ?_)
   cases H
   exact At.end0 rfl ⟨_, rfl, rfl, HS⟩
  ·replace H := ite_f c14 H
   refine V.condF (sb (decide_eq_false c14)) (V.skip (At.blockEnd ?_))
   replace HS := arq_Arq.close trivial HS
   cases H
   exact At.end0 rfl ⟨_, rfl, rfl, HS⟩
mutual
def arq_Arq_closed.j0 (k : Nat) (a0 : arq_Arq) (a1 : Int) (x2 : Bool) (x3 : Bool) : Option arq_Arq := (if x3 = true then ((arq_Arq_put.f k a0 a1 ({ Kind := 6, Ns := 0, Nr := 0, Poll := false } : api_Ctl) ([] : List Int)).bind fun t6 => some t6) else ((arq_Arq_tell.f k a0 ({ Kind := 4, Ns := 0, Nr := 0, Poll := x2 } : api_Ctl)).bind fun t8 => ((arq_Arq_end.f t8).bind fun t10 => some t10)))
end
def arq_Arq_closed.f (k : Nat) (a0 : arq_Arq) (a1 : Int) (a2 : Bool) : Option arq_Arq := (if a1 = a0.tag then (if a0.state = 2 then (arq_Arq_closed.j0 k a0 a1 a2 false) else (arq_Arq_closed.j0 k a0 a1 a2 (!(decide (a0.state = 3))))) else (arq_Arq_closed.j0 k a0 a1 a2 true))
theorem arq_Arq_closed.calls {k : Nat} {a0 : arq_Arq} {a1 : Int} {a2 : Bool} {R : As} {w0 w : World} {b0 : Nat} {r : arq_Arq} (H : arq_Arq_closed.f k a0 a1 a2 = some r) (HS : Sep.St [arq_Arq.at b0 a0, R] w0 w)  : Calls Try.prog 55 #[Value.pointer (some ⟨b0, 0, none⟩), Value.int .i64 a1, Value.bool a2] w (Ret fun u w => u = Value.tuple #[] ∧ Sep.St [arq_Arq.at b0 r, R] w0 w) := by
 unfold arq_Arq_closed.f at H
 refine calls_enter Try.func55 rfl rfl ?_
 have H : _ = some r := H
 refine V.seq (V.meet (σ := Bool × Bool) (fun st w => match st with | (x2, x3) => Sep.St [arq_Arq.at b0 a0, R] w0 w ∧ ∃ kf4, kf4 ≤ k ∧ arq_Arq_closed.j0 kf4 a0 a1 x2 x3 = some r) (fun st => match st with | (x2, x3) => [(0, Value.pointer (some ⟨b0, 0, none⟩)), (1, Value.int .i64 a1), (2, Value.bool x2), (25, Value.bool x3)]) ?_ ?_)
 ·refine V.region (W.mv rfl (W.mv rfl (W.nc rfl ?_)))
  obtain ⟨b8_12, b9_12, b10_12, a11_12, c11_12, d11_12, a12_12, c12_12, hi13, HS⟩ := arq_Arq.open HS
  refine W.fa fo82_5 rfl (W.ld 0 HS Try.underlying3 rfl rfl rfl rfl (W.r (X.cmp (!(decide (a1 = a0.tag))) rfl rfl rfl rfl) rfl (W.mv rfl ?_)))
  by_cases c14 : a1 = a0.tag
  ·replace H := ite_t c14 H
   refine W.want 12 rfl (sb (n_t (decide_eq_true c14))) (W.mv rfl (W.want 12 rfl (sb (n_t (decide_eq_true c14))) (W.nc rfl (W.want 12 rfl (sb (n_t (decide_eq_true c14))) (W.fa fo82_4 rfl (W.want 12 rfl (sb (n_t (decide_eq_true c14))) (W.ld 0 HS Try.underlying3 rfl rfl rfl rfl (W.want 12 rfl (sb (n_t (decide_eq_true c14))) (W.r (X.cmp (!(decide (a0.state = 2))) rfl rfl rfl rfl) rfl (W.want 12 rfl (sb (n_t (decide_eq_true c14))) (W.mv rfl ?_)))))))))))
   by_cases c15 : a0.state = 2
   ·replace H := ite_t c15 H
    refine W.pass 18 rfl (sb (n_t (decide_eq_true c15))) rfl rfl (W.pass 18 rfl (sb (n_t (decide_eq_true c15))) rfl rfl (W.pass 18 rfl (sb (n_t (decide_eq_true c15))) rfl rfl (W.pass 18 rfl (sb (n_t (decide_eq_true c15))) rfl rfl (W.pass 18 rfl (sb (n_t (decide_eq_true c15))) rfl rfl (W.want 12 rfl (sb (n_t (decide_eq_true c14))) (W.r (X.pickF (sb (n_t (decide_eq_true c15))) rfl) rfl (W.r (X.pickF (sb (n_t (decide_eq_true c14))) rfl) rfl (W.nil ?_))))))))
    replace HS := arq_Arq.close trivial HS
    exact At.meet (a2, false) ⟨rfl, rfl, rfl, rfl, trivial⟩ ⟨HS, k, by omega, H⟩
   ·replace H := ite_f c15 H
    refine W.want 18 rfl (sb (n_f (decide_eq_false c15))) (W.mv rfl (W.want 18 rfl (sb (n_f (decide_eq_false c15))) (W.nc rfl (W.want 18 rfl (sb (n_f (decide_eq_false c15))) (W.fa fo82_4 rfl (W.want 18 rfl (sb (n_f (decide_eq_false c15))) (W.ld 0 HS Try.underlying3 rfl rfl rfl rfl (W.want 18 rfl (sb (n_f (decide_eq_false c15))) (W.r (X.cmp (!(decide (a0.state = 3))) rfl rfl rfl rfl) rfl (W.want 12 rfl (sb (n_t (decide_eq_true c14))) (W.r (X.pickT (sb (n_f (decide_eq_false c15))) rfl) rfl (W.r (X.pickF (sb (n_t (decide_eq_true c14))) rfl) rfl (W.nil ?_)))))))))))))
    replace HS := arq_Arq.close trivial HS
    exact At.meet (a2, !(decide (a0.state = 3))) ⟨rfl, rfl, rfl, rfl, trivial⟩ ⟨HS, k, by omega, H⟩
  ·replace H := ite_f c14 H
   refine W.pass 12 rfl (sb (n_f (decide_eq_false c14))) rfl rfl (W.pass 12 rfl (sb (n_f (decide_eq_false c14))) rfl rfl (W.pass 12 rfl (sb (n_f (decide_eq_false c14))) rfl rfl (W.pass 12 rfl (sb (n_f (decide_eq_false c14))) rfl rfl (W.pass 12 rfl (sb (n_f (decide_eq_false c14))) rfl rfl (W.pass 12 rfl (sb (n_f (decide_eq_false c14))) rfl rfl (W.passU 18 rfl rfl rfl (W.passU 18 rfl rfl rfl (W.passU 18 rfl rfl rfl (W.passU 18 rfl rfl rfl (W.passU 18 rfl rfl rfl (W.pass 12 rfl (sb (n_f (decide_eq_false c14))) rfl rfl (W.r (X.pickT (sb (n_f (decide_eq_false c14))) rfl) rfl (W.nil ?_)))))))))))))
   replace HS := arq_Arq.close trivial HS
   exact At.meet (a2, true) ⟨rfl, rfl, rfl, rfl, trivial⟩ ⟨HS, k, by omega, H⟩
 ·rintro ⟨x2, x3⟩ w ⟨HS, kf4, hkkf4, H⟩
  unfold arq_Arq_closed.j0 at H
  by_cases c5 : x3 = true
  ·replace H := ite_t c5 H
   refine V.condT (sb c5) (V.seq (V.region (W.mv rfl (W.mv rfl (W.r (X.bd (Value.agg #[Value.int .i64 (6), Value.int .i64 (0), Value.int .i64 (0), Value.bool false]) rfl (fun _ => by kernel_rfl)) rfl ?_)))))
   replace HS := row_nilF (Value.int .u8) 5 1 HS
   replace HS := St.row_freeze HS
   obtain ⟨t6, A7, H⟩ := bind_s H
   replace HS := HS.pm [1, 0, 2]
   refine W.e (Y.cl Try.func74 (arq_Arq_put.calls A7 HS.j2)) rfl ?_
   rintro _ w ⟨rfl, HS⟩
   replace HS := HS.o1
   refine W.nx (V.ret (At.thenRet ?_))
   cases H
   exact At.ret0 rfl ⟨_, rfl, rfl, HS⟩
  ·replace H := ite_f c5 H
   refine V.condF (sb (b_f c5)) (V.skip (At.next (V.seq (V.region (W.mv rfl (W.mv rfl (W.r (X.bd (Value.agg #[Value.int .i64 (4), Value.int .i64 (0), Value.int .i64 (0), Value.bool x2]) rfl (fun _ => by kernel_rfl)) rfl ?_)))))))
   obtain ⟨t8, A9, H⟩ := bind_s H
   refine W.e (Y.cl Try.func46 (arq_Arq_tell.calls A9 HS.j1)) rfl ?_
   rintro _ w ⟨rfl, HS⟩
   replace HS := HS.o1
   refine W.nx (V.region (W.mv rfl ?_))
   obtain ⟨t10, A11, H⟩ := bind_s H
   refine W.e (Y.cl Try.func57 (arq_Arq_end.calls A11 HS.j1)) rfl ?_
   rintro _ w ⟨rfl, HS⟩
   replace HS := HS.o1
   refine W.nil ?_
   cases H
   exact At.end0 rfl ⟨_, rfl, rfl, HS⟩
mutual
def arq_Arq_refused.j1 (a0 : arq_Arq) (a1 : Int) (x7 : Bool) : Option arq_Arq := (if x7 = true then ((arq_Arq_end.f ({ a0 with tag := a1 } : arq_Arq)).bind fun t12 => some t12) else some a0)
def arq_Arq_refused.j0 (a0 : arq_Arq) (a1 : Int) (x2 : Bool) : Option arq_Arq := (if x2 = true then ((arq_Arq_end.f a0).bind fun t5 => some t5) else (if a0.state = 1 then ((arq_Arq_ahead.f a0 a1).bind fun t17 => (arq_Arq_refused.j1 a0 a1 t17)) else (arq_Arq_refused.j1 a0 a1 false)))
end
def arq_Arq_refused.f (a0 : arq_Arq) (a1 : Int) : Option arq_Arq := (if a1 = a0.tag then (arq_Arq_refused.j0 a0 a1 (!(decide (a0.state = 0)))) else (arq_Arq_refused.j0 a0 a1 false))
theorem arq_Arq_refused.calls {a0 : arq_Arq} {a1 : Int} {R : As} {w0 w : World} {b0 : Nat} {r : arq_Arq} (H : arq_Arq_refused.f a0 a1 = some r) (HS : Sep.St [arq_Arq.at b0 a0, R] w0 w)  : Calls Try.prog 56 #[Value.pointer (some ⟨b0, 0, none⟩), Value.int .i64 a1] w (Ret fun u w => u = Value.tuple #[] ∧ Sep.St [arq_Arq.at b0 r, R] w0 w) := by
 unfold arq_Arq_refused.f at H
 refine calls_enter Try.func56 rfl rfl ?_
 have H : _ = some r := H
 refine V.block (V.meet (σ := Bool) (fun st w => match st with | x2 => Sep.St [arq_Arq.at b0 a0, R] w0 w ∧ arq_Arq_refused.j0 a0 a1 x2 = some r) (fun st => match st with | x2 => [(0, Value.pointer (some ⟨b0, 0, none⟩)), (1, Value.int .i64 a1), (4, Value.bool x2)]) ?_ ?_)
 ·refine V.region (W.mv rfl (W.mv rfl (W.nc rfl ?_)))
  obtain ⟨b8_19, b9_19, b10_19, a11_19, c11_19, d11_19, a12_19, c12_19, hi20, HS⟩ := arq_Arq.open HS
  refine W.fa fo82_5 rfl (W.ld 0 HS Try.underlying3 rfl rfl rfl rfl (W.r (X.cmp (decide (a1 = a0.tag)) rfl rfl rfl rfl) rfl (W.mv rfl ?_)))
  by_cases c21 : a1 = a0.tag
  ·replace H := ite_t c21 H
   refine W.want 11 rfl (sb (decide_eq_true c21)) (W.mv rfl (W.want 11 rfl (sb (decide_eq_true c21)) (W.nc rfl (W.want 11 rfl (sb (decide_eq_true c21)) (W.fa fo82_4 rfl (W.want 11 rfl (sb (decide_eq_true c21)) (W.ld 0 HS Try.underlying3 rfl rfl rfl rfl (W.want 11 rfl (sb (decide_eq_true c21)) (W.r (X.cmp (!(decide (a0.state = 0))) rfl rfl rfl rfl) rfl (W.r (X.pickT (sb (decide_eq_true c21)) rfl) rfl (W.as rfl (W.nil ?_))))))))))))
   replace HS := arq_Arq.close trivial HS
   exact At.meet (!(decide (a0.state = 0))) ⟨rfl, rfl, rfl, trivial⟩ ⟨HS, H⟩
  ·replace H := ite_f c21 H
   refine W.pass 11 rfl (sb (decide_eq_false c21)) rfl rfl (W.pass 11 rfl (sb (decide_eq_false c21)) rfl rfl (W.pass 11 rfl (sb (decide_eq_false c21)) rfl rfl (W.pass 11 rfl (sb (decide_eq_false c21)) rfl rfl (W.pass 11 rfl (sb (decide_eq_false c21)) rfl rfl (W.r (X.pickF (sb (decide_eq_false c21)) rfl) rfl (W.as rfl (W.nil ?_)))))))
   replace HS := arq_Arq.close trivial HS
   exact At.meet false ⟨rfl, rfl, rfl, trivial⟩ ⟨HS, H⟩
 ·rintro x2 w ⟨HS, H⟩
  unfold arq_Arq_refused.j0 at H
  by_cases c4 : x2 = true
  ·replace H := ite_t c4 H
   refine V.condT (sb c4) (V.region (W.mv rfl ?_))
   obtain ⟨t5, A6, H⟩ := bind_s H
   refine W.e (Y.cl Try.func57 (arq_Arq_end.calls A6 HS.j1)) rfl ?_
   rintro _ w ⟨rfl, HS⟩
   replace HS := HS.o1
   refine W.nil (At.blockEnd ?_)
   cases H
   exact At.end0 rfl ⟨_, rfl, rfl, HS⟩
  ·replace H := ite_f c4 H
   refine V.condF (sb (b_f c4)) (V.meet (σ := Bool) (fun st w => match st with | x7 => Sep.St [arq_Arq.at b0 a0, R] w0 w ∧ arq_Arq_refused.j1 a0 a1 x7 = some r) (fun st => match st with | x7 => [(0, Value.pointer (some ⟨b0, 0, none⟩)), (1, Value.int .i64 a1), (20, Value.bool x7)]) ?_ ?_)
   ·refine V.region (W.mv rfl (W.nc rfl ?_))
    obtain ⟨b8_14, b9_14, b10_14, a11_14, c11_14, d11_14, a12_14, c12_14, hi15, HS⟩ := arq_Arq.open HS
    refine W.fa fo82_4 rfl (W.ld 0 HS Try.underlying3 rfl rfl rfl rfl (W.r (X.cmp (decide (a0.state = 1)) rfl rfl rfl rfl) rfl (W.mv rfl ?_)))
    by_cases c16 : a0.state = 1
    ·replace H := ite_t c16 H
     refine W.want 26 rfl (sb (decide_eq_true c16)) (W.mv rfl (W.want 26 rfl (sb (decide_eq_true c16)) (W.mv rfl (W.want 26 rfl (sb (decide_eq_true c16)) ?_))))
     obtain ⟨t17, A18, H⟩ := bind_s H
     refine W.e (Y.cl Try.func89 (arq_Arq_ahead.calls A18 HS.j7)) rfl ?_
     rintro _ w ⟨rfl, HS⟩
     replace HS := HS.o7
     refine W.r (X.pickT (sb (decide_eq_true c16)) rfl) rfl (W.as rfl (W.nil ?_))
     replace HS := arq_Arq.close trivial HS
     exact At.meet t17 ⟨rfl, rfl, rfl, trivial⟩ ⟨HS, H⟩
    ·replace H := ite_f c16 H
     refine W.pass 26 rfl (sb (decide_eq_false c16)) rfl rfl (W.pass 26 rfl (sb (decide_eq_false c16)) rfl rfl (W.pass 26 rfl (sb (decide_eq_false c16)) rfl rfl (W.r (X.pickF (sb (decide_eq_false c16)) rfl) rfl (W.as rfl (W.nil ?_)))))
     replace HS := arq_Arq.close trivial HS
     exact At.meet false ⟨rfl, rfl, rfl, trivial⟩ ⟨HS, H⟩
   ·rintro x7 w ⟨HS, H⟩
    unfold arq_Arq_refused.j1 at H
    by_cases c9 : x7 = true
    ·replace H := ite_t c9 H
     refine V.condT (sb c9) (V.seq (V.region (W.mv rfl (W.mv rfl (W.nc rfl ?_)))))
     obtain ⟨b8_10, b9_10, b10_10, a11_10, c11_10, d11_10, a12_10, c12_10, hi11, HS⟩ := arq_Arq.open HS
     refine W.fa fo82_5 rfl (W.st 0 5 HS inf3 rfl rfl rfl rfl rfl rfl fun w HS => ?_)
     refine W.nx (V.region (W.mv rfl ?_))
     replace HS := arq_Arq.close trivial HS
     obtain ⟨t12, A13, H⟩ := bind_s H
     refine W.e (Y.cl Try.func57 (arq_Arq_end.calls A13 HS.j1)) rfl ?_
     rintro _ w ⟨rfl, HS⟩
     replace HS := HS.o1
     refine W.nil (At.blockEnd ?_)
     cases H
     exact At.end0 rfl ⟨_, rfl, rfl, HS⟩
    ·replace H := ite_f c9 H
     refine V.condF (sb (b_f c9)) (V.skip (At.blockEnd ?_))
     cases H
     exact At.end0 rfl ⟨_, rfl, rfl, HS⟩
def slices_Delete_SSbyteSbyte.f (a0 : List (List Int)) (a1 : Int) (a2 : Int) : Option (List (List Int)) := (if 0 ≤ a1 ∧ a1 ≤ a2 ∧ a2 ≤ (a0.length : Int) then (if a1 = a2 then some a0 else (if 0 ≤ (0 : Int) ∧ (0 : Int) ≤ a1 ∧ a1 ≤ (a0.length : Int) then (if 0 ≤ a2 ∧ a2 ≤ (a0.length : Int) ∧ (a0.length : Int) ≤ (a0.length : Int) then some ((cut a0 (0 : Int) a1) ++ (cut a0 a2 (a0.length : Int))) else none) else none)) else none)
theorem slices_Delete_SSbyteSbyte.calls {a0 : List (List Int)} {a1 : Int} {a2 : Int} {R : As} {w0 w : World} {sa0 : Option Addr} {sc0 : Nat} {sd0 : List Value} {r : List (List Int)} (H : slices_Delete_SSbyteSbyte.f a0 a1 a2 = some r) (HS : Sep.St [row 39 1 (.slice sa0 a0.length sc0) a0.length sd0, tie (El.sl (El.int .u8)) sd0 a0, R] w0 w)  : Calls Try.prog 108 #[Value.slice sa0 a0.length sc0, Value.int .i64 a1, Value.int .i64 a2] w (Ret fun u w => ∃ (aq0 : Option Addr) (cq0 : Nat) (dq0 : List Value), u = Value.slice aq0 r.length cq0 ∧ Sep.St [row 39 1 (.slice aq0 r.length cq0) r.length dq0, tie (El.sl (El.int .u8)) dq0 r, R] w0 w) := by
 unfold slices_Delete_SSbyteSbyte.f at H
 refine calls_enter Try.func108 rfl rfl ?_
 have H : _ = some r := H
 refine V.seq (V.region (W.as rfl (W.nx (V.seq (V.region (W.mv rfl (W.mv rfl (W.mv rfl (W.mv rfl (W.r (X.lenSl Try.underlying30 rfl) rfl ?_))))))))))
 obtain ⟨c1, H⟩ := ite_n H
 refine W.r (X.sl3 Try.underlying30 inf39 rfl rfl rfl rfl c1 (Int.ofNat_le.2 (rdC.at 0 row_rd HS rfl).cap)) rfl (W.nx (V.seq (V.seq (V.region (W.mv rfl (W.mv rfl (W.r (X.cmp (decide (a1 = a2)) rfl rfl rfl rfl) rfl (W.nx ?_))))))))
 by_cases c4 : a1 = a2
 ·replace H := ite_t c4 H
  refine V.condT (sb (decide_eq_true c4)) (V.seq (V.region (W.mv rfl (W.as rfl (W.nx (V.ret (At.thenRet ?_)))))))
  cases H
  exact At.ret1 rfl rfl ⟨_, rfl, sa0, sc0, sd0, rfl, HS⟩
 ·replace H := ite_f c4 H
  refine V.condF (sb (decide_eq_false c4)) (V.skip (At.next (V.seq (V.region (W.mv rfl (W.r (X.lenSl Try.underlying30 rfl) rfl (W.as rfl (W.nx (V.seq ?_)))))))))
  obtain ⟨c5, H⟩ := ite_n H
  obtain ⟨c6, H⟩ := ite_n H
  refine V.dr [6] [7] [(20, Value.slice sa0 a0.length sc0), (21, Value.int .i64 a1), (22, Value.slice (vaddr sa0 sc0 (0 : Int).toNat 1) (cut a0 (0 : Int) a1).length (sc0 - (0 : Int).toNat)), (23, Value.slice sa0 a0.length sc0), (24, Value.int .i64 a2), (25, Value.slice (vaddr sa0 sc0 a2.toNat 1) (cut a0 a2 (a0.length : Int)).length (sc0 - a2.toNat))] mo HS ?_
  refine T.ev [(22, _), (25, _)] [] [0, 1, 2, 3, 4, 5] ⟨rfl, rfl, trivial⟩ ⟨.mv 0, .mv 1, .n2 20 21 rfl rfl rfl (fun w HS => X.slH Try.underlying30 inf39 rfl rfl c5 (rdC.at 0 row_rd HS rfl).cap), .mv 0, .mv 2, .n2 23 24 rfl rfl rfl (fun w HS => X.slL Try.underlying30 inf39 rfl rfl c6), trivial⟩ rfl (fun w HS => ?_)
  have hlt7 : a1 < a2 := by omega
  have hd8 : 0 ≤ a1 ∧ a1 < a2 ∧ a2 ≤ (a0.length : Int) := by omega
  have hc9 : (a0.length : Int) ≤ (sc0 : Int) := Int.ofNat_le.2 (rdC.at 0 row_rd HS rfl).cap
  have hl10 : (((cut a0 (0 : Int) a1) ++ (cut a0 a2 (a0.length : Int))).length : Int) ≤ (a0.length : Int) := by rw [List.length_append, cut_len ⟨by omega, by omega, by omega⟩, cut_len ⟨by omega, by omega, by omega⟩]; omega
  refine ⟨_, Y.appDel (xs := a0) 0 Try.underlying30 ap39 (by decide) HS rfl hd8 rfl rfl (St.tie_one 1 HS rfl), ?_⟩
  rintro _ w ⟨rfl, HS⟩
  replace HS := St.tie_cut2 1 a2 (a0.length : Int) HS rfl
  replace HS := HS.fr 2
  replace HS := St.tie_cut (0 : Int) a1 HS
  replace HS := St.tie_app 1 HS rfl
  refine T.nm [(26, Value.slice sa0 ((cut a0 (0 : Int) a1) ++ (cut a0 a2 (a0.length : Int))).length sc0), (0, Value.slice sa0 ((cut a0 (0 : Int) a1) ++ (cut a0 a2 (a0.length : Int))).length sc0)] HS ⟨.inl ⟨rfl, rfl⟩, ⟨.inr ⟨by decide, rfl⟩, trivial⟩⟩ ?_
  refine T.fn [(0, _), (7, _)] ⟨rfl, rfl, trivial⟩ ⟨.as 26, trivial⟩ (fun w HS => ?_)
  refine At.next (V.seq (V.region (W.mv rfl (W.mv rfl (W.r (X.lenSl Try.underlying30 rfl) rfl (W.mv rfl (W.r (X.slC Try.underlying30 inf39 rfl rfl rfl ⟨by omega, hl10⟩ hc9) rfl (W.en (Y.clearTail (n0 := a0.length) 2 Try.underlying30 ap39 rfl rfl HS rfl (Int.ofNat_le.1 hl10) (Int.ofNat_le.1 hc9) rfl) rfl ?_))))))))
  rintro _ w HS
  refine W.nx (V.seq (V.region (W.mv rfl (W.as rfl (W.nx (V.ret ?_))))))
  replace HS := HS.pk [2, 0, 3] [1]
  cases H
  exact At.ret1 rfl rfl ⟨_, rfl, sa0, sc0, ((cutC 1 sd0 (0 : Int) a1) ++ (cutC 1 sd0 a2 (a0.length : Int))), rfl, HS⟩
end Go.Proofs.Ytnlcafmkmfnobaa

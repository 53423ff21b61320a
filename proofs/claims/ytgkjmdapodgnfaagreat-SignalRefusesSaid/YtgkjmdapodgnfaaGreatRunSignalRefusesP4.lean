/- SignalRefuses: the functions that its law reaches, as plain functions, and that the machine's calls come to what these say. Conditions: those that stand at each. -/
import Derived.Test.YtgkjmdapodgnfaaGreatRunSignalRefusesP3
set_option linter.all false
set_option maxRecDepth 100000
set_option maxHeartbeats 4000000
set_option synthInstance.maxSize 100000
set_option synthInstance.maxHeartbeats 1000000
namespace Go.Proofs.YtgkjmdapodgnfaaGreat
open Go.RowKit Go.Proofs.YtgkjmdapodgnfaaGreat.Sep Go.Proofs.YtgkjmdapodgnfaaGreat.Walk Go.Proofs.Tryz
attribute [local irreducible] V W At T Code.rounds RdO RdOk
mutual
def tally_Window_Note.j0 (a1 : Bool) (x2 : tally_Window) : Option tally_Window := (if 0 ≤ x2.at_ ∧ x2.at_ < (x2.l.length : Int) then ((tally_one.f a1).bind fun t9 => ((cxop .add x2.sum t9).bind fun t11 => (if ¬ (((x2.l.set x2.at_.toNat a1).length : Int) = 0) then some (({ l := x2.l.set x2.at_.toNat a1, at_ := (w64 (x2.at_ + 1)).tmod (((x2.l.set x2.at_.toNat a1).length : Int)), kept := x2.kept, sum := t11 } : tally_Window)) else none))) else none)
end
def tally_Window_Note.f (a0 : tally_Window) (a1 : Bool) : Option tally_Window := (if a0.kept = (a0.l.length : Int) then (if 0 ≤ a0.at_ ∧ a0.at_ < (a0.l.length : Int) then ((tally_one.f (a0.l.getD a0.at_.toNat false)).bind fun t20 => ((cxop .sub a0.sum t20).bind fun t22 => (tally_Window_Note.j0 a1 ({ a0 with sum := t22 } : tally_Window)))) else none) else (tally_Window_Note.j0 a1 ({ a0 with kept := w64 (a0.kept + 1) } : tally_Window)))
theorem tally_Window_Note.calls {a0 : tally_Window} {a1 : Bool} {R : As} {w0 w : World} {b0 : Nat} {r : tally_Window} (H : tally_Window_Note.f a0 a1 = some r) (HS : Sep.St [tally_Window.at b0 a0, R] w0 w)  : Calls Tryz.prog 269 #[pt b0, vb a1] w (Ret fun u w => u = Value.tuple #[] ∧ Sep.St [tally_Window.at b0 r, R] w0 w) := by
 unfold tally_Window_Note.f at H
 refine calls_enter func269 rfl rfl ?_
 have H : _ = some r := H
 refine V.meet (σ := tally_Window) (fun x2 w => Sep.St [tally_Window.at b0 x2, R] w0 w ∧ tally_Window_Note.j0 a1 x2 = some r) (fun x2 => [(0, pt b0), (1, vb a1)]) ?_ ?_
 ·refine go ?_
  obtain ⟨_, _, _, HS⟩ := tally_Window.open HS
  apply V.da [] [] [(4, _), (5, _), (6, _), (7, _), (8, _), (9, _), (10, _), (11, _), (12, _), (13, _)] mo HS
  rfl
  refine T.ff [0, 1, 13] fun w HS => ?_
  refine go ?_
  refine V.cd H rfl (fun _ H => ?_) (fun _ H => ?_)
  ·obtain ⟨c17, H⟩ := ite_n H
   obtain ⟨_, _, hh⟩ := (rdC.at 1 row_rd HS rfl).some (by decide) c17.1 c17.2; subst hh
   apply V.da [14, 18] [15, 16, 17] [(14, _), (15, _), (16, _), (17, _), (18, _), (19, _), (20, _), (21, _), (22, _), (23, _), (24, _), (25, _), (26, _), (27, _)] mo HS
   rfl
   refine T.e [27] [] [4, 5, 6, 7, 8, 9, 10, 11, 12, 13] (fun w HS => ?_) ⟨rd, rd, rd, rd, rd, rd, rd, rd, rd, rd, rd, rd, rd, .n1 26 rfl rfl (fun w HS => X.load underlying4 rfl rfl ((rdC.at 1 row_rd HS rfl).cellB c17.1 c17.2)), rds⟩
   refine Y.kl H func293 (fun _ h => tally_one.calls h HS.j0) ?_
   rintro _ _ w H ⟨rfl, HS⟩
   have HS := HS.o0
   obtain ⟨_, A23, H⟩ := bind_s H
   apply T.na [(28, _), (29, _), (30, _), (31, _)] HS
   exact nmk
   refine T.e [29, 31] [] [0, 1, 2, 3, 15, 16, 17] (fun w HS => ?_) ⟨rd, rd, rd, rd, .n2 17 28 rfl rfl rfl (fun w HS => X.cxop A23 rfl rfl), rds⟩
   refine Y.sr 3 HS rfl rfl rfl fun _ w HS => ?_
   refine T.nn HS ?_
   refine T.ff [0, 1] fun w HS => ?_
   have HS := tally_Window.close tv HS
   exact At.mt _ ⟨HS, H⟩
  ·refine go ?_
   refine W.sr 2 HS rfl rfl rfl fun w HS => ?_
   refine go ?_
   have HS := tally_Window.close tv HS
   exact At.mt _ ⟨HS, H⟩
 ·rintro x2 w ⟨HS, H⟩
  unfold tally_Window_Note.j0 at H
  refine go ?_
  obtain ⟨_, c0_4, _, HS⟩ := tally_Window.open HS
  obtain ⟨c6, H⟩ := ite_n H
  obtain ⟨eb7, eo8, hh⟩ := (rdC.at 1 row_rd HS rfl).some (by decide) c6.1 c6.2; subst hh
  apply V.da [10] [] [(39, _), (40, _), (41, _), (42, _), (43, _), (44, _), (45, _), (46, _), (47, _), (48, _)] mo HS
  rfl
  refine T.e [47, 48] [] [0, 1, 2, 3, 4, 5, 6, 7, 8, 9] fun w HS => ?_
  refine ⟨_, Y.storeRowN vb (fun _ => rfl) 1 HS rfl inf4 rfl rfl c6.1 c6.2, ?_⟩
  rintro _ w HS
  refine T.nn HS ?_
  refine T.ff [0, 1] fun w HS => ?_
  have HS : Sep.St [blk b0 (#[vs (some ⟨eb7, eo8, none⟩) (x2.l.set x2.at_.toNat a1).length c0_4, vi x2.at_, vi x2.kept, Value.complex .f64 x2.sum.1 x2.sum.2]) 254, row 4 1 (.slice (some ⟨eb7, eo8, none⟩) (x2.l.set x2.at_.toNat a1).length c0_4) (x2.l.set x2.at_.toNat a1).length ((x2.l.set x2.at_.toNat a1).map Value.bool), R] w0 w := by simpa only [List.length_set, List.set_cons_succ, List.set_cons_zero] using HS
  refine go ?_
  apply V.da [5, 9] [6, 7, 8] [(49, _), (50, _), (51, _), (52, _), (53, _)] mo HS
  rfl
  refine T.e [53] [] [4] fun w HS => ?_
  refine Y.kl H func293 (fun _ h => tally_one.calls h HS.j0) ?_
  rintro _ _ w H ⟨rfl, HS⟩
  have HS := HS.o0
  obtain ⟨_, A12, H⟩ := bind_s H
  apply T.na [(54, _), (55, _), (56, _), (57, _)] HS
  exact nmk
  refine T.e [55, 57] [] [0, 1, 2, 3, 6, 7, 8] (fun w HS => ?_) ⟨rd, rd, rd, rd, .n2 52 54 rfl rfl rfl (fun w HS => X.cxop A12 rfl rfl), rds⟩
  refine Y.sr 3 HS rfl rfl rfl fun _ w HS => ?_
  refine T.nn HS ?_
  refine T.ff [0] fun w HS => ?_
  refine go ?_
  obtain ⟨c13, H⟩ := ite_n H
  apply V.da [14] [] [(58, _), (59, _), (60, _), (61, _), (62, _), (63, _), (64, _), (65, _), (66, _), (67, _), (68, _), (69, _), (70, _), (71, _)] mo HS
  rfl
  refine T.e [69, 71] [] [0, 1, 2, 3, 4, 5, 6, 7, 8, 9, 10, 11, 12, 13] (fun w HS => ?_) ⟨rd, rd, rd, rd, rd, rd, rd, rd, rd, rd, rd, .n2 63 68 rfl rfl rfl (fun w HS => X.rem rfl rfl c13), rds⟩
  refine Y.sr 1 HS rfl rfl rfl fun _ w HS => ?_
  refine T.nn HS ?_
  refine T.ff [] fun w HS => ?_
  have HS := tally_Window.close tv HS
  exact rt
def tally_Window_Sum.f (a0 : tally_Window) : Option (Nat × Nat) := some a0.sum
theorem tally_Window_Sum.calls {a0 : tally_Window} {R : As} {w0 w : World} {b0 : Nat} {a0_p0 : Option Addr} {c0_p0 : Nat} {r : (Nat × Nat)} (H : tally_Window_Sum.f a0 = some r) (HS : Sep.St [blk b0 (#[vs a0_p0 a0.l.length c0_p0, vi a0.at_, vi a0.kept, Value.complex .f64 a0.sum.1 a0.sum.2]) 254, row 4 1 (.slice a0_p0 a0.l.length c0_p0) a0.l.length (a0.l.map Value.bool), R] w0 w)  : Calls Tryz.prog 271 #[pt b0] w (Ret fun u w => u = Value.complex .f64 r.1 r.2 ∧ Sep.St [blk b0 (#[vs a0_p0 a0.l.length c0_p0, vi a0.at_, vi a0.kept, Value.complex .f64 a0.sum.1 a0.sum.2]) 254, row 4 1 (.slice a0_p0 a0.l.length c0_p0) a0.l.length (a0.l.map Value.bool), R] w0 w) := by
 refine calls_enter func271 rfl rfl ?_
 refine go ?_
 exact rt
mutual
def tally_count.j0 (a0 : Nat) (x1 : Bool) : Option (Int × Bool) := (if x1 = true then some (0, false) else ((f2i .i64 a0).bind fun t4 => some (t4, fcmp .eql (FloatKind.f64.nearest t4) a0)))
end
def tally_count.f (a0 : Nat) : Option (Int × Bool) := (if fcmp .geq a0 (0 : Nat) = true then (tally_count.j0 a0 (!(fcmp .leq a0 (4751297606873776128 : Nat)))) else (tally_count.j0 a0 true))
theorem tally_count.calls {a0 : Nat} {R : As} {w0 w : World}  {r : Int × Bool} (H : tally_count.f a0 = some r) (HS : Sep.St [R] w0 w)  : Calls Tryz.prog 294 #[Value.float .f64 a0] w (Ret fun u w => u = Value.tuple #[vi r.1, vb r.2] ∧ Sep.St [R] w0 w) := by
 refine calls_enter func294 rfl rfl ?_
 refine V.seq ?_
 refine gs ?_
 refine V.seq ?_
 refine V.meet (σ := Bool) (fun x1 w => Sep.St [R] w0 w ∧ tally_count.j0 a0 x1 = some r) (fun x1 => [(0, Value.float .f64 a0), (11, vb x1)]) ?_ ?_
 ·refine go ?_
  refine W.r (X.fcmp (fcmp .geq a0 (0 : Nat)) rfl (by decide) rfl rfl) rfl ?_
  refine go ?_
  refine W.cv 7 H rfl (fun _ H => ?_) (fun _ H => ?_)
  ·refine go ?_
   refine W.r (X.fcmp (fcmp .leq a0 (4751297606873776128 : Nat)) rfl (by decide) rfl rfl) rfl ?_
   refine go ?_
   exact At.mt _ ⟨HS, H⟩
  ·refine go ?_
   exact At.mt _ ⟨HS, H⟩
 ·rintro x1 w ⟨HS, H⟩
  refine V.cv H rfl (fun _ H => ?_) (fun _ H => ?_)
  ·refine go ?_
   exact rt
  ·refine go ?_
   obtain ⟨t4, A5, H⟩ := bind_s H
   refine W.r (X.f2i A5 underlying303 underlying3 rfl) rfl ?_
   refine go ?_
   refine W.r (X.i2f underlying3 underlying303 rfl) rfl ?_
   refine go ?_
   refine W.r (X.fcmp (fcmp .eql (FloatKind.f64.nearest t4) a0) rfl (by decide) rfl rfl) rfl ?_
   refine go ?_
   exact rt
mutual
def tally_Parts.j0 (t1 : Int × Bool) (t3 : Int × Bool) (x5 : Bool) : Option (Int × Int × Bool) := (if x5 = true then some (0, 0, false) else some (t1.1, t3.1, true))
end
def tally_Parts.f (a0 : (Nat × Nat)) : Option (Int × Int × Bool) := ((tally_count.f a0.1).bind fun t1 => ((tally_count.f a0.2).bind fun t3 => (if t1.2 = true then (tally_Parts.j0 t1 t3 (!t3.2)) else (tally_Parts.j0 t1 t3 true))))
theorem tally_Parts.calls {a0 : (Nat × Nat)} {R : As} {w0 w : World}  {r : Int × Int × Bool} (H : tally_Parts.f a0 = some r) (HS : Sep.St [R] w0 w)  : Calls Tryz.prog 270 #[Value.complex .f64 a0.1 a0.2] w (Ret fun u w => u = Value.tuple #[vi r.1, vi r.2.1, vb r.2.2] ∧ Sep.St [R] w0 w) := by
 refine calls_enter func270 rfl rfl ?_
 refine go ?_
 refine W.r (X.real rfl) rfl ?_
 refine W.kl H func294 (fun _ h => tally_count.calls h HS.j0) ?_
 rintro t1 _ w H ⟨rfl, HS⟩
 have HS := HS.o0
 refine go ?_
 refine W.r (X.imag rfl) rfl ?_
 refine W.kl H func294 (fun _ h => tally_count.calls h HS.j0) ?_
 rintro t3 _ w H ⟨rfl, HS⟩
 have HS := HS.o0
 refine gs ?_
 refine V.seq ?_
 refine V.meet (σ := Bool) (fun x5 w => Sep.St [R] w0 w ∧ tally_Parts.j0 t1 t3 x5 = some r) (fun x5 => [(5, vi t1.1), (7, vi t3.1), (26, vb x5)]) ?_ ?_
 ·refine go ?_
  refine W.cx 23 H rfl (fun _ H => ?_) (fun _ H => ?_)
  ·refine go ?_
   exact At.mt _ ⟨HS, H⟩
  ·refine go ?_
   exact At.mt _ ⟨HS, H⟩
 ·rintro x5 w ⟨HS, H⟩
  refine V.cv H rfl (fun _ H => ?_) (fun _ H => ?_)
  ·refine go ?_
   exact rt
  ·refine go ?_
   exact rt
def tally_Window_Clear.f (a0 : tally_Window) : Option tally_Window := some (({ l := a0.l, at_ := 0, kept := 0, sum := ((0, 0) : Nat × Nat) } : tally_Window))
theorem tally_Window_Clear.calls {a0 : tally_Window} {R : As} {w0 w : World} {b0 : Nat} {r : tally_Window} (H : tally_Window_Clear.f a0 = some r) (HS : Sep.St [tally_Window.at b0 a0, R] w0 w)  : Calls Tryz.prog 272 #[pt b0] w (Ret fun u w => u = Value.tuple #[] ∧ Sep.St [tally_Window.at b0 r, R] w0 w) := by
 refine calls_enter func272 rfl rfl ?_
 refine go ?_
 obtain ⟨a0_1, c0_1, _, HS⟩ := tally_Window.open HS
 refine go ?_
 refine W.r (X.bd (Value.agg #[vs a0_1 a0.l.length c0_1, vi (0), vi (0), Value.complex .f64 (((0, 0) : Nat × Nat)).1 (((0, 0) : Nat × Nat)).2]) rfl (fun _ => by kernel_rfl)) rfl ?_
 refine go ?_
 refine W.en (Y.storeSt (c' := #[vs a0_1 a0.l.length c0_1, vi (0), vi (0), Value.complex .f64 (((0, 0) : Nat × Nat)).1 (((0, 0) : Nat × Nat)).2]) 0 [vs a0_1 a0.l.length c0_1, vi (0), vi (0), Value.complex .f64 (((0, 0) : Nat × Nat)).1 (((0, 0) : Nat × Nat)).2] HS rfl inf254 rfl rfl rfl rfl rfl rfl) rfl ?_
 rintro _ w HS
 refine go ?_
 have HS := tally_Window.close tv HS
 exact rt
mutual
def monitor_Monitor_Note.j2 (x7 : monitor_Monitor) (x30 : Bool) : Option (Int × monitor_Monitor) := (if x30 = true then some (1, ({ x7 with state := 1 } : monitor_Monitor)) else some (x7.state, x7))
def monitor_Monitor_Note.j1 (x7 : monitor_Monitor) (t15 : Int × Int × Bool) (x19 : Bool) : Option (Int × monitor_Monitor) := (if x19 = true then ((tally_Window_Clear.f x7.w).bind fun t24 => some (0, ({ x7 with w := t24, state := 0 } : monitor_Monitor))) else (if t15.2.1 ≥ x7.bad then some (2, ({ x7 with state := 2 } : monitor_Monitor)) else (if t15.2.1 ≥ (w64 ((w64 (x7.bad + 1)).tdiv (2))) then (monitor_Monitor_Note.j2 x7 (decide (x7.state = 0))) else (monitor_Monitor_Note.j2 x7 false))))
def monitor_Monitor_Note.j0  (x7 : monitor_Monitor) : Option (Int × monitor_Monitor) := ((tally_Window_Sum.f x7.w).bind fun t13 => ((tally_Parts.f t13).bind fun t15 => (if x7.state = 0 then (monitor_Monitor_Note.j1 x7 t15 false) else (monitor_Monitor_Note.j1 x7 t15 (decide (x7.row ≥ x7.good))))))
end
def monitor_Monitor_Note.f (a0 : monitor_Monitor) (a1 : Bool) : Option (Int × monitor_Monitor) := ((tally_Window_Note.f a0.w a1).bind fun t3 => (if a1 = true then (monitor_Monitor_Note.j0 ({ a0 with w := t3, row := imin (w64 (a0.row + 1)) (16), silence := 0 } : monitor_Monitor)) else (monitor_Monitor_Note.j0 ({ a0 with w := t3, row := 0, silence := 0 } : monitor_Monitor))))
theorem monitor_Monitor_Note.calls {a0 : monitor_Monitor} {a1 : Bool} {R : As} {w0 w : World} {b0 : Nat} {r : Int × monitor_Monitor} (H : monitor_Monitor_Note.f a0 a1 = some r) (HS : Sep.St [monitor_Monitor.at b0 a0, R] w0 w)  : Calls Tryz.prog 232 #[pt b0, vb a1] w (Ret fun u w => u = vi r.1 ∧ Sep.St [monitor_Monitor.at b0 r.2, R] w0 w) := by
 refine calls_enter func232 rfl rfl ?_
 refine go ?_
 obtain ⟨_, _, HS⟩ := monitor_Monitor.open HS
 refine go ?_
 have HS := HS.b [1]
 refine W.kl H func269 (fun _ h => tally_Window_Note.calls h HS.j1) ?_
 rintro _ _ w H ⟨rfl, HS⟩
 have HS := HS.o1
 refine go ?_
 refine W.sr 5 HS rfl rfl rfl fun w HS => ?_
 refine go ?_
 refine W.sr 4 HS rfl rfl rfl fun w HS => ?_
 refine gs ?_
 refine V.meet (σ := monitor_Monitor) (fun x7 w => Sep.St [monitor_Monitor.at b0 x7, R] w0 w ∧ monitor_Monitor_Note.j0 x7 = some r) (fun x7 => [(0, pt b0)]) ?_ ?_
 ·refine go ?_
  refine V.cx H rfl (fun _ H => ?_) (fun _ H => ?_)
  ·refine go ?_
   have HS := monitor_Monitor.close tv (HS.b [1])
   exact At.mt _ ⟨HS, H⟩
  ·refine go ?_
   refine W.sr 4 HS rfl rfl rfl fun w HS => ?_
   refine go ?_
   have HS := monitor_Monitor.close tv (HS.b [1])
   exact At.mt _ ⟨HS, H⟩
 ·rintro x7 w ⟨HS, H⟩
  refine go ?_
  obtain ⟨_, _, HS⟩ := monitor_Monitor.open HS
  refine go ?_
  have HS := HS.fr 1
  obtain ⟨_, _, _, HS⟩ := tally_Window.open HS
  refine W.kl H func271 (fun _ h => tally_Window_Sum.calls h HS.j2) ?_
  rintro _ _ w H ⟨rfl, HS⟩
  have HS := HS.o2
  refine W.kl H func270 (fun _ h => tally_Parts.calls h HS.j0) ?_
  rintro t15 _ w H ⟨rfl, HS⟩
  have HS := HS.o0
  refine gs ?_
  refine V.seq ?_
  refine gs ?_
  refine V.meet (σ := Bool) (fun x19 w => Sep.St [monitor_Monitor.at b0 x7, R] w0 w ∧ monitor_Monitor_Note.j1 x7 t15 x19 = some r) (fun x19 => [(0, pt b0), (6, vi t15.2.1), (41, vb x19)]) ?_ ?_
  ·refine ite_c H (fun c38 H => ?_) (fun c38 H => ?_)
   ·apply V.da [] [] [(42, _), (43, _), (44, _), (45, _), (46, _), (47, _), (48, _), (49, _), (50, _), (51, _), (52, _), (53, _), (54, _), (55, _), (56, _), (57, _), (41, _)] mo HS
    rfl
    refine T.ff [0, 6, 41] fun w HS => ?_
    have HS := monitor_Monitor.close tv ((tally_Window.close tv HS).b [1])
    exact At.mt _ ⟨HS, H⟩
   ·apply V.da [] [] [(42, _), (43, _), (44, _), (45, _), (46, _), (47, _), (48, _), (49, _), (50, _), (51, _), (52, _), (53, _), (54, _), (55, _), (56, _), (57, _), (41, _)] mo HS
    rfl
    refine T.ff [0, 6, 41] fun w HS => ?_
    have HS := monitor_Monitor.close tv ((tally_Window.close tv HS).b [1])
    exact At.mt _ ⟨HS, H⟩
  ·rintro x19 w ⟨HS, H⟩
   refine V.cv H rfl (fun _ H => ?_) (fun _ H => ?_)
   ·refine go ?_
    obtain ⟨_, _, HS⟩ := monitor_Monitor.open HS
    refine go ?_
    have HS := HS.b [1]
    refine W.kl H func272 (fun _ h => tally_Window_Clear.calls h HS.j1) ?_
    rintro _ _ w H ⟨rfl, HS⟩
    have HS := HS.o1
    refine go ?_
    refine W.sr 6 HS rfl rfl rfl fun w HS => ?_
    refine go ?_
    have HS := monitor_Monitor.close tv (HS.b [1])
    exact rt
   ·refine go ?_
    obtain ⟨_, _, HS⟩ := monitor_Monitor.open HS
    refine go ?_
    refine V.cd H rfl (fun _ H => ?_) (fun _ H => ?_)
    ·refine go ?_
     refine W.sr 6 HS rfl rfl rfl fun w HS => ?_
     refine go ?_
     have HS := monitor_Monitor.close tv HS
     exact rt
    ·refine V.meet (σ := Bool) (fun x30 w => Sep.St [monitor_Monitor.at b0 x7, R] w0 w ∧ monitor_Monitor_Note.j2 x7 x30 = some r) (fun x30 => [(0, pt b0), (76, vb x30)]) ?_ ?_
     ·refine go ?_
      refine W.r (X.quo rfl rfl (by decide)) rfl ?_
      refine go ?_
      refine W.cd 85 H rfl (fun _ H => ?_) (fun _ H => ?_)
      ·refine go ?_
       have HS := monitor_Monitor.close tv HS
       exact At.mt _ ⟨HS, H⟩
      ·refine go ?_
       have HS := monitor_Monitor.close tv HS
       exact At.mt _ ⟨HS, H⟩
     ·rintro x30 w ⟨HS, H⟩
      refine V.cv H rfl (fun _ H => ?_) (fun _ H => ?_)
      ·refine go ?_
       obtain ⟨_, _, HS⟩ := monitor_Monitor.open HS
       refine go ?_
       refine W.sr 6 HS rfl rfl rfl fun w HS => ?_
       refine go ?_
       have HS := monitor_Monitor.close tv HS
       exact rt
      ·refine go ?_
       obtain ⟨_, _, HS⟩ := monitor_Monitor.open HS
       refine go ?_
       have HS := monitor_Monitor.close tv HS
       exact rt
def aps_Aps_Line.f (a0 : aps_Aps) : Option Int := some a0.line
theorem aps_Aps_Line.calls {a0 : aps_Aps} {R : As} {w0 w : World} {b0 : Nat} {r : Int} (H : aps_Aps_Line.f a0 = some r) (HS : Sep.St [blk b0 (#[vi a0.hold, vi a0.wait, vb a0.revert, vi a0.command, vi a0.remote, vi a0.own, vi a0.bad, vi a0.left, vi a0.line]) 158, R] w0 w)  : Calls Tryz.prog 47 #[pt b0] w (Ret fun u w => u = vi r ∧ Sep.St [blk b0 (#[vi a0.hold, vi a0.wait, vb a0.revert, vi a0.command, vi a0.remote, vi a0.own, vi a0.bad, vi a0.left, vi a0.line]) 158, R] w0 w) := by
 refine calls_enter func47 rfl rfl ?_
 refine go ?_
 exact rt
def twins_Table_first.f (a0 : twins_Table) (a1 : Int) : Option (Bool × twins_Table) := (if ¬ ((a0.came.length : Int) = 0) then (if 0 ≤ (w64 ((w64 (a0.at_ + (a0.came.length : Int))) - a1)).tmod (a0.came.length : Int) ∧ (w64 ((w64 (a0.at_ + (a0.came.length : Int))) - a1)).tmod (a0.came.length : Int) < (a0.came.length : Int) then some (!(a0.came.getD ((w64 ((w64 (a0.at_ + (a0.came.length : Int))) - a1)).tmod (a0.came.length : Int)).toNat false), ({ a0 with came := a0.came.set ((w64 ((w64 (a0.at_ + (a0.came.length : Int))) - a1)).tmod (a0.came.length : Int)).toNat true } : twins_Table)) else none) else none)
theorem twins_Table_first.calls {a0 : twins_Table} {a1 : Int} {R : As} {w0 w : World} {b0 : Nat} {r : Bool × twins_Table} (H : twins_Table_first.f a0 a1 = some r) (HS : Sep.St [twins_Table.at b0 a0, R] w0 w)  : Calls Tryz.prog 295 #[pt b0, vi a1] w (Ret fun u w => u = vb r.1 ∧ Sep.St [twins_Table.at b0 r.2, R] w0 w) := by
 unfold twins_Table_first.f at H
 refine calls_enter func295 rfl rfl ?_
 have H : _ = some r := H
 refine go ?_
 obtain ⟨_, c3_1, _, HS⟩ := twins_Table.open HS
 refine go ?_
 obtain ⟨c3, H⟩ := ite_n H
 obtain ⟨c4, H⟩ := ite_n H
 obtain ⟨eb5, eo6, hh⟩ := (rdC.at 1 row_rd HS rfl).some (by decide) c4.1 c4.2; subst hh
 apply V.da [] [] [(13, _), (14, _), (15, _), (16, _), (17, _), (18, _), (19, _), (20, _), (21, _), (22, _), (23, _), (24, _), (25, _), (26, _), (27, _), (6, _)] mo HS
 rfl
 refine T.ff [6] (fun w HS => ?_) ⟨rd, rd, rd, rd, rd, rd, rd, rd, rd, rd, rd, rd, rd, .n2 24 25 rfl rfl rfl (fun w HS => X.rem rfl rfl c3), rds⟩
 refine go ?_
 refine W.r (X.load underlying4 rfl rfl ((rdC.at 1 row_rd HS rfl).cellB c4.1 c4.2)) rfl ?_
 refine go ?_
 refine W.en (Y.storeRowF vb (fun _ => rfl) 1 HS rfl inf4 rfl rfl c4.1 c4.2) rfl ?_
 rintro _ w HS
 have HS : Sep.St [blk b0 (#[vb a0.known, Value.int .u32 a0.highest, vi a0.at_, vs (some ⟨eb5, eo6, none⟩) (a0.came.set ((w64 ((w64 (a0.at_ + (a0.came.length : Int))) - a1)).tmod (a0.came.length : Int)).toNat true).length c3_1]) 216, row 4 1 (.slice (some ⟨eb5, eo6, none⟩) (a0.came.set ((w64 ((w64 (a0.at_ + (a0.came.length : Int))) - a1)).tmod (a0.came.length : Int)).toNat true).length c3_1) (a0.came.set ((w64 ((w64 (a0.at_ + (a0.came.length : Int))) - a1)).tmod (a0.came.length : Int)).toNat true).length ((a0.came.set ((w64 ((w64 (a0.at_ + (a0.came.length : Int))) - a1)).tmod (a0.came.length : Int)).toNat true).map Value.bool), R] w0 w := by simpa only [List.length_set, List.set_cons_succ, List.set_cons_zero] using HS
 refine go ?_
 have HS := twins_Table.close tv HS
 exact rt
def twins_Table_raise.f (a0 : twins_Table) : Option twins_Table := (if ¬ ((a0.came.length : Int) = 0) then (if 0 ≤ (w64 (a0.at_ + 1)).tmod (a0.came.length : Int) ∧ (w64 (a0.at_ + 1)).tmod (a0.came.length : Int) < (a0.came.length : Int) then some (({ a0 with at_ := (w64 (a0.at_ + 1)).tmod (a0.came.length : Int), came := a0.came.set ((w64 (a0.at_ + 1)).tmod (a0.came.length : Int)).toNat false } : twins_Table)) else none) else none)
theorem twins_Table_raise.calls {a0 : twins_Table} {R : As} {w0 w : World} {b0 : Nat} {r : twins_Table} (H : twins_Table_raise.f a0 = some r) (HS : Sep.St [twins_Table.at b0 a0, R] w0 w)  : Calls Tryz.prog 296 #[pt b0] w (Ret fun u w => u = Value.tuple #[] ∧ Sep.St [twins_Table.at b0 r, R] w0 w) := by
 unfold twins_Table_raise.f at H
 refine calls_enter func296 rfl rfl ?_
 have H : _ = some r := H
 refine go ?_
 obtain ⟨_, c3_1, _, HS⟩ := twins_Table.open HS
 obtain ⟨c3, H⟩ := ite_n H
 apply V.da [14] [] [(2, _), (3, _), (4, _), (5, _), (6, _), (7, _), (8, _), (9, _), (10, _), (11, _), (12, _), (13, _), (14, _), (15, _)] mo HS
 rfl
 refine T.e [13, 15] [] [0, 1, 2, 3, 4, 5, 6, 7, 8, 9, 10, 11, 12, 13] (fun w HS => ?_) ⟨rd, rd, rd, rd, rd, rd, rd, rd, rd, rd, rd, .n2 7 12 rfl rfl rfl (fun w HS => X.rem rfl rfl c3), rds⟩
 refine Y.sr 2 HS rfl rfl rfl fun _ w HS => ?_
 refine T.nn HS ?_
 refine T.ff [0] fun w HS => ?_
 refine go ?_
 obtain ⟨c4, H⟩ := ite_n H
 obtain ⟨eb5, eo6, hh⟩ := (rdC.at 1 row_rd HS rfl).some (by decide) c4.1 c4.2; subst hh
 apply V.da [9] [] [(16, _), (17, _), (18, _), (19, _), (20, _), (21, _), (22, _), (23, _), (24, _)] mo HS
 rfl
 refine T.e [24] [] [0, 1, 2, 3, 4, 5, 6, 7, 8] fun w HS => ?_
 refine ⟨_, Y.storeRowN vb (fun _ => rfl) 1 HS rfl inf4 rfl rfl c4.1 c4.2, ?_⟩
 rintro _ w HS
 refine T.nn HS ?_
 refine T.ff [] fun w HS => ?_
 have HS : Sep.St [blk b0 (#[vb a0.known, Value.int .u32 a0.highest, vi ((w64 (a0.at_ + 1)).tmod (a0.came.length : Int)), vs (some ⟨eb5, eo6, none⟩) (a0.came.set ((w64 (a0.at_ + 1)).tmod (a0.came.length : Int)).toNat false).length c3_1]) 216, row 4 1 (.slice (some ⟨eb5, eo6, none⟩) (a0.came.set ((w64 (a0.at_ + 1)).tmod (a0.came.length : Int)).toNat false).length c3_1) (a0.came.set ((w64 (a0.at_ + 1)).tmod (a0.came.length : Int)).toNat false).length ((a0.came.set ((w64 (a0.at_ + 1)).tmod (a0.came.length : Int)).toNat false).map Value.bool), R] w0 w := by simpa only [List.length_set, List.set_cons_succ, List.set_cons_zero] using HS
 have HS := twins_Table.close tv HS
 exact rt
mutual
def twins_Table_Fresh.l0 : Nat → twins_Table → Int → Int → twins_Table → Option (Bool × twins_Table)
 | 0, _, _, _, _ => none
 | k + 1, a0, a1, x8, x9 => (if x8 < (imin (IntKind.u32.wrap (a1 - a0.highest)) (IntKind.u32.wrap (a0.came.length : Int))) then ((twins_Table_raise.f x9).bind fun t13 => (twins_Table_Fresh.l0 k a0 a1 (IntKind.u32.wrap (x8 + 1)) t13)) else ((twins_Table_first.f ({ x9 with highest := a1 } : twins_Table) 0).bind fun t17 => some t17))
end
def twins_Table_Fresh.f (k : Nat) (a0 : twins_Table) (a1 : Int) : Option (Bool × twins_Table) := (if a0.known = true then (if (IntKind.u32.wrap (a0.highest - a1)) = 0 then some (false, a0) else (if (IntKind.u32.wrap (a1 - a0.highest)) < 2147483648 then (twins_Table_Fresh.l0 k a0 a1 0 a0) else (if (IntKind.u32.wrap (a0.highest - a1)) < (IntKind.u32.wrap (a0.came.length : Int)) then ((twins_Table_first.f a0 (w64 (IntKind.u32.wrap (a0.highest - a1)))).bind fun t20 => some t20) else some (false, a0)))) else ((twins_Table_first.f ({ a0 with known := true, highest := a1 } : twins_Table) 0).bind fun t22 => some t22))
theorem twins_Table_Fresh.calls {k : Nat} {a0 : twins_Table} {a1 : Int} {R : As} {w0 w : World} {b0 : Nat} {r : Bool × twins_Table} (H : twins_Table_Fresh.f k a0 a1 = some r) (HS : Sep.St [twins_Table.at b0 a0, R] w0 w)  : Calls Tryz.prog 273 #[pt b0, Value.int .u32 a1] w (Ret fun u w => u = vb r.1 ∧ Sep.St [twins_Table.at b0 r.2, R] w0 w) := by
 refine calls_enter func273 rfl rfl ?_
 refine go ?_
 obtain ⟨_, _, _, HS⟩ := twins_Table.open HS
 refine go ?_
 refine V.cx H rfl (fun _ H => ?_) (fun _ H => ?_)
 ·refine go ?_
  apply V.da [] [] [(21, _), (22, _), (23, _), (24, _), (25, _), (26, _), (27, _), (28, _), (29, _), (30, _), (31, _), (32, _), (5, _), (6, _)] mo HS
  rfl
  refine T.ff [0, 1, 5, 6] fun w HS => ?_
  refine go ?_
  refine V.cd H rfl (fun _ H => ?_) (fun _ H => ?_)
  ·refine go ?_
   have HS := twins_Table.close tv HS
   exact rt
  ·refine go ?_
   refine V.cd H rfl (fun _ H => ?_) (fun _ H => ?_)
   ·refine go ?_
    have HS := twins_Table.close tv HS
    refine V.lp (σ := Int × twins_Table) (fun kq (x8, x9) w => Sep.St [twins_Table.at b0 x9, R] w0 w ∧ twins_Table_Fresh.l0 kq a0 a1 x8 x9 = some r ∧ kq ≤ k) (fun (x8, x9) => [(0, pt b0), (1, Value.int .u32 a1), (46, Value.int .u32 (imin (IntKind.u32.wrap (a1 - a0.highest)) (IntKind.u32.wrap (a0.came.length : Int)))), (47, Value.int .u32 x8)]) (_, _) ⟨HS, H, Nat.le_refl _⟩ ?_
    rintro kq10 ⟨x8, x9⟩ w ⟨HS, H, _⟩
    cases kq10 with
    | zero => exact absurd H (by simp [twins_Table_Fresh.l0])
    | succ kq10 =>
     simp only [twins_Table_Fresh.l0] at H
     refine go ?_
     refine V.cd H rfl (fun _ H => ?_) (fun _ H => ?_)
     ·refine go ?_
      refine W.kl H func296 (fun _ h => twins_Table_raise.calls h HS.j1) ?_
      rintro _ _ w H ⟨rfl, HS⟩
      have HS := HS.o1
      refine go ?_
      exact At.rn (_, _) ⟨HS, H, by omega⟩
     ·refine go ?_
      obtain ⟨_, _, _, HS⟩ := twins_Table.open HS
      refine go ?_
      refine W.sr 1 HS rfl rfl rfl fun w HS => ?_
      refine go ?_
      have HS := twins_Table.close tv HS
      refine W.kl H func295 (fun _ h => twins_Table_first.calls h HS.j1) ?_
      rintro _ _ w H ⟨rfl, HS⟩
      have HS := HS.o1
      refine go ?_
      exact rt
   ·refine go ?_
    refine W.cd 66 H rfl (fun _ H => ?_) (fun _ H => ?_)
    ·refine go ?_
     have HS := twins_Table.close tv HS
     refine W.kl H func295 (fun _ h => twins_Table_first.calls h HS.j1) ?_
     rintro _ _ w H ⟨rfl, HS⟩
     have HS := HS.o1
     refine go ?_
     exact rt
    ·refine go ?_
     have HS := twins_Table.close tv HS
     exact rt
 ·refine go ?_
  refine W.sr 0 HS rfl rfl rfl fun w HS => ?_
  refine go ?_
  refine W.sr 1 HS rfl rfl rfl fun w HS => ?_
  refine go ?_
  have HS := twins_Table.close tv HS
  refine W.kl H func295 (fun _ h => twins_Table_first.calls h HS.j1) ?_
  rintro _ _ w H ⟨rfl, HS⟩
  have HS := HS.o1
  refine go ?_
  exact rt
mutual
def slices_Index_Sbytebyte.l0 : Nat → (List Int) → Int → Int → Option Int
 | 0, _, _, _ => none
 | k + 1, a0, a1, x1 => (if x1 < (a0.length : Int) then (if 0 ≤ x1 ∧ x1 < (a0.length : Int) then (if a1 = (a0.getD x1.toNat 0) then some x1 else (slices_Index_Sbytebyte.l0 k a0 a1 (w64 (x1 + 1)))) else none) else some (-1))
end
def slices_Index_Sbytebyte.f (k : Nat) (a0 : List Int) (a1 : Int) : Option Int := (slices_Index_Sbytebyte.l0 k a0 a1 0)
theorem slices_Index_Sbytebyte.calls {k : Nat} {a0 : List Int} {a1 : Int} {R : As} {w0 w : World} {sa0 : Option Addr} {sc0 : Nat} {r : Int} (H : slices_Index_Sbytebyte.f k a0 a1 = some r) (HS : Sep.St [R] w0 w) (hr0 : rdC R 1 (.slice sa0 a0.length sc0) a0.length (a0.map (Value.int .u8))) : Calls Tryz.prog 312 #[vs sa0 a0.length sc0, Value.int .u8 a1] w (Ret fun u w => u = vi r ∧ Sep.St [R] w0 w) := by
 refine calls_enter func312 rfl rfl ?_
 refine go ?_
 refine V.lp (σ := Int) (fun kq x1 w => Sep.St [R] w0 w ∧ slices_Index_Sbytebyte.l0 kq a0 a1 x1 = some r ∧ kq ≤ k) (fun x1 => [(0, vs sa0 a0.length sc0), (1, Value.int .u8 a1), (7, vi (a0.length : Int)), (8, vi x1)]) _ ⟨HS, H, Nat.le_refl _⟩ ?_
 rintro kq2 x1 w ⟨HS, H, _⟩
 cases kq2 with
 | zero => exact absurd H (by simp [slices_Index_Sbytebyte.l0])
 | succ kq2 =>
  simp only [slices_Index_Sbytebyte.l0] at H
  refine go ?_
  refine V.cd H rfl (fun _ H => ?_) (fun _ H => ?_)
  ·refine go ?_
   obtain ⟨c5, H⟩ := ite_n H
   obtain ⟨_, _, hh⟩ := (rdC.at 0 hr0 HS rfl).some (by decide) c5.1 c5.2; subst hh
   refine go ?_
   refine W.r (X.load underlying5 rfl rfl ((rdC.at 0 hr0 HS rfl).cellI c5.1 c5.2)) rfl ?_
   refine go ?_
   refine V.cd H rfl (fun _ H => ?_) (fun _ H => ?_)
   ·refine go ?_
    exact rt
   ·refine go ?_
    exact At.rn _ ⟨HS, H, by omega⟩
  ·refine go ?_
   exact rt
mutual
def control_number.l0 : Nat → (List Int) → Int → Int → Option Int
 | 0, _, _, _ => none
 | k + 1, a0, x1, x2 => (if x2 < (a0.length : Int) then (if 0 ≤ x2 ∧ x2 < (a0.length : Int) then (if ¬ (w64 (8 * x2) < 0) then (control_number.l0 k a0 (ior .i64 x1 (w64 ((w64 (a0.getD x2.toNat 0)) * 2 ^ (min (w64 (8 * x2)).toNat IntKind.i64.bits)))) (w64 (x2 + 1))) else none) else none) else some x1)
end
def control_number.f (k : Nat) (a0 : List Int) : Option Int := (control_number.l0 k a0 0 0)
theorem control_number.calls {k : Nat} {a0 : List Int} {R : As} {w0 w : World} {sa0 : Option Addr} {sc0 : Nat} {r : Int} (H : control_number.f k a0 = some r) (HS : Sep.St [R] w0 w) (hr0 : rdC R 1 (.slice sa0 a0.length sc0) a0.length (a0.map (Value.int .u8))) : Calls Tryz.prog 313 #[vs sa0 a0.length sc0] w (Ret fun u w => u = vi r ∧ Sep.St [R] w0 w) := by
 refine calls_enter func313 rfl rfl ?_
 refine go ?_
 refine V.lp (σ := Int × Int) (fun kq (x1, x2) w => Sep.St [R] w0 w ∧ control_number.l0 kq a0 x1 x2 = some r ∧ kq ≤ k) (fun (x1, x2) => [(3, vi x1), (6, vs sa0 a0.length sc0), (7, vi (a0.length : Int)), (8, vi x2)]) (_, _) ⟨HS, H, Nat.le_refl _⟩ ?_
 rintro kq3 ⟨x1, x2⟩ w ⟨HS, H, _⟩
 cases kq3 with
 | zero => exact absurd H (by simp [control_number.l0])
 | succ kq3 =>
  simp only [control_number.l0] at H
  refine go ?_
  refine V.cd H rfl (fun _ H => ?_) (fun _ H => ?_)
  ·refine go ?_
   obtain ⟨c6, H⟩ := ite_n H
   obtain ⟨_, _, hh⟩ := (rdC.at 0 hr0 HS rfl).some (by decide) c6.1 c6.2; subst hh
   refine go ?_
   refine W.r (X.load underlying5 rfl rfl ((rdC.at 0 hr0 HS rfl).cellI c6.1 c6.2)) rfl ?_
   refine go ?_
   obtain ⟨c9, H⟩ := ite_n H
   refine W.r (X.shl rfl rfl c9) rfl ?_
   refine W.r (X.or rfl rfl) rfl ?_
   refine go ?_
   exact At.rn (_, _) ⟨HS, H, by omega⟩
  ·refine go ?_
   exact rt
mutual
def control_Read.j0 (k : Nat) (a0 : List Int) (a1 : Int) (x20 : api_Ctl) : Option (api_Ctl × Int × Int) := ((control_put.f ([] : List Int) 0 a1).bind fun t22 => (if (a0.length : Int) < (w64 (2 * (t22.length : Int))) then some (({ Kind := 0, Ns := 0, Nr := 0, Poll := false } : api_Ctl), 0, 3) else (if 0 ≤ (0 : Int) ∧ (0 : Int) ≤ (t22.length : Int) ∧ (t22.length : Int) ≤ (a0.length : Int) then (if 0 ≤ (t22.length : Int) ∧ (t22.length : Int) ≤ w64 (2 * (t22.length : Int)) ∧ w64 (2 * (t22.length : Int)) ≤ (a0.length : Int) then ((control_number.f k (cut a0 (0 : Int) (t22.length : Int))).bind fun t31 => ((control_number.f k (cut a0 (t22.length : Int) (w64 (2 * (t22.length : Int))))).bind fun t33 => (if x20.Kind = 0 then some (({ Kind := x20.Kind, Ns := w64 (t31.tdiv (2)), Nr := w64 (t33.tdiv (2)), Poll := decide ((iand .i64 t33 (1)) = 1) } : api_Ctl), w64 (2 * (t22.length : Int)), 0) else (if t31 = (w64 (a0.getD (0 : Int).toNat 0)) then some (({ x20 with Nr := w64 (t33.tdiv (2)), Poll := decide ((iand .i64 t33 (1)) = 1) } : api_Ctl), w64 (2 * (t22.length : Int)), 0) else some (({ Kind := 0, Ns := 0, Nr := 0, Poll := false } : api_Ctl), 0, 2))))) else none) else none)))
end
def control_Read.f (k : Nat) (a0 : List Int) (a1 : Int) : Option (api_Ctl × Int × Int) := ((control_modulus.f a1).bind fun t3 => (if t3 = true then (if (a0.length : Int) = 0 then some (({ Kind := 0, Ns := 0, Nr := 0, Poll := false } : api_Ctl), 0, 3) else (if 0 ≤ (0 : Int) ∧ (0 : Int) < (a0.length : Int) then ((control_plain.f ).bind fun t11 => ((slices_Index_Sbytebyte.f k t11 (iandn .u8 (a0.getD (0 : Int).toNat 0) (16))).bind fun t13 => (if t13 ≥ 0 then some (({ Kind := w64 (3 + t13), Ns := 0, Nr := 0, Poll := !(decide ((iand .u8 (a0.getD (0 : Int).toNat 0) (16)) = 0)) } : api_Ctl), 1, 0) else (if (a0.getD (0 : Int).toNat 0) = 1 then (control_Read.j0 k a0 a1 ({ Kind := 1, Ns := 0, Nr := 0, Poll := false } : api_Ctl)) else (if (a0.getD (0 : Int).toNat 0) = 9 then (control_Read.j0 k a0 a1 ({ Kind := 2, Ns := 0, Nr := 0, Poll := false } : api_Ctl)) else (if (iand .u8 (a0.getD (0 : Int).toNat 0) (1)) = 1 then some (({ Kind := 0, Ns := 0, Nr := 0, Poll := false } : api_Ctl), 0, 2) else (control_Read.j0 k a0 a1 ({ Kind := 0, Ns := 0, Nr := 0, Poll := false } : api_Ctl)))))))) else none)) else some (({ Kind := 0, Ns := 0, Nr := 0, Poll := false } : api_Ctl), 0, 1)))
theorem control_Read.calls {k : Nat} {a0 : List Int} {a1 : Int} {R : As} {w0 w : World} {sa0 : Option Addr} {sc0 : Nat} {r : api_Ctl × Int × Int} (H : control_Read.f k a0 a1 = some r) (HS : Sep.St [R] w0 w) (hr0 : rdC R 1 (.slice sa0 a0.length sc0) a0.length (a0.map (Value.int .u8))) : Calls Tryz.prog 297 #[vs sa0 a0.length sc0, vi a1] w (Ret fun u w => u = Value.tuple #[Value.agg #[vi r.1.Kind, vi r.1.Ns, vi r.1.Nr, vb r.1.Poll], vi r.2.1, vi r.2.2] ∧ Sep.St [R] w0 w) := by
 refine calls_enter func297 rfl rfl ?_
 refine go ?_
 refine W.e (Y.alloc (z := Value.agg (#[vi (0), vi (0), vi (0), vb false])) HS ze263) rfl ?_
 rintro _ w ⟨nb1, rfl, HS⟩
 refine go ?_
 refine W.kl H func311 (fun _ h => control_modulus.calls h HS.j0) ?_
 rintro _ _ w H ⟨rfl, HS⟩
 have HS := HS.o0
 refine go ?_
 refine V.cx H rfl (fun _ H => ?_) (fun _ H => ?_)
 ·refine go ?_
  refine V.cd H rfl (fun _ H => ?_) (fun _ H => ?_)
  ·refine go ?_
   refine W.r (X.bd (Value.agg #[vi (0), vi (0), vi (0), vb false]) rfl (fun _ => by kernel_rfl)) rfl ?_
   refine W.en (Y.storeSt (c' := #[vi (0), vi (0), vi (0), vb false]) 0 [vi (0), vi (0), vi (0), vb false] HS rfl inf263 rfl rfl rfl rfl rfl rfl) rfl ?_
   rintro _ w HS
   refine go ?_
   have hv7 := run_loadSt (P := Tryz.prog) (p := 0) 0 [vi (0), vi (0), vi (0), vb false] HS rfl underlying263 rfl inf263 rfl
   have HS := HS.ke [1]
   cases H
   exact At.retv3 rfl ⟨_, rfl, hv7⟩ rfl rfl ⟨_, rfl, rfl, HS⟩
  ·refine go ?_
   obtain ⟨c8, H⟩ := ite_n H
   obtain ⟨eb9, eo10, hh⟩ := (rdC.at 1 hr0 HS rfl).some (by decide) c8.1 c8.2; subst hh
   apply V.da [0, 5] [6] [(21, _), (22, _), (23, _), (24, _)] mo HS
   rfl
   refine T.e [] [6] [] (fun w HS => ?_) ⟨rd, rd, .n1 22 rfl rfl (fun w HS => X.load underlying5 rfl rfl ((rdC.at 1 hr0 HS rfl).cellI c8.1 c8.2)), .n1 23 rfl rfl (fun w HS => X.andNot rfl rfl), rds⟩
   refine Y.kl H func306 (fun _ h => control_plain.calls h HS.j0) ?_
   rintro t11 _ w H ⟨at11_0, ct11_0, rfl, HS⟩
   have HS := HS.o1
   refine T.nw HS ?_
   refine T.e [20, 24] [] [1, 2, 3, 4] (fun w HS => ?_) ⟨rd, rd, .n1 22 rfl rfl (fun w HS => X.load underlying5 rfl rfl ((rdC.at 2 hr0 HS rfl).cellI c8.1 c8.2)), .n1 23 rfl rfl (fun w HS => X.andNot rfl rfl), rds⟩
   refine Y.kl H func312 (fun _ h => slices_Index_Sbytebyte.calls h HS.j0 (rdC.part 0 row_rd rfl)) ?_
   rintro t13 _ w H ⟨rfl, HS⟩
   have HS := HS.o0
   apply T.na [(25, _), (7, _)] HS
   exact nmk
   refine T.ff [0, 1, 4, 7] fun w HS => ?_
   refine go ?_
   refine V.cd H rfl (fun _ H => ?_) (fun _ H => ?_)
   ·refine go ?_
    refine W.r (X.load underlying5 rfl rfl ((rdC.at 2 hr0 HS rfl).cellI c8.1 c8.2)) rfl ?_
    refine W.r (X.and rfl rfl) rfl ?_
    refine go ?_
    refine W.r (X.bd (Value.agg #[vi (w64 (3 + t13)), vi (0), vi (0), vb (!(decide ((iand .u8 (a0.getD (0 : Int).toNat 0) (16)) = 0)))]) rfl (fun _ => by kernel_rfl)) rfl ?_
    refine W.en (Y.storeSt (c' := #[vi (w64 (3 + t13)), vi (0), vi (0), vb (!(decide ((iand .u8 (a0.getD (0 : Int).toNat 0) (16)) = 0)))]) 1 [vi (w64 (3 + t13)), vi (0), vi (0), vb (!(decide ((iand .u8 (a0.getD (0 : Int).toNat 0) (16)) = 0)))] HS rfl inf263 rfl rfl rfl rfl rfl rfl) rfl ?_
    rintro _ w HS
    refine go ?_
    have hv16 := run_loadSt (P := Tryz.prog) (p := 0) 1 [vi (w64 (3 + t13)), vi (0), vi (0), vb (!(decide ((iand .u8 (a0.getD (0 : Int).toNat 0) (16)) = 0)))] HS rfl underlying263 rfl inf263 rfl
    have HS := HS.ke [2]
    cases H
    exact At.retv3 rfl ⟨_, rfl, hv16⟩ rfl rfl ⟨_, rfl, rfl, HS⟩
   ·refine go ?_
    refine W.r (X.bd (Value.agg #[vi (0), vi (0), vi (0), vb false]) rfl (fun _ => by kernel_rfl)) rfl ?_
    refine W.e (Y.alloc (z := Value.agg (#[vi (0), vi (0), vi (0), vb false])) HS ze263) rfl ?_
    rintro _ w ⟨nb17, rfl, HS⟩
    refine W.en (Y.storeSt (c' := #[vi (0), vi (0), vi (0), vb false]) 0 [vi (0), vi (0), vi (0), vb false] HS rfl inf263 rfl rfl rfl rfl rfl rfl) rfl ?_
    rintro _ w HS
    refine gs ?_
    refine V.meet (σ := api_Ctl) (fun x20 w => Sep.St [api_Ctl.at nb1 ({ Kind := 0, Ns := 0, Nr := 0, Poll := false } : api_Ctl), api_Ctl.at nb17 x20, row 5 1 (.slice at11_0 t11.length ct11_0) t11.length (t11.map (Value.int .u8)), R] w0 w ∧ ∃ kf21, kf21 ≤ k ∧ control_Read.j0 kf21 a0 a1 x20 = some r) (fun x20 => [(0, vs (some ⟨eb9, eo10, none⟩) a0.length sc0), (1, vi a1), (4, pt nb1), (8, pt nb17)]) ?_ ?_
    ·refine go ?_
     refine W.r (X.load underlying5 rfl rfl ((rdC.at 3 hr0 HS rfl).cellI c8.1 c8.2)) rfl ?_
     refine go ?_
     refine V.cd H rfl (fun _ H => ?_) (fun _ H => ?_)
     ·refine go ?_
      refine W.sr 0 HS rfl rfl rfl fun w HS => ?_
      refine go ?_
      have HS := (api_Ctl.close tv ((api_Ctl.close tv (HS.b [2])).b [1])).b [1]
      exact At.mt _ ⟨HS, k, by omega, H⟩
     ·refine go ?_
      refine W.r (X.load underlying5 rfl rfl ((rdC.at 3 hr0 HS rfl).cellI c8.1 c8.2)) rfl ?_
      refine go ?_
      refine V.cd H rfl (fun _ H => ?_) (fun _ H => ?_)
      ·refine go ?_
       refine W.sr 0 HS rfl rfl rfl fun w HS => ?_
       refine go ?_
       have HS := (api_Ctl.close tv ((api_Ctl.close tv (HS.b [2])).b [1])).b [1]
       exact At.mt _ ⟨HS, k, by omega, H⟩
      ·refine go ?_
       refine W.r (X.load underlying5 rfl rfl ((rdC.at 3 hr0 HS rfl).cellI c8.1 c8.2)) rfl ?_
       refine W.r (X.and rfl rfl) rfl ?_
       refine go ?_
       refine V.cd H rfl (fun _ H => ?_) (fun _ H => ?_)
       ·refine go ?_
        refine W.r (X.bd (Value.agg #[vi (0), vi (0), vi (0), vb false]) rfl (fun _ => by kernel_rfl)) rfl ?_
        refine W.en (Y.storeSt (c' := #[vi (0), vi (0), vi (0), vb false]) 2 [vi (0), vi (0), vi (0), vb false] HS rfl inf263 rfl rfl rfl rfl rfl rfl) rfl ?_
        rintro _ w HS
        refine go ?_
        have hv51 := run_loadSt (P := Tryz.prog) (p := 0) 2 [vi (0), vi (0), vi (0), vb false] HS rfl underlying263 rfl inf263 rfl
        have HS := HS.ke [3]
        cases H
        exact At.retv3 rfl ⟨_, rfl, hv51⟩ rfl rfl ⟨_, rfl, rfl, HS⟩
       ·refine go ?_
        have HS := (api_Ctl.close tv ((api_Ctl.close tv (HS.b [2])).b [1])).b [1]
        exact At.mt _ ⟨HS, k, by omega, H⟩
    ·rintro x20 w ⟨HS, kf21, _, H⟩
     refine go ?_
     have HS := row_nilF (Value.int .u8) 5 1 HS
     refine W.kl H func305 (fun _ h => control_put.calls h HS.j1) ?_
     rintro _ _ w H ⟨_, _, rfl, HS⟩
     have HS := HS.o1
     refine go ?_
     refine V.cd H rfl (fun _ H => ?_) (fun _ H => ?_)
     ·refine go ?_
      refine W.r (X.bd (Value.agg #[vi (0), vi (0), vi (0), vb false]) rfl (fun _ => by kernel_rfl)) rfl ?_
      have HS := HS.fr 1
      obtain ⟨_, HS⟩ := api_Ctl.open HS
      refine W.en (Y.storeSt (c' := #[vi (0), vi (0), vi (0), vb false]) 0 [vi (0), vi (0), vi (0), vb false] HS rfl inf263 rfl rfl rfl rfl rfl rfl) rfl ?_
      rintro _ w HS
      refine go ?_
      have hv28 := run_loadSt (P := Tryz.prog) (p := 0) 0 [vi (0), vi (0), vi (0), vb false] HS rfl underlying263 rfl inf263 rfl
      have HS := HS.ke [4]
      cases H
      exact At.retv3 rfl ⟨_, rfl, hv28⟩ rfl rfl ⟨_, rfl, rfl, HS⟩
     ·refine go ?_
      obtain ⟨c29, H⟩ := ite_n H
      obtain ⟨c30, H⟩ := ite_n H
      apply V.da [3, 9] [10, 11] [(65, _), (66, _), (67, _), (69, _), (70, _), (71, _), (72, _), (73, _)] mo HS
      rfl
      refine T.e [67] [10, 11] [0, 1, 2] (fun w HS => ?_) ⟨rd, rd, .n2 65 66 rfl rfl rfl (fun w HS => X.slH underlying27 inf5 rfl rfl c29 (rdC.at 4 hr0 HS rfl).cap), rd, rd, rd, rd, .ns [(69, _), (70, _), (72, _)] ⟨rfl, rfl, rfl, tv⟩ rfl (fun w HS => X.slLH underlying27 inf5 rfl rfl rfl c30 (rdC.at 4 hr0 HS rfl).cap), rds⟩
      refine Y.kl H func313 (fun _ h => control_number.calls h HS.j0 (rdC.part 4 (rdC.subM hr0 c29) rfl)) ?_
      rintro t31 _ w H ⟨rfl, HS⟩
      have HS := HS.o0
      refine T.nw HS ?_
      refine T.e [73] [] [4, 5, 6, 7, 8] (fun w HS => ?_) ⟨rd, rd, rd, rd, .ns [(69, _), (70, _), (72, _)] ⟨rfl, rfl, rfl, tv⟩ rfl (fun w HS => X.slLH underlying27 inf5 rfl rfl rfl c30 (rdC.at 4 hr0 HS rfl).cap), rds⟩
      refine Y.kl H func313 (fun _ h => control_number.calls h HS.j0 (rdC.part 4 (rdC.subM hr0 c30) rfl)) ?_
      rintro t33 _ w H ⟨rfl, HS⟩
      have HS := HS.o0
      apply T.na [(74, _), (10, _), (11, _)] HS
      exact nmk
      refine T.ff [0, 4, 8, 9, 10, 11] fun w HS => ?_
      refine go ?_
      have HS := HS.fr 2
      obtain ⟨_, HS⟩ := api_Ctl.open HS
      refine go ?_
      refine V.cd H rfl (fun _ H => ?_) (fun _ H => ?_)
      ·refine go ?_
       refine W.r (X.quo rfl rfl (by decide)) rfl ?_
       refine go ?_
       refine W.sr 1 HS rfl rfl rfl fun w HS => ?_
       refine go ?_
       refine W.r (X.quo rfl rfl (by decide)) rfl ?_
       refine go ?_
       refine W.r (X.and rfl rfl) rfl ?_
       refine go ?_
       refine W.sr 2 HS rfl rfl rfl fun w HS => ?_
       refine go ?_
       refine W.sr 3 HS rfl rfl rfl fun w HS => ?_
       refine go ?_
       have HS := HS.fr 2
       obtain ⟨_, HS⟩ := api_Ctl.open HS
       refine W.en (Y.storeSt (c' := #[vi x20.Kind, vi (w64 (t31.tdiv (2))), vi (w64 (t33.tdiv (2))), vb (decide ((iand .i64 t33 (1)) = 1))]) 0 [vi x20.Kind, vi (w64 (t31.tdiv (2))), vi (w64 (t33.tdiv (2))), vb (decide ((iand .i64 t33 (1)) = 1))] HS rfl inf263 rfl rfl rfl rfl rfl rfl) rfl ?_
       rintro _ w HS
       refine go ?_
       have hv40 := run_loadSt (P := Tryz.prog) (p := 0) 0 [vi x20.Kind, vi (w64 (t31.tdiv (2))), vi (w64 (t33.tdiv (2))), vb (decide ((iand .i64 t33 (1)) = 1))] HS rfl underlying263 rfl inf263 rfl
       have HS := HS.ke [4]
       cases H
       exact At.retv3 rfl ⟨_, rfl, hv40⟩ rfl rfl ⟨_, rfl, rfl, HS⟩
      ·refine go ?_
       refine W.r (X.load underlying5 rfl rfl ((rdC.at 4 hr0 HS rfl).cellI c8.1 c8.2)) rfl ?_
       refine go ?_
       refine V.cm H rfl (fun _ H => ?_) (fun _ H => ?_)
       ·refine go ?_
        refine W.r (X.quo rfl rfl (by decide)) rfl ?_
        refine go ?_
        refine W.r (X.and rfl rfl) rfl ?_
        refine go ?_
        refine W.sr 2 HS rfl rfl rfl fun w HS => ?_
        refine go ?_
        refine W.sr 3 HS rfl rfl rfl fun w HS => ?_
        refine go ?_
        have HS := HS.fr 2
        obtain ⟨_, HS⟩ := api_Ctl.open HS
        refine W.en (Y.storeSt (c' := #[vi x20.Kind, vi x20.Ns, vi (w64 (t33.tdiv (2))), vb (decide ((iand .i64 t33 (1)) = 1))]) 0 [vi x20.Kind, vi x20.Ns, vi (w64 (t33.tdiv (2))), vb (decide ((iand .i64 t33 (1)) = 1))] HS rfl inf263 rfl rfl rfl rfl rfl rfl) rfl ?_
        rintro _ w HS
        refine go ?_
        have hv44 := run_loadSt (P := Tryz.prog) (p := 0) 0 [vi x20.Kind, vi x20.Ns, vi (w64 (t33.tdiv (2))), vb (decide ((iand .i64 t33 (1)) = 1))] HS rfl underlying263 rfl inf263 rfl
        have HS := HS.ke [4]
        cases H
        exact At.retv3 rfl ⟨_, rfl, hv44⟩ rfl rfl ⟨_, rfl, rfl, HS⟩
       ·refine go ?_
        refine W.r (X.bd (Value.agg #[vi (0), vi (0), vi (0), vb false]) rfl (fun _ => by kernel_rfl)) rfl ?_
        have HS := HS.fr 2
        obtain ⟨_, HS⟩ := api_Ctl.open HS
        refine W.en (Y.storeSt (c' := #[vi (0), vi (0), vi (0), vb false]) 0 [vi (0), vi (0), vi (0), vb false] HS rfl inf263 rfl rfl rfl rfl rfl rfl) rfl ?_
        rintro _ w HS
        refine go ?_
        have hv47 := run_loadSt (P := Tryz.prog) (p := 0) 0 [vi (0), vi (0), vi (0), vb false] HS rfl underlying263 rfl inf263 rfl
        have HS := HS.ke [4]
        cases H
        exact At.retv3 rfl ⟨_, rfl, hv47⟩ rfl rfl ⟨_, rfl, rfl, HS⟩
 ·refine go ?_
  refine W.r (X.bd (Value.agg #[vi (0), vi (0), vi (0), vb false]) rfl (fun _ => by kernel_rfl)) rfl ?_
  refine W.en (Y.storeSt (c' := #[vi (0), vi (0), vi (0), vb false]) 0 [vi (0), vi (0), vi (0), vb false] HS rfl inf263 rfl rfl rfl rfl rfl rfl) rfl ?_
  rintro _ w HS
  refine go ?_
  have hv52 := run_loadSt (P := Tryz.prog) (p := 0) 0 [vi (0), vi (0), vi (0), vb false] HS rfl underlying263 rfl inf263 rfl
  have HS := HS.ke [1]
  cases H
  exact At.retv3 rfl ⟨_, rfl, hv52⟩ rfl rfl ⟨_, rfl, rfl, HS⟩
def arq_Arq_ahead.f (a0 : arq_Arq) (a1 : Int) : Option Bool := ((serial_Dist.f a0.tag a1 65536).bind fun t1 => (if t1 ≥ 1 then some (decide (t1 < 32768)) else some false))
theorem arq_Arq_ahead.calls {a0 : arq_Arq} {a1 : Int} {R : As} {w0 w : World} {b0 : Nat} {b8_p0 : Nat} {b9_p0 : Nat} {b10_p0 : Nat} {a11_p0 : Option Addr} {c11_p0 : Nat} {d11_p0 : List Value} {a12_p0 : Option Addr} {c12_p0 : Nat} {r : Bool} (H : arq_Arq_ahead.f a0 a1 = some r) (HS : Sep.St [blk b0 (#[vi a0.m, vi a0.t1, vi a0.n2, vi a0.size, vi a0.state, vi a0.tag, vi a0.tries, vb a0.rejected, pt b8_p0, pt b9_p0, pt b10_p0, vs a11_p0 a0.out.length c11_p0, vs a12_p0 a0.inds.length c12_p0, vi a0.sent, vi a0.acked, vi a0.lost]) 156, backlog_Log.at b8_p0 a0.log, reorder_Order.at b9_p0 a0.order, clock_Set.at b10_p0 a0.timers, row 27 1 (.slice a11_p0 a0.out.length c11_p0) a0.out.length d11_p0, tie (El.sl (El.int .u8)) d11_p0 a0.out, row 3 1 (.slice a12_p0 a0.inds.length c12_p0) a0.inds.length (a0.inds.map (Value.int .i64)), R] w0 w)  : Calls Tryz.prog 314 #[pt b0, vi a1] w (Ret fun u w => u = vb r ∧ Sep.St [blk b0 (#[vi a0.m, vi a0.t1, vi a0.n2, vi a0.size, vi a0.state, vi a0.tag, vi a0.tries, vb a0.rejected, pt b8_p0, pt b9_p0, pt b10_p0, vs a11_p0 a0.out.length c11_p0, vs a12_p0 a0.inds.length c12_p0, vi a0.sent, vi a0.acked, vi a0.lost]) 156, backlog_Log.at b8_p0 a0.log, reorder_Order.at b9_p0 a0.order, clock_Set.at b10_p0 a0.timers, row 27 1 (.slice a11_p0 a0.out.length c11_p0) a0.out.length d11_p0, tie (El.sl (El.int .u8)) d11_p0 a0.out, row 3 1 (.slice a12_p0 a0.inds.length c12_p0) a0.inds.length (a0.inds.map (Value.int .i64)), R] w0 w) := by
 refine calls_enter func314 rfl rfl ?_
 refine go ?_
 refine W.kl H func309 (fun _ h => serial_Dist.calls h HS.j0) ?_
 rintro t1 _ w H ⟨rfl, HS⟩
 have HS := HS.o0
 refine go ?_
 refine W.cd 14 H rfl (fun _ H => ?_) (fun _ H => ?_)
 ·refine go ?_
  exact rt
 ·refine go ?_
  exact rt
mutual
def arq_Arq_asked.j0  (x10 : arq_Arq) : Option arq_Arq := some x10
def arq_Arq_asked.j2 (k : Nat) (a0 : arq_Arq) (a1 : Int) (a2 : Bool) (x18 : Bool) : Option arq_Arq := (if x18 = true then ((arq_Arq_fresh.f a0 2).bind fun t21 => ((arq_Arq_tell.f k ({ t21 with tag := a1 } : arq_Arq) ({ Kind := 4, Ns := 0, Nr := 0, Poll := a2 } : api_Ctl)).bind fun t25 => (if a0.state = 2 then (if (t25.inds.length : Int) + ([3] : List Int).length ≤ 1099511627776 then some (({ t25 with inds := t25.inds ++ ([3] : List Int) } : arq_Arq)) else none) else (if (t25.inds.length : Int) + ([1] : List Int).length ≤ 1099511627776 then some (({ t25 with inds := t25.inds ++ ([1] : List Int) } : arq_Arq)) else none)))) else (if a0.state = 0 then ((arq_Arq_tell.f k a0 ({ Kind := 6, Ns := 0, Nr := 0, Poll := false } : api_Ctl)).bind fun t47 => (arq_Arq_asked.j0 t47)) else (arq_Arq_asked.j0 a0)))
def arq_Arq_asked.j1 (k : Nat) (a0 : arq_Arq) (a1 : Int) (a2 : Bool) (x13 : Bool) : Option arq_Arq := (if x13 = true then ((arq_Arq_tell.f k a0 ({ Kind := 4, Ns := 0, Nr := 0, Poll := a2 } : api_Ctl)).bind fun t16 => some t16) else ((arq_Arq_ahead.f a0 a1).bind fun t51 => (if t51 = true then (arq_Arq_asked.j2 k a0 a1 a2 true) else (if a0.state = 1 then (arq_Arq_asked.j2 k a0 a1 a2 (decide (a1 = a0.tag))) else (arq_Arq_asked.j2 k a0 a1 a2 false)))))
end
def arq_Arq_asked.f (k : Nat) (a0 : arq_Arq) (a1 : Int) (a2 : Bool) : Option arq_Arq := (if a0.state = 3 then some a0 else (if a0.state = 2 then (arq_Arq_asked.j1 k a0 a1 a2 (decide (a1 = a0.tag))) else (arq_Arq_asked.j1 k a0 a1 a2 false)))
theorem arq_Arq_asked.calls {k : Nat} {a0 : arq_Arq} {a1 : Int} {a2 : Bool} {R : As} {w0 w : World} {b0 : Nat} {r : arq_Arq} (H : arq_Arq_asked.f k a0 a1 a2 = some r) (HS : Sep.St [arq_Arq.at b0 a0, R] w0 w)  : Calls Tryz.prog 298 #[pt b0, vi a1, vb a2] w (Ret fun u w => u = Value.tuple #[] ∧ Sep.St [arq_Arq.at b0 r, R] w0 w) := by
 refine calls_enter func298 rfl rfl ?_
 refine V.scope 1 ?_
 refine go ?_
 obtain ⟨_, _, _, _, _, _, _, _, _, HS⟩ := arq_Arq.open HS
 refine gs ?_
 refine V.meet (σ := arq_Arq) (fun x10 w => Sep.St [arq_Arq.at b0 x10, R] w0 w ∧ arq_Arq_asked.j0 x10 = some r) (fun x10 => []) ?_ ?_
 ·refine go ?_
  refine V.cd H rfl (fun _ H => ?_) (fun _ H => ?_)
  ·refine go ?_
   have HS := arq_Arq.close tv HS
   exact rt
  ·refine V.meet (σ := Bool) (fun x13 w => Sep.St [arq_Arq.at b0 a0, R] w0 w ∧ ∃ kf14, kf14 ≤ k ∧ arq_Arq_asked.j1 kf14 a0 a1 a2 x13 = some r) (fun x13 => [(0, pt b0), (1, vi a1), (2, vb a2), (6, vb (decide (a0.state = 2))), (18, vb x13)]) ?_ ?_
   ·refine go ?_
    refine W.cd 20 H rfl (fun _ H => ?_) (fun _ H => ?_)
    ·refine go ?_
     have HS := arq_Arq.close tv HS
     exact At.mt _ ⟨HS, k, by omega, H⟩
    ·refine go ?_
     have HS := arq_Arq.close tv HS
     exact At.mt _ ⟨HS, k, by omega, H⟩
   ·rintro x13 w ⟨HS, kf14, _, H⟩
    refine V.cv H rfl (fun _ H => ?_) (fun _ H => ?_)
    ·refine go ?_
     refine W.r (X.bd (Value.agg #[vi (4), vi (0), vi (0), vb a2]) rfl (fun _ => by kernel_rfl)) rfl ?_
     refine W.kl H func194 (fun _ h => arq_Arq_tell.calls h HS.j1) ?_
     rintro _ _ w H ⟨rfl, HS⟩
     have HS := HS.o1
     refine go ?_
     exact rt
    ·refine V.meet (σ := Bool) (fun x18 w => Sep.St [arq_Arq.at b0 a0, R] w0 w ∧ ∃ kf19, kf19 ≤ kf14 ∧ arq_Arq_asked.j2 kf19 a0 a1 a2 x18 = some r) (fun x18 => [(0, pt b0), (1, vi a1), (2, vb a2), (6, vb (decide (a0.state = 2))), (32, vb x18)]) ?_ ?_
     ·refine go ?_
      obtain ⟨_, _, _, _, _, _, _, _, _, HS⟩ := arq_Arq.open HS
      refine W.kl H func314 (fun _ h => arq_Arq_ahead.calls h HS.j7) ?_
      rintro _ _ w H ⟨rfl, HS⟩
      have HS := HS.o7
      refine go ?_
      refine W.cv 36 H rfl (fun _ H => ?_) (fun _ H => ?_)
      ·refine go ?_
       have HS := arq_Arq.close tv HS
       exact At.mt _ ⟨HS, kf14, by omega, H⟩
      ·refine go ?_
       refine W.cd 42 H rfl (fun _ H => ?_) (fun _ H => ?_)
       ·refine go ?_
        have HS := arq_Arq.close tv HS
        exact At.mt _ ⟨HS, kf14, by omega, H⟩
       ·refine go ?_
        have HS := arq_Arq.close tv HS
        exact At.mt _ ⟨HS, kf14, by omega, H⟩
     ·rintro x18 w ⟨HS, kf19, _, H⟩
      refine V.cv H rfl (fun _ H => ?_) (fun _ H => ?_)
      ·refine go ?_
       refine At.jump rfl ?_
       refine go ?_
       refine W.kl H func196 (fun _ h => arq_Arq_fresh.calls h HS.j1) ?_
       rintro _ _ w H ⟨rfl, HS⟩
       have HS := HS.o1
       refine go ?_
       obtain ⟨_, _, _, _, _, _, _, _, _, HS⟩ := arq_Arq.open HS
       refine go ?_
       refine W.sr 5 HS rfl rfl rfl fun w HS => ?_
       refine go ?_
       refine W.r (X.bd (Value.agg #[vi (4), vi (0), vi (0), vb a2]) rfl (fun _ => by kernel_rfl)) rfl ?_
       have HS := arq_Arq.close tv HS
       refine W.kl H func194 (fun _ h => arq_Arq_tell.calls h HS.j1) ?_
       rintro _ _ w H ⟨rfl, HS⟩
       have HS := HS.o1
       refine go ?_
       refine V.cd H rfl (fun _ H => ?_) (fun _ H => ?_)
       ·refine go ?_
        obtain ⟨_, _, _, _, _, _, _, _, _, HS⟩ := arq_Arq.open HS
        refine go ?_
        refine W.e (Y.ls (e := 3) (Value.int .i64) ([3] : List Int) HS rfl rfl (fun _ => by kernel_rfl)) rfl ?_
        rintro _ w ⟨_, rfl, HS⟩
        obtain ⟨_, H⟩ := ite_n H
        refine W.e (Y.appF (Value.int .i64) (fun _ => rfl) 7 underlying48 ap3 rfl HS rfl rfl rfl (rdC.at 0 row_rd HS rfl) (by omega) (by omega)) rfl ?_
        rintro _ w ⟨_, _, rfl, HS⟩
        refine go ?_
        refine W.sr 12 HS rfl rfl rfl fun w HS => ?_
        refine go ?_
        have HS := (arq_Arq.close tv (HS.b [1, 1, 1, 1, 1, 1, 1])).ke [0, 1]
        exact rt
       ·refine go ?_
        obtain ⟨_, _, _, _, _, _, _, _, _, HS⟩ := arq_Arq.open HS
        refine go ?_
        refine W.e (Y.ls (e := 3) (Value.int .i64) ([1] : List Int) HS rfl rfl (fun _ => by kernel_rfl)) rfl ?_
        rintro _ w ⟨_, rfl, HS⟩
        obtain ⟨_, H⟩ := ite_n H
        refine W.e (Y.appF (Value.int .i64) (fun _ => rfl) 7 underlying48 ap3 rfl HS rfl rfl rfl (rdC.at 0 row_rd HS rfl) (by omega) (by omega)) rfl ?_
        rintro _ w ⟨_, _, rfl, HS⟩
        refine go ?_
        refine W.sr 12 HS rfl rfl rfl fun w HS => ?_
        refine go ?_
        have HS := (arq_Arq.close tv (HS.b [1, 1, 1, 1, 1, 1, 1])).ke [0, 1]
        exact rt
      ·refine go ?_
       obtain ⟨_, _, _, _, _, _, _, _, _, HS⟩ := arq_Arq.open HS
       refine go ?_
       refine V.cd H rfl (fun _ H => ?_) (fun _ H => ?_)
       ·refine go ?_
        refine W.r (X.bd (Value.agg #[vi (6), vi (0), vi (0), vb false]) rfl (fun _ => by kernel_rfl)) rfl ?_
        have HS := arq_Arq.close tv HS
        refine W.kl H func194 (fun _ h => arq_Arq_tell.calls h HS.j1) ?_
        rintro t47 _ w H ⟨rfl, HS⟩
        have HS := HS.o1
        refine go ?_
        exact At.meet t47 tv ⟨HS, H⟩
       ·refine go ?_
        have HS := arq_Arq.close tv HS
        exact At.meet a0 tv ⟨HS, H⟩
 ·rintro x10 w ⟨HS, H⟩
  refine go ?_
  exact rt
mutual
def backlog_Log_Next.j0 (a0 : backlog_Log) (x2 : Bool) : Option (Int × List Int × Bool × backlog_Log) := (if x2 = true then some (0, ([] : List Int), false, a0) else (if 0 ≤ a0.out ∧ a0.out < (a0.l.length : Int) then ((backlog_Log_number.f ({ a0 with out := w64 (a0.out + 1) } : backlog_Log) a0.out).bind fun t16 => ((slices_Clone_Sbytebyte.f (a0.l.getD a0.out.toNat [])).bind fun t18 => some (t16, t18, true, ({ a0 with out := w64 (a0.out + 1) } : backlog_Log)))) else none))
end
def backlog_Log_Next.f (a0 : backlog_Log) : Option (Int × List Int × Bool × backlog_Log) := (if a0.out = (a0.l.length : Int) then (backlog_Log_Next.j0 a0 true) else (backlog_Log_Next.j0 a0 (decide (a0.out = a0.window))))
theorem backlog_Log_Next.calls {a0 : backlog_Log} {R : As} {w0 w : World} {b0 : Nat} {r : Int × List Int × Bool × backlog_Log} (H : backlog_Log_Next.f a0 = some r) (HS : Sep.St [backlog_Log.at b0 a0, R] w0 w)  : Calls Tryz.prog 241 #[pt b0] w (Ret fun u w => ∃ (aq1 : Option Addr) (cq1 : Nat), u = Value.tuple #[vi r.1, vs aq1 r.2.1.length cq1, vb r.2.2.1] ∧ Sep.St [row 5 1 (.slice aq1 r.2.1.length cq1) r.2.1.length (r.2.1.map (Value.int .u8)), backlog_Log.at b0 r.2.2.2, R] w0 w) := by
 refine calls_enter func241 rfl rfl ?_
 refine V.seq ?_
 refine gs ?_
 refine V.seq ?_
 refine V.meet (σ := Bool) (fun x2 w => Sep.St [backlog_Log.at b0 a0, R] w0 w ∧ backlog_Log_Next.j0 a0 x2 = some r) (fun x2 => [(0, pt b0), (26, vb x2)]) ?_ ?_
 ·obtain ⟨_, _, _, _, HS⟩ := backlog_Log.open HS
  refine ite_c H (fun c22 H => ?_) (fun c22 H => ?_)
  ·apply V.da [] [] [(6, _), (7, _), (8, _), (9, _), (10, _), (11, _), (12, _), (13, _), (14, _), (15, _), (16, _), (17, _), (18, _), (19, _), (20, _), (21, _), (22, _), (23, _), (24, _), (25, _), (26, _)] mo HS
   rfl
   refine T.ff [0, 26] fun w HS => ?_
   have HS := backlog_Log.close tv HS
   exact At.mt _ ⟨HS, H⟩
  ·apply V.da [] [] [(6, _), (7, _), (8, _), (9, _), (10, _), (11, _), (12, _), (13, _), (14, _), (15, _), (16, _), (17, _), (18, _), (19, _), (20, _), (21, _), (22, _), (23, _), (24, _), (25, _), (26, _)] mo HS
   rfl
   refine T.ff [0, 26] fun w HS => ?_
   have HS := backlog_Log.close tv HS
   exact At.mt _ ⟨HS, H⟩
 ·rintro x2 w ⟨HS, H⟩
  refine V.cv H rfl (fun _ H => ?_) (fun _ H => ?_)
  ·refine go ?_
   have HS := row_nilF (Value.int .u8) 5 1 HS
   exact rt
  ·refine go ?_
   obtain ⟨_, _, _, _, HS⟩ := backlog_Log.open HS
   refine go ?_
   refine W.sr 4 HS rfl rfl rfl fun w HS => ?_
   refine go ?_
   obtain ⟨c7, H⟩ := ite_n H
   obtain ⟨_, _, hh⟩ := (rdC.at 1 row_rd HS rfl).some (by decide) c7.1 c7.2; subst hh
   obtain ⟨_, hc11, HS⟩ := St.tie_at 2 HS rfl ([]) c7.1 c7.2
   obtain ⟨_, _, he15, HN⟩ := St.sl_openF (Value.int .u8) (fun t => tie_int t) HS; clear HS; subst he15; have HS := HN
   apply V.da [2, 10] [11, 12, 13] [(38, _), (39, _), (41, _), (42, _), (43, _), (44, _), (45, _), (46, _), (47, _)] mo HS
   rfl
   refine T.e [38, 39] [11, 12, 13] [0, 1] (fun w HS => ?_) ⟨rd, rd, rd, rd, rd, rd, rd, rd, .n1 46 rfl rfl (fun w HS => X.load underlying27 rfl rfl ((rdC.at 2 row_rd HS rfl).cellEl0 (hc11 0 _ rfl))), rds⟩
   have HS := HS.b [1, 1, 1]
   refine Y.kl H func279 (fun _ h => backlog_Log_number.calls h HS.j3) ?_
   rintro _ _ w H ⟨rfl, HS⟩
   have HS := HS.o3
   refine T.nw HS ?_
   refine T.e [47] [] [3, 4, 5, 6, 7, 8, 9] (fun w HS => ?_) ⟨rd, rd, rd, rd, rd, rd, .n1 46 rfl rfl (fun w HS => X.load underlying27 rfl rfl ((rdC.at 1 row_rd HS rfl).cellEl0 (hc11 0 _ rfl))), rds⟩
   refine Y.kl H func189 (fun _ h => slices_Clone_Sbytebyte.calls h HS.j0 (rdC.part 3 fsl.rd rfl)) ?_
   rintro _ _ w H ⟨_, _, rfl, HS⟩
   have HS := HS.o1
   apply T.na [(48, _), (2, _), (3, _), (4, _)] HS
   exact nmk
   refine T.ff [2, 3, 4] fun w HS => ?_
   refine go ?_
   have HS := (backlog_Log.close tv (HS.b [1, 1, 1])).ke [1, 0, 1]
   exact rt
mutual
def arq_Arq_pump.l0 : Nat → Int → Bool → arq_Arq → (List Int) → Option arq_Arq
 | 0, _, _, _, _ => none
 | k + 1, x14, x15, x16, x19 => (if x15 = true then ((arq_Arq_message.f k x16 x14 x19 false).bind fun t31 => ((clock_Set_Left.f t31.timers 0).bind fun t37 => (if t37.2 = true then (arq_Arq_pump.j1 (arq_Arq_pump.l0 k) t31) else ((arq_Arq_start.f t31).bind fun t40 => (arq_Arq_pump.j1 (arq_Arq_pump.l0 k) t40))))) else some x16)
def arq_Arq_pump.j1 (Lq25 : Int → Bool → arq_Arq → (List Int) → Option arq_Arq) (x23 : arq_Arq) : Option arq_Arq := ((backlog_Log_Next.f x23.log).bind fun t29 => (Lq25 t29.1 t29.2.2.1 ({ x23 with log := t29.2.2.2 } : arq_Arq) t29.2.1))
end
def arq_Arq_pump.f (k : Nat) (a0 : arq_Arq) : Option arq_Arq := (if a0.state = 2 then ((backlog_Log_Next.f a0.log).bind fun t5 => (arq_Arq_pump.l0 k t5.1 t5.2.2.1 ({ a0 with log := t5.2.2.2 } : arq_Arq) t5.2.1)) else some a0)
theorem arq_Arq_pump.calls {k : Nat} {a0 : arq_Arq} {R : As} {w0 w : World} {b0 : Nat} {r : arq_Arq} (H : arq_Arq_pump.f k a0 = some r) (HS : Sep.St [arq_Arq.at b0 a0, R] w0 w)  : Calls Tryz.prog 198 #[pt b0] w (Ret fun u w => u = Value.tuple #[] ∧ Sep.St [arq_Arq.at b0 r, R] w0 w) := by
 refine calls_enter func198 rfl rfl ?_
 refine go ?_
 obtain ⟨_, _, _, _, _, _, _, _, _, HS⟩ := arq_Arq.open HS
 refine go ?_
 refine V.cm H rfl (fun _ H => ?_) (fun _ H => ?_)
 ·refine go ?_
  have HS := HS.b [1]
  refine W.kl H func241 (fun _ h => backlog_Log_Next.calls h HS.j1) ?_
  rintro _ _ w H ⟨_, _, rfl, HS⟩
  have HS := HS.o2
  refine go ?_
  have HS := arq_Arq.close tv (HS.b [2, 1, 1, 1, 1, 1, 1])
  refine V.lp (σ := Int × Bool × arq_Arq × Option Addr × Nat × List Int) (fun kq (x14, x15, x16, ra17, rc18, x19) w => Sep.St [arq_Arq.at b0 x16, row 5 1 (.slice ra17 x19.length rc18) x19.length (x19.map (Value.int .u8)), R] w0 w ∧ arq_Arq_pump.l0 kq x14 x15 x16 x19 = some r ∧ kq ≤ k) (fun (x14, x15, x16, ra17, rc18, x19) => [(0, pt b0), (2, vi x14), (3, vs ra17 x19.length rc18), (4, vb x15)]) (_, _, _, _, _, _) ⟨HS, H, Nat.le_refl _⟩ ?_
  rintro kq20 ⟨x14, x15, x16, ra17, rc18, x19⟩ w ⟨HS, H, _⟩
  cases kq20 with
  | zero => exact absurd H (by simp [arq_Arq_pump.l0])
  | succ kq20 =>
   simp only [arq_Arq_pump.l0] at H
   refine go ?_
   refine V.cv H rfl (fun _ H => ?_) (fun _ H => ?_)
   ·refine gs ?_
    refine V.meet (σ := arq_Arq) (fun x23 w => Sep.St [arq_Arq.at b0 x23, R] w0 w ∧ ∃ kl26, kl26 ≤ kq20 ∧ arq_Arq_pump.j1 (arq_Arq_pump.l0 kl26) x23 = some r) (fun x23 => [(0, pt b0)]) ?_ ?_
    ·refine go ?_
     have HS := ((St.row_freeze (HS.fr 1)).more 0 rfl (fun _ t => t) fsl.pers).b [2]
     refine W.kl H func242 (fun _ h => arq_Arq_message.calls h HS.j2) ?_
     rintro _ _ w H ⟨rfl, HS⟩
     have HS := HS.o1
     refine go ?_
     obtain ⟨_, _, _, _, _, _, _, _, _, HS⟩ := arq_Arq.open HS
     refine go ?_
     have HS := HS.fr 3
     obtain ⟨hi36, HS⟩ := clock_Set.open HS
     refine W.kl H func223 (fun _ h => clock_Set_Left.calls h HS.j1 (by first | exact hi36 | (simp only [List.length_set]; exact hi36))) ?_
     rintro _ _ w H ⟨rfl, HS⟩
     have HS := HS.o1
     refine go ?_
     refine V.cx H rfl (fun _ H => ?_) (fun _ H => ?_)
     ·refine go ?_
      have HS := (arq_Arq.close tv ((clock_Set.close (by first | exact hi36 | (simp only [List.length_set]; exact hi36)) HS).b [1, 1, 1])).ke [0, 1]
      exact At.mt _ ⟨HS, kq20, by omega, H⟩
     ·refine go ?_
      have HS := arq_Arq.close tv ((clock_Set.close (by first | exact hi36 | (simp only [List.length_set]; exact hi36)) HS).b [1, 1, 1])
      refine W.kl H func195 (fun _ h => arq_Arq_start.calls h HS.j1) ?_
      rintro _ _ w H ⟨rfl, HS⟩
      have HS := HS.o1
      refine go ?_
      have HS := HS.ke [0, 1]
      exact At.mt _ ⟨HS, kq20, by omega, H⟩
    ·rintro x23 w ⟨HS, kl26, _, H⟩
     refine go ?_
     obtain ⟨_, _, _, _, _, _, _, _, _, HS⟩ := arq_Arq.open HS
     refine go ?_
     have HS := HS.b [1]
     refine W.kl H func241 (fun _ h => backlog_Log_Next.calls h HS.j1) ?_
     rintro _ _ w H ⟨_, _, rfl, HS⟩
     have HS := HS.o2
     refine go ?_
     have HS := arq_Arq.close tv (HS.b [2, 1, 1, 1, 1, 1, 1])
     exact At.rn (_, _, _, _, _, _) ⟨HS, H, by omega⟩
   ·refine go ?_
    have HS := HS.ke [0, 1]
    exact rt
 ·refine go ?_
  have HS := arq_Arq.close tv HS
  exact rt
def arq_Arq_accepted.f (k : Nat) (a0 : arq_Arq) : Option arq_Arq := (if a0.state = 1 then ((clock_Set_Stop.f a0.timers 0).bind fun t4 => (if (a0.inds.length : Int) + ([1] : List Int).length ≤ 1099511627776 then ((arq_Arq_pump.f k ({ a0 with state := 2, tries := 0, timers := t4.2, inds := a0.inds ++ ([1] : List Int) } : arq_Arq)).bind fun t12 => some t12) else none)) else (if a0.state = 3 then ((arq_Arq_end.f a0).bind fun t15 => some t15) else some a0))
theorem arq_Arq_accepted.calls {k : Nat} {a0 : arq_Arq} {R : As} {w0 w : World} {b0 : Nat} {r : arq_Arq} (H : arq_Arq_accepted.f k a0 = some r) (HS : Sep.St [arq_Arq.at b0 a0, R] w0 w)  : Calls Tryz.prog 299 #[pt b0] w (Ret fun u w => u = Value.tuple #[] ∧ Sep.St [arq_Arq.at b0 r, R] w0 w) := by
 refine calls_enter func299 rfl rfl ?_
 refine go ?_
 obtain ⟨_, _, _, _, _, _, _, _, _, HS⟩ := arq_Arq.open HS
 refine go ?_
 refine V.cd H rfl (fun _ H => ?_) (fun _ H => ?_)
 ·refine go ?_
  refine W.sr 4 HS rfl rfl rfl fun w HS => ?_
  refine go ?_
  refine W.sr 6 HS rfl rfl rfl fun w HS => ?_
  refine go ?_
  have HS := HS.b [3]
  refine W.kl H func240 (fun _ h => clock_Set_Stop.calls h HS.j1) ?_
  rintro _ _ w H ⟨rfl, HS⟩
  have HS := HS.o1
  refine go ?_
  refine W.e (Y.ls (e := 3) (Value.int .i64) ([1] : List Int) HS rfl rfl (fun _ => by kernel_rfl)) rfl ?_
  rintro _ w ⟨_, rfl, HS⟩
  obtain ⟨_, H⟩ := ite_n H
  refine W.e (Y.appF (Value.int .i64) (fun _ => rfl) 7 underlying48 ap3 rfl HS rfl rfl rfl (rdC.at 0 row_rd HS rfl) (by omega) (by omega)) rfl ?_
  rintro _ w ⟨_, _, rfl, HS⟩
  refine go ?_
  refine W.sr 12 HS rfl rfl rfl fun w HS => ?_
  refine go ?_
  have HS := arq_Arq.close tv (HS.b [2, 2, 2, 1, 1, 1, 1])
  refine W.kl H func198 (fun _ h => arq_Arq_pump.calls h HS.j1) ?_
  rintro _ _ w H ⟨rfl, HS⟩
  have HS := HS.o1
  refine go ?_
  have HS := HS.ke [0, 1]
  exact rt
 ·refine go ?_
  refine V.cd H rfl (fun _ H => ?_) (fun _ H => ?_)
  ·refine go ?_
   have HS := arq_Arq.close tv HS
   refine W.kl H func265 (fun _ h => arq_Arq_end.calls h HS.j1) ?_
   rintro _ _ w H ⟨rfl, HS⟩
   have HS := HS.o1
   refine go ?_
   exact rt
  ·refine go ?_
   have HS := arq_Arq.close tv HS
   exact rt
mutual
def arq_Arq_closed.j0 (k : Nat) (a0 : arq_Arq) (a1 : Int) (x2 : Bool) (x3 : Bool) : Option arq_Arq := (if x3 = true then ((arq_Arq_put.f k a0 a1 ({ Kind := 6, Ns := 0, Nr := 0, Poll := false } : api_Ctl) ([] : List Int)).bind fun t6 => some t6) else ((arq_Arq_tell.f k a0 ({ Kind := 4, Ns := 0, Nr := 0, Poll := x2 } : api_Ctl)).bind fun t8 => ((arq_Arq_end.f t8).bind fun t10 => some t10)))
end
def arq_Arq_closed.f (k : Nat) (a0 : arq_Arq) (a1 : Int) (a2 : Bool) : Option arq_Arq := (if a1 = a0.tag then (if a0.state = 2 then (arq_Arq_closed.j0 k a0 a1 a2 false) else (arq_Arq_closed.j0 k a0 a1 a2 (!(decide (a0.state = 3))))) else (arq_Arq_closed.j0 k a0 a1 a2 true))
theorem arq_Arq_closed.calls {k : Nat} {a0 : arq_Arq} {a1 : Int} {a2 : Bool} {R : As} {w0 w : World} {b0 : Nat} {r : arq_Arq} (H : arq_Arq_closed.f k a0 a1 a2 = some r) (HS : Sep.St [arq_Arq.at b0 a0, R] w0 w)  : Calls Tryz.prog 300 #[pt b0, vi a1, vb a2] w (Ret fun u w => u = Value.tuple #[] ∧ Sep.St [arq_Arq.at b0 r, R] w0 w) := by
 refine calls_enter func300 rfl rfl ?_
 refine V.seq ?_
 refine V.meet (σ := Bool × Bool) (fun (x2, x3) w => Sep.St [arq_Arq.at b0 a0, R] w0 w ∧ ∃ kf4, kf4 ≤ k ∧ arq_Arq_closed.j0 kf4 a0 a1 x2 x3 = some r) (fun (x2, x3) => [(0, pt b0), (1, vi a1), (2, vb x2), (25, vb x3)]) ?_ ?_
 ·refine go ?_
  obtain ⟨_, _, _, _, _, _, _, _, _, HS⟩ := arq_Arq.open HS
  refine go ?_
  refine W.cm 12 H rfl (fun _ H => ?_) (fun _ H => ?_)
  ·refine go ?_
   refine W.cm 18 H rfl (fun _ H => ?_) (fun _ H => ?_)
   ·refine go ?_
    have HS := arq_Arq.close tv HS
    exact At.mt (_, _) ⟨HS, k, by omega, H⟩
   ·refine go ?_
    have HS := arq_Arq.close tv HS
    exact At.mt (_, _) ⟨HS, k, by omega, H⟩
  ·refine go ?_
   have HS := arq_Arq.close tv HS
   exact At.mt (_, _) ⟨HS, k, by omega, H⟩
 ·rintro ⟨x2, x3⟩ w ⟨HS, kf4, _, H⟩
  refine V.cv H rfl (fun _ H => ?_) (fun _ H => ?_)
  ·refine go ?_
   refine W.r (X.bd (Value.agg #[vi (6), vi (0), vi (0), vb false]) rfl (fun _ => by kernel_rfl)) rfl ?_
   have HS := ((St.row_freeze (row_nilF (Value.int .u8) 5 1 HS)).more 0 rfl (fun _ t => t) fsl.pers).b [2]
   refine W.kl H func236 (fun _ h => arq_Arq_put.calls h HS.j2) ?_
   rintro _ _ w H ⟨rfl, HS⟩
   have HS := HS.o1
   refine go ?_
   have HS := HS.ke [0, 1]
   exact rt
  ·refine go ?_
   refine W.r (X.bd (Value.agg #[vi (4), vi (0), vi (0), vb x2]) rfl (fun _ => by kernel_rfl)) rfl ?_
   refine W.kl H func194 (fun _ h => arq_Arq_tell.calls h HS.j1) ?_
   rintro _ _ w H ⟨rfl, HS⟩
   have HS := HS.o1
   refine go ?_
   refine W.kl H func265 (fun _ h => arq_Arq_end.calls h HS.j1) ?_
   rintro _ _ w H ⟨rfl, HS⟩
   have HS := HS.o1
   refine go ?_
   exact rt
mutual
def arq_Arq_refused.j1 (a0 : arq_Arq) (a1 : Int) (x7 : Bool) : Option arq_Arq := (if x7 = true then ((arq_Arq_end.f ({ a0 with tag := a1 } : arq_Arq)).bind fun t12 => some t12) else some a0)
def arq_Arq_refused.j0 (a0 : arq_Arq) (a1 : Int) (x2 : Bool) : Option arq_Arq := (if x2 = true then ((arq_Arq_end.f a0).bind fun t5 => some t5) else (if a0.state = 1 then ((arq_Arq_ahead.f a0 a1).bind fun t17 => (arq_Arq_refused.j1 a0 a1 t17)) else (arq_Arq_refused.j1 a0 a1 false)))
end
def arq_Arq_refused.f (a0 : arq_Arq) (a1 : Int) : Option arq_Arq := (if a1 = a0.tag then (arq_Arq_refused.j0 a0 a1 (!(decide (a0.state = 0)))) else (arq_Arq_refused.j0 a0 a1 false))
theorem arq_Arq_refused.calls {a0 : arq_Arq} {a1 : Int} {R : As} {w0 w : World} {b0 : Nat} {r : arq_Arq} (H : arq_Arq_refused.f a0 a1 = some r) (HS : Sep.St [arq_Arq.at b0 a0, R] w0 w)  : Calls Tryz.prog 301 #[pt b0, vi a1] w (Ret fun u w => u = Value.tuple #[] ∧ Sep.St [arq_Arq.at b0 r, R] w0 w) := by
 refine calls_enter func301 rfl rfl ?_
 refine gs ?_
 refine V.meet (σ := Bool) (fun x2 w => Sep.St [arq_Arq.at b0 a0, R] w0 w ∧ arq_Arq_refused.j0 a0 a1 x2 = some r) (fun x2 => [(0, pt b0), (1, vi a1), (4, vb x2)]) ?_ ?_
 ·refine go ?_
  obtain ⟨_, _, _, _, _, _, _, _, _, HS⟩ := arq_Arq.open HS
  refine go ?_
  refine W.cd 11 H rfl (fun _ H => ?_) (fun _ H => ?_)
  ·refine go ?_
   have HS := arq_Arq.close tv HS
   exact At.mt _ ⟨HS, H⟩
  ·refine go ?_
   have HS := arq_Arq.close tv HS
   exact At.mt _ ⟨HS, H⟩
 ·rintro x2 w ⟨HS, H⟩
  refine V.cv H rfl (fun _ H => ?_) (fun _ H => ?_)
  ·refine go ?_
   refine W.kl H func265 (fun _ h => arq_Arq_end.calls h HS.j1) ?_
   rintro _ _ w H ⟨rfl, HS⟩
   have HS := HS.o1
   refine go ?_
   exact rt
  ·refine V.meet (σ := Bool) (fun x7 w => Sep.St [arq_Arq.at b0 a0, R] w0 w ∧ arq_Arq_refused.j1 a0 a1 x7 = some r) (fun x7 => [(0, pt b0), (1, vi a1), (20, vb x7)]) ?_ ?_
   ·refine go ?_
    obtain ⟨_, _, _, _, _, _, _, _, _, HS⟩ := arq_Arq.open HS
    refine go ?_
    refine W.cd 26 H rfl (fun _ H => ?_) (fun _ H => ?_)
    ·refine go ?_
     refine W.kl H func314 (fun _ h => arq_Arq_ahead.calls h HS.j7) ?_
     rintro _ _ w H ⟨rfl, HS⟩
     have HS := HS.o7
     refine go ?_
     have HS := arq_Arq.close tv HS
     exact At.mt _ ⟨HS, H⟩
    ·refine go ?_
     have HS := arq_Arq.close tv HS
     exact At.mt _ ⟨HS, H⟩
   ·rintro x7 w ⟨HS, H⟩
    refine V.cv H rfl (fun _ H => ?_) (fun _ H => ?_)
    ·refine go ?_
     obtain ⟨_, _, _, _, _, _, _, _, _, HS⟩ := arq_Arq.open HS
     refine go ?_
     refine W.sr 5 HS rfl rfl rfl fun w HS => ?_
     refine go ?_
     have HS := arq_Arq.close tv HS
     refine W.kl H func265 (fun _ h => arq_Arq_end.calls h HS.j1) ?_
     rintro _ _ w H ⟨rfl, HS⟩
     have HS := HS.o1
     refine go ?_
     exact rt
    ·refine go ?_
     exact rt
def slices_Delete_SSbyteSbyte.f (a0 : List (List Int)) (a1 : Int) (a2 : Int) : Option (List (List Int)) := (if 0 ≤ a1 ∧ a1 ≤ a2 ∧ a2 ≤ (a0.length : Int) then (if a1 = a2 then some a0 else (if 0 ≤ (0 : Int) ∧ (0 : Int) ≤ a1 ∧ a1 ≤ (a0.length : Int) then (if 0 ≤ a2 ∧ a2 ≤ (a0.length : Int) ∧ (a0.length : Int) ≤ (a0.length : Int) then some ((cut a0 (0 : Int) a1) ++ (cut a0 a2 (a0.length : Int))) else none) else none)) else none)
theorem slices_Delete_SSbyteSbyte.calls {a0 : List (List Int)} {a1 : Int} {a2 : Int} {R : As} {w0 w : World} {sa0 : Option Addr} {sc0 : Nat} {sd0 : List Value} {r : List (List Int)} (H : slices_Delete_SSbyteSbyte.f a0 a1 a2 = some r) (HS : Sep.St [row 27 1 (.slice sa0 a0.length sc0) a0.length sd0, tie (El.sl (El.int .u8)) sd0 a0, R] w0 w)  : Calls Tryz.prog 322 #[vs sa0 a0.length sc0, vi a1, vi a2] w (Ret fun u w => ∃ (aq0 : Option Addr) (cq0 : Nat) (dq0 : List Value), u = vs aq0 r.length cq0 ∧ Sep.St [row 27 1 (.slice aq0 r.length cq0) r.length dq0, tie (El.sl (El.int .u8)) dq0 r, R] w0 w) := by
 refine calls_enter func322 rfl rfl ?_
 refine go ?_
 obtain ⟨c1, H⟩ := ite_n H
 refine W.r (X.sl3 underlying53 inf27 rfl rfl rfl rfl c1 (Int.ofNat_le.2 (rdC.at 0 row_rd HS rfl).cap)) rfl ?_
 refine go ?_
 refine V.cd H rfl (fun _ H => ?_) (fun _ H => ?_)
 ·refine go ?_
  exact rt
 ·refine go ?_
  obtain ⟨c5, H⟩ := ite_n H
  obtain ⟨c6, H⟩ := ite_n H
  apply V.da [6] [7] [(20, _), (21, _), (22, _), (23, _), (24, _), (25, _)] mo HS
  rfl
  refine T.e [22, 25] [] [0, 1, 2, 3, 4, 5] (fun w HS => ?_) ⟨rd, rd, .n2 20 21 rfl rfl rfl (fun w HS => X.slH underlying53 inf27 rfl rfl c5 (rdC.at 0 row_rd HS rfl).cap), rd, rd, .n2 23 24 rfl rfl rfl (fun w HS => X.slL underlying53 inf27 rfl rfl c6), rds⟩
  have hlt7 : a1 < a2 := by omega
  have hd8 : 0 ≤ a1 ∧ a1 < a2 ∧ a2 ≤ (a0.length : Int) := by omega
  have hc9 : (a0.length : Int) ≤ (sc0 : Int) := Int.ofNat_le.2 (rdC.at 0 row_rd HS rfl).cap
  have hl10 : (((cut a0 (0 : Int) a1) ++ (cut a0 a2 (a0.length : Int))).length : Int) ≤ (a0.length : Int) := by rw [List.length_append, cut_len ⟨by omega, by omega, by omega⟩, cut_len ⟨by omega, by omega, by omega⟩]; omega
  refine ⟨_, Y.appDel (xs := a0) 0 underlying53 ap27 (by decide) HS rfl hd8 rfl rfl (St.tie_one 1 HS rfl), ?_⟩
  rintro _ w ⟨rfl, HS⟩
  have HS := St.tie_app 1 (St.tie_cut (0 : Int) a1 ((St.tie_cut2 1 a2 (a0.length : Int) HS rfl).fr 2)) rfl
  apply T.na [(26, _), (0, _)] HS
  exact nmk
  refine T.ff [0, 7] fun w HS => ?_
  refine go ?_
  refine W.r (X.slC underlying53 inf27 rfl rfl rfl ⟨by omega, hl10⟩ hc9) rfl ?_
  refine W.en (Y.clearTail (n0 := a0.length) 2 underlying53 ap27 rfl rfl HS rfl (Int.ofNat_le.1 hl10) (Int.ofNat_le.1 hc9) rfl) rfl ?_
  rintro _ w HS
  refine go ?_
  have HS := HS.ke [2, 0, 1]
  exact rt
mutual
def backlog_Log_Ack.j0 (a0 : backlog_Log) (t3 : Int) (x8 : Bool) : Option (Int × Bool × backlog_Log) := (if x8 = true then some (0, false, a0) else ((slices_Delete_SSbyteSbyte.f a0.l 0 t3).bind fun t13 => ((backlog_Log_number.f ({ a0 with out := w64 (a0.out - t3), l := t13 } : backlog_Log) t3).bind fun t15 => some (t3, true, ({ a0 with first := t15, out := w64 (a0.out - t3), l := t13 } : backlog_Log)))))
end
def backlog_Log_Ack.f (a0 : backlog_Log) (a1 : Int) : Option (Int × Bool × backlog_Log) := ((serial_Dist.f a0.first a1 a0.m).bind fun t3 => (if a1 < 0 then (backlog_Log_Ack.j0 a0 t3 true) else (if a1 ≥ a0.m then (backlog_Log_Ack.j0 a0 t3 true) else (backlog_Log_Ack.j0 a0 t3 (decide (t3 > a0.out))))))
theorem backlog_Log_Ack.calls {a0 : backlog_Log} {a1 : Int} {R : As} {w0 w : World} {b0 : Nat} {r : Int × Bool × backlog_Log} (H : backlog_Log_Ack.f a0 a1 = some r) (HS : Sep.St [backlog_Log.at b0 a0, R] w0 w)  : Calls Tryz.prog 319 #[pt b0, vi a1] w (Ret fun u w => u = Value.tuple #[vi r.1, vb r.2.1] ∧ Sep.St [backlog_Log.at b0 r.2.2, R] w0 w) := by
 refine calls_enter func319 rfl rfl ?_
 refine go ?_
 obtain ⟨_, _, _, _, HS⟩ := backlog_Log.open HS
 apply V.da [9] [10] [(7, _), (8, _), (9, _), (10, _), (11, _), (12, _), (13, _), (14, _), (15, _)] mo HS
 rfl
 refine T.e [10, 11, 15] [] [0, 1, 2, 3, 4, 5, 6, 7, 8] fun w HS => ?_
 refine Y.kl H func309 (fun _ h => serial_Dist.calls h HS.j0) ?_
 rintro t3 _ w H ⟨rfl, HS⟩
 have HS := HS.o0
 apply T.na [(16, _), (6, _)] HS
 exact nmk
 refine T.ff [0, 1, 6] fun w HS => ?_
 refine gs ?_
 refine V.seq ?_
 refine V.meet (σ := Bool) (fun x8 w => Sep.St [backlog_Log.at b0 a0, R] w0 w ∧ backlog_Log_Ack.j0 a0 t3 x8 = some r) (fun x8 => [(0, pt b0), (6, vi t3), (34, vb x8)]) ?_ ?_
 ·refine go ?_
  refine W.cd 19 H rfl (fun _ H => ?_) (fun _ H => ?_)
  ·refine go ?_
   have HS := backlog_Log.close tv HS
   exact At.mt _ ⟨HS, H⟩
  ·refine go ?_
   refine W.cd 27 H rfl (fun _ H => ?_) (fun _ H => ?_)
   ·refine go ?_
    have HS := backlog_Log.close tv HS
    exact At.mt _ ⟨HS, H⟩
   ·refine go ?_
    have HS := backlog_Log.close tv HS
    exact At.mt _ ⟨HS, H⟩
 ·rintro x8 w ⟨HS, H⟩
  refine V.cv H rfl (fun _ H => ?_) (fun _ H => ?_)
  ·refine go ?_
   exact rt
  ·refine go ?_
   obtain ⟨_, _, _, _, HS⟩ := backlog_Log.open HS
   refine go ?_
   have HS := HS.b [1, 1]
   refine W.kl H func322 (fun _ h => slices_Delete_SSbyteSbyte.calls h HS.j2) ?_
   rintro _ _ w H ⟨_, _, _, rfl, HS⟩
   have HS := HS.o2
   refine go ?_
   refine W.sr 5 HS rfl rfl rfl fun w HS => ?_
   refine go ?_
   refine W.sr 4 HS rfl rfl rfl fun w HS => ?_
   refine go ?_
   have HS := HS.b [2]
   refine W.kl H func279 (fun _ h => backlog_Log_number.calls h HS.j3) ?_
   rintro _ _ w H ⟨rfl, HS⟩
   have HS := HS.o3
   refine go ?_
   refine W.sr 3 HS rfl rfl rfl fun w HS => ?_
   refine go ?_
   have HS := backlog_Log.close tv HS
   exact rt
def arq_Arq_acknowledged.f (k : Nat) (a0 : arq_Arq) (a1 : Int) : Option (Bool × arq_Arq) := ((backlog_Log_Ack.f a0.log a1).bind fun t3 => (if t3.1 = 0 then some (t3.2.1, ({ a0 with log := t3.2.2 } : arq_Arq)) else ((clock_Set_Stop.f a0.timers 0).bind fun t13 => ((backlog_Log_Out.f k t3.2.2).bind fun t17 => (if (t17.length : Int) > 0 then ((arq_Arq_start.f ({ a0 with tries := 0, log := t3.2.2, timers := t13.2, acked := w64 (a0.acked + t3.1) } : arq_Arq)).bind fun t20 => some (t3.2.1, t20)) else some (t3.2.1, ({ a0 with tries := 0, log := t3.2.2, timers := t13.2, acked := w64 (a0.acked + t3.1) } : arq_Arq)))))))
theorem arq_Arq_acknowledged.calls {k : Nat} {a0 : arq_Arq} {a1 : Int} {R : As} {w0 w : World} {b0 : Nat} {r : Bool × arq_Arq} (H : arq_Arq_acknowledged.f k a0 a1 = some r) (HS : Sep.St [arq_Arq.at b0 a0, R] w0 w)  : Calls Tryz.prog 315 #[pt b0, vi a1] w (Ret fun u w => u = vb r.1 ∧ Sep.St [arq_Arq.at b0 r.2, R] w0 w) := by
 refine calls_enter func315 rfl rfl ?_
 refine go ?_
 obtain ⟨_, _, _, _, _, _, _, _, _, HS⟩ := arq_Arq.open HS
 refine go ?_
 have HS := HS.b [1]
 refine W.kl H func319 (fun _ h => backlog_Log_Ack.calls h HS.j1) ?_
 rintro _ _ w H ⟨rfl, HS⟩
 have HS := HS.o1
 refine go ?_
 refine V.cd H rfl (fun _ H => ?_) (fun _ H => ?_)
 ·refine go ?_
  have HS := arq_Arq.close tv (HS.b [1])
  exact rt
 ·refine go ?_
  refine W.sr 14 HS rfl rfl rfl fun w HS => ?_
  refine go ?_
  refine W.sr 6 HS rfl rfl rfl fun w HS => ?_
  refine go ?_
  have HS := HS.b [3]
  refine W.kl H func240 (fun _ h => clock_Set_Stop.calls h HS.j1) ?_
  rintro _ _ w H ⟨rfl, HS⟩
  have HS := HS.o1
  refine go ?_
  have HS := HS.fr 1
  obtain ⟨_, _, _, _, HS⟩ := backlog_Log.open HS
  refine W.kl H func260 (fun _ h => backlog_Log_Out.calls h HS.j3) ?_
  rintro _ _ w H ⟨_, _, rfl, HS⟩
  have HS := HS.o4
  refine go ?_
  refine V.cd H rfl (fun _ H => ?_) (fun _ H => ?_)
  ·refine go ?_
   have HS := arq_Arq.close tv ((backlog_Log.close tv (HS.b [1, 1, 1])).b [3, 0, 2, 1, 1, 1, 1])
   refine W.kl H func195 (fun _ h => arq_Arq_start.calls h HS.j1) ?_
   rintro _ _ w H ⟨rfl, HS⟩
   have HS := HS.o1
   refine go ?_
   have HS := HS.ke [0, 1]
   exact rt
  ·refine go ?_
   have HS := (arq_Arq.close tv ((backlog_Log.close tv (HS.b [1, 1, 1])).b [3, 0, 2, 1, 1, 1, 1])).ke [0, 1]
   exact rt
def serial_Next.f (a0 : Int) (a1 : Int) : Option Int := ((serial_round.f a0 a1).bind fun t1 => ((serial_round.f (w64 (t1.1 + 1)) t1.2).bind fun t3 => some t3.1))
theorem serial_Next.calls {a0 : Int} {a1 : Int} {R : As} {w0 w : World}  {r : Int} (H : serial_Next.f a0 a1 = some r) (HS : Sep.St [R] w0 w)  : Calls Tryz.prog 193 #[vi a0, vi a1] w (Ret fun u w => u = vi r ∧ Sep.St [R] w0 w) := by
 refine calls_enter func193 rfl rfl ?_
 refine go ?_
 refine W.kl H func235 (fun _ h => serial_round.calls h HS.j0) ?_
 rintro _ _ w H ⟨rfl, HS⟩
 have HS := HS.o0
 refine go ?_
 refine W.kl H func235 (fun _ h => serial_round.calls h HS.j0) ?_
 rintro _ _ w H ⟨rfl, HS⟩
 have HS := HS.o0
 refine go ?_
 exact rt
mutual
def reorder_Order_Put.l0 : Nat → Int → Bool → reorder_Order → (List Int) → Option (Int × reorder_Order)
 | 0, _, _, _, _ => none
 | k + 1, x26, x27, x28, x31 => (if x27 = true then (if (x28.ready.length : Int) + (([x31] : List (List Int))).length ≤ 1099511627776 then ((serial_Next.f x28.next x28.m).bind fun t43 => (reorder_Order_Put.l0 k (w64 (x26 + 1)) (mhas (mdel x28.kept x28.next) t43) ({ x28 with next := t43, kept := mdel x28.kept x28.next, ready := x28.ready ++ ([x31] : List (List Int)) } : reorder_Order) (mget (mdel x28.kept x28.next) t43 []))) else none) else some (x26, x28))
end
def reorder_Order_Put.f (k : Nat) (a0 : reorder_Order) (a1 : Int) (a2 : List Int) : Option (Int × reorder_Order) := ((serial_Dist.f a0.next a1 a0.m).bind fun t3 => (if ¬ (a0.m = 0) then (if t3 ≥ a0.window then some ((-1), a0) else (if mhas a0.kept ((w64 (a0.next + t3)).tmod a0.m) = true then some (0, a0) else ((slices_Clone_Sbytebyte.f a2).bind fun t17 => (reorder_Order_Put.l0 k 0 (mhas (mput a0.kept ((w64 (a0.next + t3)).tmod a0.m) t17) a0.next) ({ a0 with kept := mput a0.kept ((w64 (a0.next + t3)).tmod a0.m) t17 } : reorder_Order) (mget (mput a0.kept ((w64 (a0.next + t3)).tmod a0.m) t17) a0.next []))))) else none))
theorem reorder_Order_Put.calls {k : Nat} {a0 : reorder_Order} {a1 : Int} {a2 : List Int} {R : As} {w0 w : World} {b0 : Nat} {sa2 : Option Addr} {sc2 : Nat} {r : Int × reorder_Order} (H : reorder_Order_Put.f k a0 a1 a2 = some r) (HS : Sep.St [reorder_Order.at b0 a0, R] w0 w) (hr2 : rdC R 1 (.slice sa2 a2.length sc2) a2.length (a2.map (Value.int .u8))) : Calls Tryz.prog 320 #[pt b0, vi a1, vs sa2 a2.length sc2] w (Ret fun u w => u = vi r.1 ∧ Sep.St [reorder_Order.at b0 r.2, R] w0 w) := by
 refine calls_enter func320 rfl rfl ?_
 refine go ?_
 obtain ⟨_, _, _, _, _, _, HS⟩ := reorder_Order.open HS
 apply V.da [9] [10] [(13, _), (14, _), (15, _), (16, _), (17, _), (18, _), (19, _), (20, _), (21, _)] mo HS
 rfl
 refine T.e [16, 17, 21] [] [0, 1, 2, 3, 4, 5, 6, 7, 8] fun w HS => ?_
 refine Y.kl H func309 (fun _ h => serial_Dist.calls h HS.j0) ?_
 rintro t3 _ w H ⟨rfl, HS⟩
 have HS := HS.o0
 apply T.na [(22, _), (7, _)] HS
 exact nmk
 refine T.ff [0, 2, 7] fun w HS => ?_
 refine go ?_
 obtain ⟨c5, H⟩ := ite_n H
 apply V.da [] [] [(23, _), (24, _), (25, _), (26, _), (27, _), (28, _), (29, _), (30, _), (31, _), (32, _), (33, _), (1, _)] mo HS
 rfl
 refine T.ff [0, 1, 2, 7] (fun w HS => ?_) ⟨rd, rd, rd, rd, rd, rd, rd, rd, rd, rd, .n2 28 32 rfl rfl rfl (fun w HS => X.rem rfl rfl c5), rds⟩
 refine go ?_
 refine V.cd H rfl (fun _ H => ?_) (fun _ H => ?_)
 ·refine go ?_
  have HS := reorder_Order.close tv HS
  exact rt
 ·refine go ?_
  have hm12 := St.tieM_has 2 ((w64 (a0.next + t3)).tmod a0.m) HS rfl
  have HS := St.tieM_get 2 ((w64 (a0.next + t3)).tmod a0.m) (z := .slice none 0 0) (d := []) sl_zero HS rfl
  obtain ⟨ea14, em15, hu13, HS⟩ := St.sl_openF (Value.int .u8) (fun t => tie_int t) HS
  refine W.r (X.lookup (z := .slice none 0 0) 2 underlying246 underlying3 ze27 HS rfl rfl rfl hu13 hm12) rfl ?_
  refine go ?_
  refine V.cv H rfl (fun _ H => ?_) (fun _ H => ?_)
  ·refine go ?_
   have HS := (reorder_Order.close tv (HS.b [1, 1, 1, 1, 1])).ke [0, 1]
   exact rt
  ·refine go ?_
   apply V.da [6, 7] [] [(50, _), (51, _), (52, _), (53, _), (54, _), (55, _)] mo HS
   rfl
   refine T.e [55] [] [5] fun w HS => ?_
   refine Y.kl H func189 (fun _ h => slices_Clone_Sbytebyte.calls h HS.j0 (rdC.part 6 hr2 rfl)) ?_
   rintro t17 _ w H ⟨at17_0, ct17_0, rfl, HS⟩
   have HS := HS.o1
   refine T.nw HS ?_
   refine T.e [53, 54, 56] [] [0, 1, 2, 3, 4] fun w HS => ?_
   have HS := St.tieM_put ((w64 (a0.next + t3)).tmod a0.m) ((St.sl_close (E := (El.int .u8)) (St.swap (St.put (A := tie (El.int .u8) (t17.map (Value.int .u8)) t17) (fun _ => int_tie) ((St.row_freeze HS).more 0 rfl (fun _ t => t) fsl.pers)))).b [0, 4])
   refine ⟨_, Y.mapUpdate 4 underlying246 underlying3 HS rfl rfl rfl rfl, ?_⟩
   rintro _ w HS
   refine T.nn HS ?_
   refine T.ff [0] fun w HS => ?_
   refine go ?_
   have hm19 := St.tieM_has 0 a0.next HS rfl
   have HS := St.tieM_get 0 a0.next (z := .slice none 0 0) (d := []) sl_zero HS rfl
   obtain ⟨_, _, hu20, HS⟩ := St.sl_openF (Value.int .u8) (fun t => tie_int t) HS
   apply V.da [] [] [(58, _), (59, _), (60, _), (61, _), (62, _), (63, _), (64, _), (65, _), (66, _), (57, _), (67, _), (68, _), (11, _), (12, _)] mo HS
   rfl
   refine T.ff [0, 10, 11, 12] (fun w HS => ?_) ⟨rd, rd, rd, rd, rd, rd, rd, rd, .n2 61 65 rfl rfl rfl (fun w HS => X.lookup (z := .slice none 0 0) 5 underlying246 underlying3 ze27 HS rfl rfl rfl hu20 hm19), rds⟩
   refine go ?_
   have HS := reorder_Order.close tv (HS.b [4, 4, 1, 3, 3])
   refine V.lp (σ := Int × Bool × reorder_Order × Option Addr × Nat × List Int) (fun kq (x26, x27, x28, ra29, rc30, x31) w => Sep.St [reorder_Order.at b0 x28, fsl 1 (.slice ra29 x31.length rc30) x31.length (x31.map (Value.int .u8)), fsl 1 (.slice at17_0 t17.length ct17_0) t17.length (t17.map (Value.int .u8)), fsl 1 (.slice ea14 (mget a0.kept ((w64 (a0.next + t3)).tmod a0.m) []).length em15) (mget a0.kept ((w64 (a0.next + t3)).tmod a0.m) []).length ((mget a0.kept ((w64 (a0.next + t3)).tmod a0.m) []).map (Value.int .u8)), R] w0 w ∧ reorder_Order_Put.l0 kq x26 x27 x28 x31 = some r ∧ kq ≤ k) (fun (x26, x27, x28, ra29, rc30, x31) => [(0, pt b0), (10, vi x26), (11, vs ra29 x31.length rc30), (12, vb x27)]) (_, _, _, _, _, _) ⟨HS, H, Nat.le_refl _⟩ ?_
   rintro kq32 ⟨x26, x27, x28, ra29, rc30, x31⟩ w ⟨HS, H, _⟩
   cases kq32 with
   | zero => exact absurd H (by simp [reorder_Order_Put.l0])
   | succ kq32 =>
    simp only [reorder_Order_Put.l0] at H
    refine go ?_
    refine V.cv H rfl (fun _ H => ?_) (fun _ H => ?_)
    ·refine go ?_
     obtain ⟨_, _, _, _, _, _, HS⟩ := reorder_Order.open HS
     apply V.da [8] [] [(82, _), (83, _), (84, _), (85, _), (86, _), (87, _), (88, _), (89, _)] mo HS
     rfl
     refine T.e [85, 89] [] [0, 1, 2, 3, 4, 5, 6, 7] fun w HS => ?_
     have HS := St.tieM_del x28.next (HS.fr 2)
     refine ⟨_, Y.delete 2 underlying246 underlying3 HS rfl rfl rfl, ?_⟩
     rintro _ w HS
     refine T.nn HS ?_
     refine T.ff [0, 10, 11] fun w HS => ?_
     refine go ?_
     refine W.e (Y.lc (e := 27) (sz := 1) [vs ra29 x31.length rc30] HS rfl rfl (fun _ => by kernel_rfl)) rfl ?_
     rintro _ w ⟨_, rfl, HS⟩
     have HS := St.tie_cons (((St.sl_close (E := (El.int .u8)) (St.swap (St.put (A := tie (El.int .u8) (x31.map (Value.int .u8)) x31) (fun _ => int_tie) ((St.put (A := tie (El.sl (El.int .u8)) ([]) (([] : List (List Int)))) (fun _ => tie.nil) HS).more 7 rfl (fun _ t => t) fsl.pers)))).fr 1).fr 1)
     obtain ⟨_, H⟩ := ite_n H
     refine W.e (Y.app (xs := x28.ready) (ys := ([x31] : List (List Int))) 5 underlying53 ap27 rfl (by decide) HS rfl rfl rfl (rdC.at 1 row_rd HS rfl) (St.tie_one 0 HS rfl) (by omega) (by omega)) rfl ?_
     rintro _ w ⟨_, _, rfl, HS⟩
     have HS := St.tie_app 1 (HS.fr 6) rfl
     refine go ?_
     refine W.sr 4 HS rfl rfl rfl fun w HS => ?_
     refine go ?_
     apply V.da [9, 12] [10, 11] [(100, _), (101, _), (102, _), (103, _), (104, _), (105, _), (106, _), (107, _), (108, _)] mo HS
     rfl
     refine T.e [104, 108] [] [1, 2, 3, 4, 5, 6, 7, 8] fun w HS => ?_
     refine Y.kl H func193 (fun _ h => serial_Next.calls h HS.j0) ?_
     rintro t43 _ w H ⟨rfl, HS⟩
     have HS := HS.o0
     apply T.na [(109, _), (110, _), (111, _)] HS
     exact nmk
     refine T.e [109, 111] [] [0, 10, 11] fun w HS => ?_
     refine Y.sr 2 HS rfl rfl rfl fun _ w HS => ?_
     refine T.nn HS ?_
     refine T.ff [0, 10] fun w HS => ?_
     refine go ?_
     have hm45 := St.tieM_has 3 t43 HS rfl
     have HS := St.tieM_get 3 t43 (z := .slice none 0 0) (d := []) sl_zero HS rfl
     obtain ⟨_, _, hu46, HS⟩ := St.sl_openF (Value.int .u8) (fun t => tie_int t) HS
     apply V.da [] [] [(71, _), (72, _), (73, _), (74, _), (75, _), (76, _), (77, _), (78, _), (79, _), (70, _), (80, _), (81, _), (11, _), (12, _)] mo HS
     rfl
     refine T.ff [0, 10, 11, 12] (fun w HS => ?_) ⟨rd, rd, rd, rd, rd, rd, rd, rd, .n2 74 78 rfl rfl rfl (fun w HS => X.lookup (z := .slice none 0 0) 6 underlying246 underlying3 ze27 HS rfl rfl rfl hu46 hm45), rds⟩
     have HS := (reorder_Order.close tv (HS.b [5, 5, 4, 4, 1])).ke [0, 0, 3, 3, 3]
     exact At.rn (_, _, _, _, _, _) ⟨HS, H, by omega⟩
    ·refine go ?_
     have HS := HS.ke [0, 3]
     exact rt
def reorder_Order_Gap.f (a0 : reorder_Order) : Option Bool := some (decide ((a0.kept.length : Int) > 0))
theorem reorder_Order_Gap.calls {a0 : reorder_Order} {R : As} {w0 w : World} {b0 : Nat} {b3_p0 : Nat} {k3_p0 : List (Int × Value)} {a4_p0 : Option Addr} {c4_p0 : Nat} {d4_p0 : List Value} {r : Bool} (H : reorder_Order_Gap.f a0 = some r) (HS : Sep.St [blk b0 (#[vi a0.m, vi a0.window, vi a0.next, Value.map (some b3_p0), vs a4_p0 a0.ready.length c4_p0]) 248, mblk b3_p0 k3_p0, tieM (El.sl (El.int .u8)) k3_p0 a0.kept, row 27 1 (.slice a4_p0 a0.ready.length c4_p0) a0.ready.length d4_p0, tie (El.sl (El.int .u8)) d4_p0 a0.ready, R] w0 w)  : Calls Tryz.prog 321 #[pt b0] w (Ret fun u w => u = vb r ∧ Sep.St [blk b0 (#[vi a0.m, vi a0.window, vi a0.next, Value.map (some b3_p0), vs a4_p0 a0.ready.length c4_p0]) 248, mblk b3_p0 k3_p0, tieM (El.sl (El.int .u8)) k3_p0 a0.kept, row 27 1 (.slice a4_p0 a0.ready.length c4_p0) a0.ready.length d4_p0, tie (El.sl (El.int .u8)) d4_p0 a0.ready, R] w0 w) := by
 refine calls_enter func321 rfl rfl ?_
 refine go ?_
 refine W.r (X.lenMap (m := a0.kept) 1 underlying246 HS rfl (St.tieM_len 2 HS rfl) rfl) rfl ?_
 refine go ?_
 exact rt
mutual
def arq_Arq_come.j2 (k : Nat)  (x10 : arq_Arq) (x11 : api_Ctl) : Option arq_Arq := ((arq_Arq_tell.f k x10 x11).bind fun t15 => some t15)
def arq_Arq_come.j3 (k : Nat) (x4 : arq_Arq) (x7 : api_Ctl) (x17 : Bool) : Option arq_Arq := (if x17 = true then (arq_Arq_come.j2 k ({ x4 with rejected := true } : arq_Arq) ({ x7 with Kind := 2, Poll := false } : api_Ctl)) else (arq_Arq_come.j2 k x4 x7))
def arq_Arq_come.j1 (k : Nat) (x4 : arq_Arq) (x7 : api_Ctl) : Option arq_Arq := ((reorder_Order_Gap.f x4.order).bind fun t28 => (if t28 = true then (arq_Arq_come.j3 k x4 x7 (!x4.rejected)) else (arq_Arq_come.j3 k x4 x7 false)))
def arq_Arq_come.j0 (k : Nat) (a1 : api_Ctl) (x4 : arq_Arq) : Option arq_Arq := ((reorder_Order_Next.f x4.order).bind fun t37 => (arq_Arq_come.j1 k x4 ({ Kind := 1, Ns := 0, Nr := t37, Poll := a1.Poll } : api_Ctl)))
end
def arq_Arq_come.f (k : Nat) (a0 : arq_Arq) (a1 : api_Ctl) (a2 : List Int) : Option arq_Arq := ((reorder_Order_Put.f k a0.order a1.Ns a2).bind fun t47 => (if t47.1 > 0 then (arq_Arq_come.j0 k a1 ({ a0 with rejected := false, order := t47.2 } : arq_Arq)) else (arq_Arq_come.j0 k a1 ({ a0 with order := t47.2 } : arq_Arq))))
theorem arq_Arq_come.calls {k : Nat} {a0 : arq_Arq} {a1 : api_Ctl} {a2 : List Int} {R : As} {w0 w : World} {b0 : Nat} {sa2 : Option Addr} {sc2 : Nat} {r : arq_Arq} (H : arq_Arq_come.f k a0 a1 a2 = some r) (HS : Sep.St [arq_Arq.at b0 a0, R] w0 w) (hr2 : rdC R 1 (.slice sa2 a2.length sc2) a2.length (a2.map (Value.int .u8))) : Calls Tryz.prog 316 #[pt b0, Value.agg #[vi a1.Kind, vi a1.Ns, vi a1.Nr, vb a1.Poll], vs sa2 a2.length sc2] w (Ret fun u w => u = Value.tuple #[] ∧ Sep.St [arq_Arq.at b0 r, R] w0 w) := by
 refine calls_enter func316 rfl rfl ?_
 refine go ?_
 refine W.e (Y.box HS rfl) rfl ?_
 rintro _ w ⟨nb1, rfl, HS⟩
 refine gs ?_
 refine V.meet (σ := arq_Arq) (fun x4 w => Sep.St [api_Ctl.at nb1 a1, arq_Arq.at b0 x4, R] w0 w ∧ ∃ kf5, kf5 ≤ k ∧ arq_Arq_come.j0 kf5 a1 x4 = some r) (fun x4 => [(0, pt b0), (4, pt nb1)]) ?_ ?_
 ·refine go ?_
  have HS := HS.fr 1
  obtain ⟨_, _, _, _, _, _, _, _, _, HS⟩ := arq_Arq.open HS
  apply V.da [7] [8] [(7, _), (8, _), (9, _), (10, _), (11, _), (12, _), (13, _)] mo HS
  rfl
  refine T.e [10, 12, 13] [] [0, 1, 2, 3, 4, 5, 6] fun w HS => ?_
  have HS := HS.b [2]
  refine Y.kl H func320 (fun _ h => reorder_Order_Put.calls h HS.j1 (rdC.part 7 hr2 rfl)) ?_
  rintro _ _ w H ⟨rfl, HS⟩
  have HS := HS.o1
  apply T.na [(14, _), (15, _)] HS
  exact nmk
  refine T.ff [0, 4, 15] fun w HS => ?_
  refine go ?_
  refine V.cd H rfl (fun _ H => ?_) (fun _ H => ?_)
  ·refine go ?_
   refine W.sr 7 HS rfl rfl rfl fun w HS => ?_
   refine go ?_
   have HS := (arq_Arq.close tv ((api_Ctl.close tv (HS.b [7])).b [2, 2, 1, 1, 1, 1, 1])).b [1]
   exact At.mt _ ⟨HS, k, by omega, H⟩
  ·refine go ?_
   have HS := (arq_Arq.close tv ((api_Ctl.close tv (HS.b [7])).b [2, 2, 1, 1, 1, 1, 1])).b [1]
   exact At.mt _ ⟨HS, k, by omega, H⟩
 ·rintro x4 w ⟨HS, kf5, _, H⟩
  refine V.meet (σ := Nat × api_Ctl) (fun (nb6, x7) w => Sep.St [api_Ctl.at nb6 x7, api_Ctl.at nb1 a1, arq_Arq.at b0 x4, R] w0 w ∧ ∃ kf8, kf8 ≤ kf5 ∧ arq_Arq_come.j1 kf8 x4 x7 = some r) (fun (nb6, x7) => [(0, pt b0), (6, pt nb6)]) ?_ ?_
  ·have HS := HS.fr 1
   obtain ⟨_, b9_31, _, _, _, _, _, _, _, HS⟩ := arq_Arq.open HS
   have HS := HS.fr 7
   obtain ⟨_, HS⟩ := api_Ctl.open HS
   apply V.da [4, 8, 9] [7] [(19, _), (20, _), (21, _), (22, _), (24, _), (25, _)] mo HS
   rfl
   refine T.two rfl rfl ⟨.mv 0, .nc 19, .fa 20 fo156_9, .ld 21 1 underlying153, .fa 4 fo263_3, .ld 24 0 underlying4, tv⟩ (T.step (es := [8, 9]) _ [(22, pt b9_31)] rfl ⟨.inr ⟨rfl, rfl⟩, tv⟩ (Or.inl rfl) (by intro d hd; cases hd; exact ⟨by decide, rfl, rfl⟩) [] [0, 1, 2, 3] rfl rfl rfl rfl rfl (fun w HS => ?_)) (T.step (es := [4, 9]) _ [] rfl tv (Or.inl rfl) (by intro d hd; cases hd; exact ⟨by decide, rfl, rfl⟩) [7] [] rfl rfl rfl rfl rfl (fun w HS => ?_))
   ·have HS : Sep.St _ w0 w := HS
    have HS := HS.fr 3
    obtain ⟨_, _, _, _, _, _, HS⟩ := reorder_Order.open HS
    refine Y.kl H func280 (fun _ h => reorder_Order_Next.calls h HS.j5) ?_
    rintro t37 _ w H ⟨rfl, HS⟩
    have HS := HS.o5
    apply T.na [(23, _), (26, _)] HS
    exact nmk
    refine T.e [] [] [] (fun w HS => ?_) ⟨rd, rd, .n2 23 25 rfl rfl rfl (fun w HS => X.bd (Value.agg #[vi (1), vi (0), vi t37, vb a1.Poll]) rfl (fun _ => by kernel_rfl)), rds⟩
    refine ⟨_, Y.alloc (z := Value.agg (#[vi (0), vi (0), vi (0), vb false])) HS ze263, ?_⟩
    rintro _ w ⟨_, rfl, HS⟩
    refine T.nw HS ?_
    refine T.e [6, 26] [] [5, 6, 7] (fun w HS => ?_) ⟨rd, rd, .n2 23 25 rfl rfl rfl (fun w HS => X.bd (Value.agg #[vi (1), vi (0), vi t37, vb a1.Poll]) rfl (fun _ => by kernel_rfl)), rds⟩
    refine ⟨_, Y.storeSt (c' := #[vi (1), vi (0), vi t37, vb a1.Poll]) 0 [vi (1), vi (0), vi t37, vb a1.Poll] HS rfl inf263 rfl rfl rfl rfl rfl rfl, ?_⟩
    rintro _ w HS
    refine T.nn HS ?_
    refine T.ff [0, 6] fun w HS => ?_
    have HS := (arq_Arq.close tv ((reorder_Order.close tv ((api_Ctl.close tv ((api_Ctl.close tv HS).b [6])).b [2, 2, 2, 2, 2])).b [3, 3, 0, 2, 2, 2, 2])).b [2, 1]
    exact At.mt (_, _) ⟨HS, kf5, by omega, H⟩
   ·have HS : Sep.St _ w0 w := HS
    refine ⟨_, Y.alloc (z := Value.agg (#[vi (0), vi (0), vi (0), vb false])) HS ze263, ?_⟩
    rintro _ w ⟨_, rfl, HS⟩
    refine T.nw HS ?_
    refine T.e [22] [] [0, 1, 2, 3] fun w HS => ?_
    have HS := HS.fr 4
    obtain ⟨_, _, _, _, _, _, HS⟩ := reorder_Order.open HS
    refine Y.kl H func280 (fun _ h => reorder_Order_Next.calls h HS.j5) ?_
    rintro t43 _ w H ⟨rfl, HS⟩
    have HS := HS.o5
    apply T.na [(23, _), (26, _)] HS
    exact nmk
    refine T.e [6, 26] [] [5, 6, 7] (fun w HS => ?_) ⟨rd, rd, .n2 23 25 rfl rfl rfl (fun w HS => X.bd (Value.agg #[vi (1), vi (0), vi t43, vb a1.Poll]) rfl (fun _ => by kernel_rfl)), rds⟩
    refine ⟨_, Y.storeSt (c' := #[vi (1), vi (0), vi t43, vb a1.Poll]) 5 [vi (1), vi (0), vi t43, vb a1.Poll] HS rfl inf263 rfl rfl rfl rfl rfl rfl, ?_⟩
    rintro _ w HS
    refine T.nn HS ?_
    refine T.ff [0, 6] fun w HS => ?_
    have HS := (arq_Arq.close tv ((reorder_Order.close tv ((api_Ctl.close tv ((api_Ctl.close tv (HS.b [5])).b [6])).b [2, 2, 2, 2, 2])).b [3, 3, 0, 2, 2, 2, 2])).b [2, 1]
    exact At.mt (_, _) ⟨HS, kf5, by omega, H⟩
  ·rintro ⟨nb6, x7⟩ w ⟨HS, kf8, _, H⟩
   refine V.meet (σ := arq_Arq × api_Ctl) (fun (x10, x11) w => Sep.St [api_Ctl.at nb6 x11, api_Ctl.at nb1 a1, arq_Arq.at b0 x10, R] w0 w ∧ ∃ kf12, kf12 ≤ kf8 ∧ arq_Arq_come.j2 kf12 x10 x11 = some r) (fun (x10, x11) => [(0, pt b0), (6, pt nb6)]) ?_ ?_
   ·refine V.meet (σ := Bool) (fun x17 w => Sep.St [api_Ctl.at nb6 x7, api_Ctl.at nb1 a1, arq_Arq.at b0 x4, R] w0 w ∧ ∃ kf18, kf18 ≤ kf8 ∧ arq_Arq_come.j3 kf18 x4 x7 x17 = some r) (fun x17 => [(0, pt b0), (6, pt nb6), (38, vb x17)]) ?_ ?_
    ·refine go ?_
     have HS := HS.fr 2
     obtain ⟨_, _, _, _, _, _, _, _, _, HS⟩ := arq_Arq.open HS
     refine go ?_
     have HS := HS.fr 2
     obtain ⟨_, _, _, _, _, _, HS⟩ := reorder_Order.open HS
     refine W.kl H func321 (fun _ h => reorder_Order_Gap.calls h HS.j5) ?_
     rintro _ _ w H ⟨rfl, HS⟩
     have HS := HS.o5
     refine go ?_
     refine W.cv 32 H rfl (fun _ H => ?_) (fun _ H => ?_)
     ·refine go ?_
      have HS := (arq_Arq.close tv ((reorder_Order.close tv HS).b [1, 1])).b [1, 1]
      exact At.mt _ ⟨HS, kf8, by omega, H⟩
     ·refine go ?_
      have HS := (arq_Arq.close tv ((reorder_Order.close tv HS).b [1, 1])).b [1, 1]
      exact At.mt _ ⟨HS, kf8, by omega, H⟩
    ·rintro x17 w ⟨HS, kf18, _, H⟩
     refine V.cv H rfl (fun _ H => ?_) (fun _ H => ?_)
     ·refine go ?_
      have HS := HS.fr 2
      obtain ⟨_, _, _, _, _, _, _, _, _, HS⟩ := arq_Arq.open HS
      refine go ?_
      refine W.sr 7 HS rfl rfl rfl fun w HS => ?_
      refine go ?_
      have HS := HS.fr 7
      obtain ⟨_, HS⟩ := api_Ctl.open HS
      refine go ?_
      refine W.sr 0 HS rfl rfl rfl fun w HS => ?_
      refine go ?_
      refine W.sr 3 HS rfl rfl rfl fun w HS => ?_
      refine go ?_
      have HS := (arq_Arq.close tv ((api_Ctl.close tv HS).b [1, 1, 1, 1, 1, 1, 1])).b [1, 1]
      exact At.mt (_, _) ⟨HS, kf18, by omega, H⟩
     ·refine go ?_
      exact At.mt (_, _) ⟨HS, kf18, by omega, H⟩
   ·rintro ⟨x10, x11⟩ w ⟨HS, kf12, _, H⟩
    refine go ?_
    obtain ⟨_, HS⟩ := api_Ctl.open HS
    refine go ?_
    have HS := HS.b [2]
    refine W.kl H func194 (fun _ h => arq_Arq_tell.calls h HS.j1) ?_
    rintro _ _ w H ⟨rfl, HS⟩
    have HS := HS.o1
    refine go ?_
    have HS := HS.ke [0, 2]
    exact rt
end Go.Proofs.YtgkjmdapodgnfaaGreat

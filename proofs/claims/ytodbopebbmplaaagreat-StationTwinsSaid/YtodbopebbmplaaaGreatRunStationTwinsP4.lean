/- StationTwins: the functions that its law reaches, as plain functions, and that the machine's calls come to what these say. Conditions: those that stand at each. -/
import Derived.Test.YtodbopebbmplaaaGreatRunStationTwinsP3
set_option linter.all false
set_option maxRecDepth 100000
set_option maxHeartbeats 4000000
set_option synthInstance.maxSize 100000
set_option synthInstance.maxHeartbeats 1000000
namespace Go.Proofs.YtodbopebbmplaaaGreat
open Go.RowKit Go.Proofs.YtodbopebbmplaaaGreat.Sep Go.Proofs.YtodbopebbmplaaaGreat.Walk
mutual
def monitor_Monitor_Note.j2 (x7 : monitor_Monitor) (x30 : Bool) : Option (Int × monitor_Monitor) := (if x30 = true then some (1, ({ x7 with state := 1 } : monitor_Monitor)) else some (x7.state, x7))
def monitor_Monitor_Note.j1 (x7 : monitor_Monitor) (t15 : Int × Int × Bool) (x19 : Bool) : Option (Int × monitor_Monitor) := (if x19 = true then ((tally_Window_Clear.f x7.w).bind fun t24 => some (0, ({ x7 with w := t24, state := 0 } : monitor_Monitor))) else (if t15.2.1 ≥ x7.bad then some (2, ({ x7 with state := 2 } : monitor_Monitor)) else (if t15.2.1 ≥ (w64 ((w64 (x7.bad + 1)).tdiv (2))) then (monitor_Monitor_Note.j2 x7 (decide (x7.state = 0))) else (monitor_Monitor_Note.j2 x7 false))))
def monitor_Monitor_Note.j0  (x7 : monitor_Monitor) : Option (Int × monitor_Monitor) := ((tally_Window_Sum.f x7.w).bind fun t13 => ((tally_Parts.f t13).bind fun t15 => (if x7.state = 0 then (monitor_Monitor_Note.j1 x7 t15 false) else (monitor_Monitor_Note.j1 x7 t15 (decide (x7.row ≥ x7.good))))))
end
def monitor_Monitor_Note.f (a0 : monitor_Monitor) (a1 : Bool) : Option (Int × monitor_Monitor) := ((tally_Window_Note.f a0.w a1).bind fun t3 => (if a1 = true then (monitor_Monitor_Note.j0 ({ a0 with w := t3, row := imin (w64 (a0.row + 1)) (16), silence := 0 } : monitor_Monitor)) else (monitor_Monitor_Note.j0 ({ a0 with w := t3, row := 0, silence := 0 } : monitor_Monitor))))
theorem monitor_Monitor_Note.calls {a0 : monitor_Monitor} {a1 : Bool} {R : As} {w0 w : World} {b0 : Nat} {r : Int × monitor_Monitor} (H : monitor_Monitor_Note.f a0 a1 = some r) (HS : Sep.St [monitor_Monitor.at b0 a0, R] w0 w)  : Calls Tryz.prog 64 #[Value.pointer (some ⟨b0, 0, none⟩), Value.bool a1] w (Ret fun u w => u = Value.int .i64 r.1 ∧ Sep.St [monitor_Monitor.at b0 r.2, R] w0 w) := by
 unfold monitor_Monitor_Note.f at H
 refine calls_enter Tryz.func64 rfl rfl ?_
 have H : _ = some r := H
 refine V.seq (V.region (W.as rfl (W.nx (V.seq (V.region (W.mv rfl (W.nc rfl ?_)))))))
 obtain ⟨b3_1, hi2, HS⟩ := monitor_Monitor.open HS
 refine W.fa fo147_3 rfl (W.ld 0 HS Tryz.underlying144 rfl rfl rfl rfl (W.mv rfl ?_))
 obtain ⟨t3, A4, H⟩ := bind_s H
 replace HS := HS.pm [1, 0, 2]
 refine W.e (Y.cl Tryz.func134 (tally_Window_Note.calls A4 HS.j1)) rfl ?_
 rintro _ w ⟨rfl, HS⟩
 replace HS := HS.o1
 refine W.nx (V.seq (V.region (W.mv rfl (W.nc rfl (W.fa fo147_5 rfl (W.st 1 5 HS inf3 rfl rfl rfl rfl rfl rfl fun w HS => ?_))))))
 refine W.nx (V.seq (V.region (W.mv rfl (W.mv rfl (W.nc rfl (W.fa fo147_4 rfl (W.ld 1 HS Tryz.underlying3 rfl rfl rfl rfl (W.r (X.add rfl rfl) rfl (W.r (X.min2 rfl rfl) rfl (W.nc rfl (W.fa fo147_4 rfl (W.st 1 4 HS inf3 rfl rfl rfl rfl rfl rfl fun w HS => ?_))))))))))))
 refine W.nx (V.meet (σ := monitor_Monitor) (fun st w => match st with | x7 => Sep.St [monitor_Monitor.at b0 x7, R] w0 w ∧ monitor_Monitor_Note.j0 x7 = some r) (fun st => match st with | x7 => [(0, Value.pointer (some ⟨b0, 0, none⟩))]) ?_ ?_)
 ·refine V.seq (V.region (W.mv rfl (W.r (X.not rfl) rfl (W.nx ?_))))
  by_cases c39 : a1 = true
  ·replace H := ite_t c39 H
   refine V.condF (sb (n_t c39)) (V.skip ?_)
   replace HS := HS.pm [1, 0, 2]
   replace HS := monitor_Monitor.close trivial HS
   exact At.meet (({ a0 with w := t3, row := imin (w64 (a0.row + 1)) (16), silence := 0 } : monitor_Monitor)) ⟨rfl, trivial⟩ ⟨HS, H⟩
  ·replace H := ite_f c39 H
   refine V.condT (sb (n_f (b_f c39))) (V.region (W.mv rfl (W.nc rfl (W.fa fo147_4 rfl (W.st 1 4 HS inf3 rfl rfl rfl rfl rfl rfl fun w HS => ?_)))))
   refine W.nil ?_
   replace HS := HS.pm [1, 0, 2]
   replace HS := monitor_Monitor.close trivial HS
   exact At.meet ({ a0 with w := t3, row := 0, silence := 0 } : monitor_Monitor) ⟨rfl, trivial⟩ ⟨HS, H⟩
 ·rintro x7 w ⟨HS, H⟩
  unfold monitor_Monitor_Note.j0 at H
  refine V.seq (V.region (W.mv rfl (W.nc rfl ?_)))
  obtain ⟨b3_9, hi10, HS⟩ := monitor_Monitor.open HS
  refine W.fa fo147_3 rfl (W.ld 0 HS Tryz.underlying144 rfl rfl rfl rfl ?_)
  replace HS := HS.fr 1
  obtain ⟨a0_11, c0_11, hi12, HS⟩ := tally_Window.open HS
  obtain ⟨t13, A14, H⟩ := bind_s H
  refine W.e (Y.cl Tryz.func136 (tally_Window_Sum.calls A14 HS.j2)) rfl ?_
  rintro _ w ⟨rfl, HS⟩
  replace HS := HS.o2
  obtain ⟨t15, A16, H⟩ := bind_s H
  refine W.e (Y.cl Tryz.func135 (tally_Parts.calls A16 HS.j0)) rfl ?_
  rintro _ w ⟨rfl, HS⟩
  replace HS := HS.o0
  refine W.mv rfl (W.r (X.extract rfl rfl) rfl (W.r (X.extract rfl rfl) rfl (W.r (X.extract rfl rfl) rfl (W.as rfl (W.as rfl (W.as rfl (W.nx (V.seq (V.block (V.meet (σ := Bool) (fun st w => match st with | x19 => Sep.St [monitor_Monitor.at b0 x7, R] w0 w ∧ monitor_Monitor_Note.j1 x7 t15 x19 = some r) (fun st => match st with | x19 => [(0, Value.pointer (some ⟨b0, 0, none⟩)), (6, Value.int .i64 t15.2.1), (41, Value.bool x19)]) ?_ ?_))))))))))
  ·by_cases c38 : x7.state = 0
   ·replace H := ite_t c38 H
    refine V.dr [] [] [(42, Value.pointer (some ⟨b0, 0, none⟩)), (43, Value.pointer (some ⟨b0, 0, none⟩)), (44, Value.pointer (some ⟨b0, 0 + 6, none⟩)), (45, Value.int .i64 x7.state), (46, Value.bool (!(decide (x7.state = 0)))), (47, Value.bool (!(decide (x7.state = 0)))), (48, undef), (49, undef), (50, undef), (51, undef), (52, undef), (53, undef), (54, undef), (55, undef), (56, undef), (57, Value.bool false), (41, Value.bool false)] mo HS ?_
    refine T.fn [(0, _), (6, _), (41, _)] ⟨rfl, rfl, rfl, trivial⟩ ⟨.mv 0, .nc 42, .fa 43 fo147_6, .ld 44 2 Tryz.underlying3, .n1 45 rfl rfl (fun w HS => X.cmp (!(decide (x7.state = 0))) rfl rfl rfl rfl), .mv 46, .gp 5 true false 47 rfl rfl (Option.some.inj (sb (n_t (decide_eq_true c38)))) rfl, .gp 5 true false 47 rfl rfl (Option.some.inj (sb (n_t (decide_eq_true c38)))) rfl, .gp 5 true false 47 rfl rfl (Option.some.inj (sb (n_t (decide_eq_true c38)))) rfl, .gp 5 true false 47 rfl rfl (Option.some.inj (sb (n_t (decide_eq_true c38)))) rfl, .gp 5 true false 47 rfl rfl (Option.some.inj (sb (n_t (decide_eq_true c38)))) rfl, .gp 5 true false 47 rfl rfl (Option.some.inj (sb (n_t (decide_eq_true c38)))) rfl, .gp 5 true false 47 rfl rfl (Option.some.inj (sb (n_t (decide_eq_true c38)))) rfl, .gp 5 true false 47 rfl rfl (Option.some.inj (sb (n_t (decide_eq_true c38)))) rfl, .gp 5 true false 47 rfl rfl (Option.some.inj (sb (n_t (decide_eq_true c38)))) rfl, .n2 47 56 rfl rfl rfl (fun w HS => X.pickF (sb (n_t (decide_eq_true c38))) rfl), .as 57, trivial⟩ (fun w HS => ?_)
    replace HS := tally_Window.close trivial HS
    replace HS := HS.pm [1, 0, 2]
    replace HS := monitor_Monitor.close trivial HS
    exact At.meet false ⟨rfl, rfl, rfl, trivial⟩ ⟨HS, H⟩
   ·replace H := ite_f c38 H
    refine V.dr [] [] [(42, Value.pointer (some ⟨b0, 0, none⟩)), (43, Value.pointer (some ⟨b0, 0, none⟩)), (44, Value.pointer (some ⟨b0, 0 + 6, none⟩)), (45, Value.int .i64 x7.state), (46, Value.bool (!(decide (x7.state = 0)))), (47, Value.bool (!(decide (x7.state = 0)))), (48, Value.pointer (some ⟨b0, 0, none⟩)), (49, Value.pointer (some ⟨b0, 0, none⟩)), (50, Value.pointer (some ⟨b0, 0 + 4, none⟩)), (51, Value.int .i64 x7.row), (52, Value.pointer (some ⟨b0, 0, none⟩)), (53, Value.pointer (some ⟨b0, 0, none⟩)), (54, Value.pointer (some ⟨b0, 0 + 1, none⟩)), (55, Value.int .i64 x7.good), (56, Value.bool (decide (x7.row ≥ x7.good))), (57, Value.bool (decide (x7.row ≥ x7.good))), (41, Value.bool (decide (x7.row ≥ x7.good)))] mo HS ?_
    refine T.fn [(0, _), (6, _), (41, _)] ⟨rfl, rfl, rfl, trivial⟩ ⟨.mv 0, .nc 42, .fa 43 fo147_6, .ld 44 2 Tryz.underlying3, .n1 45 rfl rfl (fun w HS => X.cmp (!(decide (x7.state = 0))) rfl rfl rfl rfl), .mv 46, .gw [(0, _), (47, _)] 5 true 47 ⟨rfl, rfl, trivial⟩ rfl (sb (n_f (decide_eq_false c38))) (fun w HS => X.move rfl), .gw [(48, _), (47, _)] 5 true 47 ⟨rfl, rfl, trivial⟩ rfl (sb (n_f (decide_eq_false c38))) (fun w HS => X.nilCheck rfl), .gw [(49, _), (47, _)] 5 true 47 ⟨rfl, rfl, trivial⟩ rfl (sb (n_f (decide_eq_false c38))) (fun w HS => X.fieldAddr 4 fo147_4 rfl), .gw [(50, _), (47, _)] 5 true 47 ⟨rfl, rfl, trivial⟩ rfl (sb (n_f (decide_eq_false c38))) (fun w HS => X.loadAt 2 HS rfl Tryz.underlying3 rfl rfl rfl), .gw [(0, _), (47, _)] 5 true 47 ⟨rfl, rfl, trivial⟩ rfl (sb (n_f (decide_eq_false c38))) (fun w HS => X.move rfl), .gw [(52, _), (47, _)] 5 true 47 ⟨rfl, rfl, trivial⟩ rfl (sb (n_f (decide_eq_false c38))) (fun w HS => X.nilCheck rfl), .gw [(53, _), (47, _)] 5 true 47 ⟨rfl, rfl, trivial⟩ rfl (sb (n_f (decide_eq_false c38))) (fun w HS => X.fieldAddr 1 fo147_1 rfl), .gw [(54, _), (47, _)] 5 true 47 ⟨rfl, rfl, trivial⟩ rfl (sb (n_f (decide_eq_false c38))) (fun w HS => X.loadAt 2 HS rfl Tryz.underlying3 rfl rfl rfl), .gw [(51, _), (55, _), (47, _)] 5 true 47 ⟨rfl, rfl, rfl, trivial⟩ rfl (sb (n_f (decide_eq_false c38))) (fun w HS => X.cmp (decide (x7.row ≥ x7.good)) rfl rfl rfl rfl), .n2 47 56 rfl rfl rfl (fun w HS => X.pickT (sb (n_f (decide_eq_false c38))) rfl), .as 57, trivial⟩ (fun w HS => ?_)
    replace HS := tally_Window.close trivial HS
    replace HS := HS.pm [1, 0, 2]
    replace HS := monitor_Monitor.close trivial HS
    exact At.meet (decide (x7.row ≥ x7.good)) ⟨rfl, rfl, rfl, trivial⟩ ⟨HS, H⟩
  ·rintro x19 w ⟨HS, H⟩
   unfold monitor_Monitor_Note.j1 at H
   by_cases c21 : x19 = true
   ·replace H := ite_t c21 H
    refine V.condT (sb c21) (V.seq (V.region (W.mv rfl (W.nc rfl ?_))))
    obtain ⟨b3_22, hi23, HS⟩ := monitor_Monitor.open HS
    refine W.fa fo147_3 rfl (W.ld 0 HS Tryz.underlying144 rfl rfl rfl rfl ?_)
    obtain ⟨t24, A25, H⟩ := bind_s H
    replace HS := HS.pm [1, 0, 2]
    refine W.e (Y.cl Tryz.func137 (tally_Window_Clear.calls A25 HS.j1)) rfl ?_
    rintro _ w ⟨rfl, HS⟩
    replace HS := HS.o1
    refine W.nx (V.region (W.mv rfl (W.nc rfl (W.fa fo147_6 rfl (W.st 1 6 HS inf3 rfl rfl rfl rfl rfl rfl fun w HS => ?_)))))
    refine W.nil (At.blockEnd (At.next (V.seq (V.region (W.mv rfl (W.nc rfl (W.fa fo147_6 rfl (W.ld 1 HS Tryz.underlying3 rfl rfl rfl rfl (W.as rfl (W.nx (V.ret ?_)))))))))))
    replace HS := HS.pm [1, 0, 2]
    replace HS := monitor_Monitor.close trivial HS
    cases H
    exact At.ret1 rfl rfl ⟨_, rfl, rfl, HS⟩
   ·replace H := ite_f c21 H
    refine V.condF (sb (b_f c21)) (V.seq (V.region (W.mv rfl (W.mv rfl (W.nc rfl ?_)))))
    obtain ⟨b3_26, hi27, HS⟩ := monitor_Monitor.open HS
    refine W.fa fo147_0 rfl (W.ld 0 HS Tryz.underlying3 rfl rfl rfl rfl (W.r (X.cmp (decide (t15.2.1 ≥ x7.bad)) rfl rfl rfl rfl) rfl (W.as rfl (W.nx ?_))))
    by_cases c28 : t15.2.1 ≥ x7.bad
    ·replace H := ite_t c28 H
     refine V.condT (sb (decide_eq_true c28)) (V.region (W.mv rfl (W.nc rfl (W.fa fo147_6 rfl (W.st 0 6 HS inf3 rfl rfl rfl rfl rfl rfl fun w HS => ?_)))))
     refine W.nil (At.blockEnd (At.next (V.seq (V.region (W.mv rfl (W.nc rfl (W.fa fo147_6 rfl (W.ld 0 HS Tryz.underlying3 rfl rfl rfl rfl (W.as rfl (W.nx (V.ret ?_)))))))))))
     replace HS := monitor_Monitor.close trivial HS
     cases H
     exact At.ret1 rfl rfl ⟨_, rfl, rfl, HS⟩
    ·replace H := ite_f c28 H
     refine V.condF (sb (decide_eq_false c28)) (V.meet (σ := Bool) (fun st w => match st with | x30 => Sep.St [monitor_Monitor.at b0 x7, R] w0 w ∧ monitor_Monitor_Note.j2 x7 x30 = some r) (fun st => match st with | x30 => [(0, Value.pointer (some ⟨b0, 0, none⟩)), (76, Value.bool x30)]) ?_ ?_)
     ·refine V.region (W.mv rfl (W.mv rfl (W.nc rfl (W.fa fo147_0 rfl (W.ld 0 HS Tryz.underlying3 rfl rfl rfl rfl (W.r (X.add rfl rfl) rfl (W.r (X.quo rfl rfl (by decide)) rfl (W.r (X.cmp (decide (t15.2.1 ≥ (w64 ((w64 (x7.bad + 1)).tdiv (2))))) rfl rfl rfl rfl) rfl (W.mv rfl ?_)))))))))
      by_cases c37 : t15.2.1 ≥ (w64 ((w64 (x7.bad + 1)).tdiv (2)))
      ·replace H := ite_t c37 H
       refine W.want 85 rfl (sb (decide_eq_true c37)) (W.mv rfl (W.want 85 rfl (sb (decide_eq_true c37)) (W.nc rfl (W.want 85 rfl (sb (decide_eq_true c37)) (W.fa fo147_6 rfl (W.want 85 rfl (sb (decide_eq_true c37)) (W.ld 0 HS Tryz.underlying3 rfl rfl rfl rfl (W.want 85 rfl (sb (decide_eq_true c37)) (W.r (X.cmp (decide (x7.state = 0)) rfl rfl rfl rfl) rfl (W.r (X.pickT (sb (decide_eq_true c37)) rfl) rfl (W.as rfl (W.nil ?_))))))))))))
       replace HS := monitor_Monitor.close trivial HS
       exact At.meet (decide (x7.state = 0)) ⟨rfl, rfl, trivial⟩ ⟨HS, H⟩
      ·replace H := ite_f c37 H
       refine W.pass 85 rfl (sb (decide_eq_false c37)) rfl rfl (W.pass 85 rfl (sb (decide_eq_false c37)) rfl rfl (W.pass 85 rfl (sb (decide_eq_false c37)) rfl rfl (W.pass 85 rfl (sb (decide_eq_false c37)) rfl rfl (W.pass 85 rfl (sb (decide_eq_false c37)) rfl rfl (W.r (X.pickF (sb (decide_eq_false c37)) rfl) rfl (W.as rfl (W.nil ?_)))))))
       replace HS := monitor_Monitor.close trivial HS
       exact At.meet false ⟨rfl, rfl, trivial⟩ ⟨HS, H⟩
     ·rintro x30 w ⟨HS, H⟩
      unfold monitor_Monitor_Note.j2 at H
      by_cases c32 : x30 = true
      ·replace H := ite_t c32 H
       refine V.condT (sb c32) (V.region (W.mv rfl (W.nc rfl ?_)))
       obtain ⟨b3_33, hi34, HS⟩ := monitor_Monitor.open HS
       refine W.fa fo147_6 rfl (W.st 0 6 HS inf3 rfl rfl rfl rfl rfl rfl fun w HS => ?_)
       refine W.nil (At.blockEnd (At.next (V.seq (V.region (W.mv rfl (W.nc rfl (W.fa fo147_6 rfl (W.ld 0 HS Tryz.underlying3 rfl rfl rfl rfl (W.as rfl (W.nx (V.ret ?_)))))))))))
       replace HS := monitor_Monitor.close trivial HS
       cases H
       exact At.ret1 rfl rfl ⟨_, rfl, rfl, HS⟩
      ·replace H := ite_f c32 H
       refine V.condF (sb (b_f c32)) (V.skip (At.blockEnd (At.next (V.seq (V.region (W.mv rfl (W.nc rfl ?_)))))))
       obtain ⟨b3_35, hi36, HS⟩ := monitor_Monitor.open HS
       refine W.fa fo147_6 rfl (W.ld 0 HS Tryz.underlying3 rfl rfl rfl rfl (W.as rfl (W.nx (V.ret ?_))))
       replace HS := monitor_Monitor.close trivial HS
       cases H
       exact At.ret1 rfl rfl ⟨_, rfl, rfl, HS⟩
def twins_Table_first.f (a0 : twins_Table) (a1 : Int) : Option (Bool × twins_Table) := (if ¬ ((a0.came.length : Int) = 0) then (if 0 ≤ (w64 ((w64 (a0.at_ + (a0.came.length : Int))) - a1)).tmod (a0.came.length : Int) ∧ (w64 ((w64 (a0.at_ + (a0.came.length : Int))) - a1)).tmod (a0.came.length : Int) < (a0.came.length : Int) then some (!(a0.came.getD ((w64 ((w64 (a0.at_ + (a0.came.length : Int))) - a1)).tmod (a0.came.length : Int)).toNat false), ({ a0 with came := a0.came.set ((w64 ((w64 (a0.at_ + (a0.came.length : Int))) - a1)).tmod (a0.came.length : Int)).toNat true } : twins_Table)) else none) else none)
theorem twins_Table_first.calls {a0 : twins_Table} {a1 : Int} {R : As} {w0 w : World} {b0 : Nat} {r : Bool × twins_Table} (H : twins_Table_first.f a0 a1 = some r) (HS : Sep.St [twins_Table.at b0 a0, R] w0 w)  : Calls Tryz.prog 192 #[Value.pointer (some ⟨b0, 0, none⟩), Value.int .i64 a1] w (Ret fun u w => u = Value.bool r.1 ∧ Sep.St [twins_Table.at b0 r.2, R] w0 w) := by
 unfold twins_Table_first.f at H
 refine calls_enter Tryz.func192 rfl rfl ?_
 have H : _ = some r := H
 refine V.seq (V.region (W.as rfl (W.nx (V.seq (V.region (W.mv rfl (W.nc rfl ?_)))))))
 obtain ⟨a3_1, c3_1, hi2, HS⟩ := twins_Table.open HS
 refine W.fa fo141_3 rfl (W.ld 0 HS Tryz.underlying139 rfl rfl rfl rfl (W.r (X.lenSl Tryz.underlying139 rfl) rfl (W.as rfl (W.nx (V.seq ?_)))))
 obtain ⟨c3, H⟩ := ite_n H
 obtain ⟨c4, H⟩ := ite_n H
 obtain ⟨eb5, eo6, hh⟩ := (rdC.at 1 row_rd HS rfl).some (by decide) c4.1 c4.2; subst hh
 refine V.dr [] [] [(13, Value.pointer (some ⟨b0, 0, none⟩)), (14, Value.pointer (some ⟨b0, 0, none⟩)), (15, Value.pointer (some ⟨b0, 0 + 3, none⟩)), (16, Value.slice (some ⟨eb5, eo6, none⟩) a0.came.length c3_1), (17, Value.pointer (some ⟨b0, 0, none⟩)), (18, Value.pointer (some ⟨b0, 0, none⟩)), (19, Value.pointer (some ⟨b0, 0 + 2, none⟩)), (20, Value.int .i64 a0.at_), (21, Value.int .i64 (a0.came.length : Int)), (22, Value.int .i64 (w64 (a0.at_ + (a0.came.length : Int)))), (23, Value.int .i64 a1), (24, Value.int .i64 (w64 ((w64 (a0.at_ + (a0.came.length : Int))) - a1))), (25, Value.int .i64 (a0.came.length : Int)), (26, Value.int .i64 ((w64 ((w64 (a0.at_ + (a0.came.length : Int))) - a1)).tmod (a0.came.length : Int))), (27, Value.pointer (some ⟨eb5, eo6 + ((w64 ((w64 (a0.at_ + (a0.came.length : Int))) - a1)).tmod (a0.came.length : Int)).toNat * 1, none⟩)), (6, Value.pointer (some ⟨eb5, eo6 + ((w64 ((w64 (a0.at_ + (a0.came.length : Int))) - a1)).tmod (a0.came.length : Int)).toNat * 1, none⟩))] mo HS ?_
 refine T.fn [(6, _)] ⟨rfl, trivial⟩ ⟨.mv 0, .nc 13, .fa 14 fo141_3, .ld 15 0 Tryz.underlying139, .mv 0, .nc 17, .fa 18 fo141_2, .ld 19 0 Tryz.underlying3, .mv 5, .n2 20 21 rfl rfl rfl (fun w HS => X.add rfl rfl), .mv 1, .n2 22 23 rfl rfl rfl (fun w HS => X.sub rfl rfl), .mv 5, .n2 24 25 rfl rfl rfl (fun w HS => X.rem rfl rfl c3), .n2 16 26 rfl rfl rfl (fun w HS => X.indexSl Tryz.underlying139 inf4 rfl rfl c4.1 c4.2), .as 27, trivial⟩ (fun w HS => ?_)
 refine At.next (V.seq (V.region (W.mv rfl (W.nc rfl (W.r (X.load Tryz.underlying4 rfl rfl ((rdC.at 1 row_rd HS rfl).cellB c4.1 c4.2)) rfl (W.as rfl (W.nx (V.seq (V.region (W.mv rfl (W.nc rfl (W.en (Y.storeRowF Value.bool (fun _ => rfl) 1 HS rfl inf4 rfl rfl c4.1 c4.2) rfl ?_))))))))))))
 rintro _ w HS
 have HS : Sep.St [blk b0 (#[Value.bool a0.known, Value.int .u32 a0.highest, Value.int .i64 a0.at_, Value.slice (some ⟨eb5, eo6, none⟩) (a0.came.set ((w64 ((w64 (a0.at_ + (a0.came.length : Int))) - a1)).tmod (a0.came.length : Int)).toNat true).length c3_1]) 141, row 4 1 (.slice (some ⟨eb5, eo6, none⟩) (a0.came.set ((w64 ((w64 (a0.at_ + (a0.came.length : Int))) - a1)).tmod (a0.came.length : Int)).toNat true).length c3_1) (a0.came.set ((w64 ((w64 (a0.at_ + (a0.came.length : Int))) - a1)).tmod (a0.came.length : Int)).toNat true).length ((a0.came.set ((w64 ((w64 (a0.at_ + (a0.came.length : Int))) - a1)).tmod (a0.came.length : Int)).toNat true).map Value.bool), R] w0 w := by simpa only [List.length_set, List.set_cons_succ, List.set_cons_zero] using HS
 refine W.nx (V.seq (V.region (W.mv rfl (W.r (X.not rfl) rfl (W.as rfl (W.nx (V.ret ?_)))))))
 replace HS := twins_Table.close trivial HS
 cases H
 exact At.ret1 rfl rfl ⟨_, rfl, rfl, HS⟩
def twins_Table_raise.f (a0 : twins_Table) : Option twins_Table := (if ¬ ((a0.came.length : Int) = 0) then (if 0 ≤ (w64 (a0.at_ + 1)).tmod (a0.came.length : Int) ∧ (w64 (a0.at_ + 1)).tmod (a0.came.length : Int) < (a0.came.length : Int) then some (({ a0 with at_ := (w64 (a0.at_ + 1)).tmod (a0.came.length : Int), came := a0.came.set ((w64 (a0.at_ + 1)).tmod (a0.came.length : Int)).toNat false } : twins_Table)) else none) else none)
theorem twins_Table_raise.calls {a0 : twins_Table} {R : As} {w0 w : World} {b0 : Nat} {r : twins_Table} (H : twins_Table_raise.f a0 = some r) (HS : Sep.St [twins_Table.at b0 a0, R] w0 w)  : Calls Tryz.prog 193 #[Value.pointer (some ⟨b0, 0, none⟩)] w (Ret fun u w => u = Value.tuple #[] ∧ Sep.St [twins_Table.at b0 r, R] w0 w) := by
 unfold twins_Table_raise.f at H
 refine calls_enter Tryz.func193 rfl rfl ?_
 have H : _ = some r := H
 refine V.seq ?_
 obtain ⟨a3_1, c3_1, hi2, HS⟩ := twins_Table.open HS
 obtain ⟨c3, H⟩ := ite_n H
 refine V.dr [14] [] [(2, Value.pointer (some ⟨b0, 0, none⟩)), (3, Value.pointer (some ⟨b0, 0, none⟩)), (4, Value.pointer (some ⟨b0, 0, none⟩)), (5, Value.pointer (some ⟨b0, 0 + 2, none⟩)), (6, Value.int .i64 a0.at_), (7, Value.int .i64 (w64 (a0.at_ + 1))), (8, Value.pointer (some ⟨b0, 0, none⟩)), (9, Value.pointer (some ⟨b0, 0, none⟩)), (10, Value.pointer (some ⟨b0, 0 + 3, none⟩)), (11, Value.slice a3_1 a0.came.length c3_1), (12, Value.int .i64 (a0.came.length : Int)), (13, Value.int .i64 ((w64 (a0.at_ + 1)).tmod (a0.came.length : Int))), (14, Value.pointer (some ⟨b0, 0, none⟩)), (15, Value.pointer (some ⟨b0, 0 + 2, none⟩))] mo HS ?_
 refine T.ev [(13, _), (15, _)] [] [0, 1, 2, 3, 4, 5, 6, 7, 8, 9, 10, 11, 12, 13] ⟨rfl, rfl, trivial⟩ ⟨.mv 0, .mv 0, .nc 3, .fa 4 fo141_2, .ld 5 0 Tryz.underlying3, .n1 6 rfl rfl (fun w HS => X.add rfl rfl), .mv 0, .nc 8, .fa 9 fo141_3, .ld 10 0 Tryz.underlying139, .n1 11 rfl rfl (fun w HS => X.lenSl Tryz.underlying139 rfl), .n2 7 12 rfl rfl rfl (fun w HS => X.rem rfl rfl c3), .nc 2, .fa 14 fo141_2, trivial⟩ rfl (fun w HS => ?_)
 refine ⟨_, Y.sto 0 2 HS inf3 rfl rfl rfl rfl rfl rfl, ?_⟩
 rintro _ w HS
 refine T.nn HS ?_
 refine T.fn [(0, _)] ⟨rfl, trivial⟩ trivial (fun w HS => ?_)
 refine At.next ?_
 obtain ⟨c4, H⟩ := ite_n H
 obtain ⟨eb5, eo6, hh⟩ := (rdC.at 1 row_rd HS rfl).some (by decide) c4.1 c4.2; subst hh
 refine V.dr [9] [] [(16, Value.pointer (some ⟨b0, 0, none⟩)), (17, Value.pointer (some ⟨b0, 0, none⟩)), (18, Value.pointer (some ⟨b0, 0 + 3, none⟩)), (19, Value.slice (some ⟨eb5, eo6, none⟩) a0.came.length c3_1), (20, Value.pointer (some ⟨b0, 0, none⟩)), (21, Value.pointer (some ⟨b0, 0, none⟩)), (22, Value.pointer (some ⟨b0, 0 + 2, none⟩)), (23, Value.int .i64 ((w64 (a0.at_ + 1)).tmod (a0.came.length : Int))), (24, Value.pointer (some ⟨eb5, eo6 + ((w64 (a0.at_ + 1)).tmod (a0.came.length : Int)).toNat * 1, none⟩))] mo HS ?_
 refine T.ev [(24, _)] [] [0, 1, 2, 3, 4, 5, 6, 7, 8] ⟨rfl, trivial⟩ ⟨.mv 0, .nc 16, .fa 17 fo141_3, .ld 18 0 Tryz.underlying139, .mv 0, .nc 20, .fa 21 fo141_2, .ld 22 0 Tryz.underlying3, .n2 19 23 rfl rfl rfl (fun w HS => X.indexSl Tryz.underlying139 inf4 rfl rfl c4.1 c4.2), trivial⟩ rfl (fun w HS => ?_)
 refine ⟨_, Y.storeRowN Value.bool (fun _ => rfl) 1 HS rfl inf4 rfl rfl c4.1 c4.2, ?_⟩
 rintro _ w HS
 refine T.nn HS ?_
 refine T.fn [] trivial trivial (fun w HS => ?_)
 have HS : Sep.St [blk b0 (#[Value.bool a0.known, Value.int .u32 a0.highest, Value.int .i64 ((w64 (a0.at_ + 1)).tmod (a0.came.length : Int)), Value.slice (some ⟨eb5, eo6, none⟩) (a0.came.set ((w64 (a0.at_ + 1)).tmod (a0.came.length : Int)).toNat false).length c3_1]) 141, row 4 1 (.slice (some ⟨eb5, eo6, none⟩) (a0.came.set ((w64 (a0.at_ + 1)).tmod (a0.came.length : Int)).toNat false).length c3_1) (a0.came.set ((w64 (a0.at_ + 1)).tmod (a0.came.length : Int)).toNat false).length ((a0.came.set ((w64 (a0.at_ + 1)).tmod (a0.came.length : Int)).toNat false).map Value.bool), R] w0 w := by simpa only [List.length_set, List.set_cons_succ, List.set_cons_zero] using HS
 replace HS := twins_Table.close trivial HS
 cases H
 exact At.end0 rfl ⟨_, rfl, rfl, HS⟩
mutual
def twins_Table_Fresh.l0 : Nat → twins_Table → Int → Int → twins_Table → Option (Bool × twins_Table)
 | 0, _, _, _, _ => none
 | k + 1, a0, a1, x8, x9 => (if x8 < (imin (IntKind.u32.wrap (a1 - a0.highest)) (IntKind.u32.wrap (a0.came.length : Int))) then ((twins_Table_raise.f x9).bind fun t13 => (twins_Table_Fresh.l0 k a0 a1 (IntKind.u32.wrap (x8 + 1)) t13)) else ((twins_Table_first.f ({ x9 with highest := a1 } : twins_Table) 0).bind fun t17 => some t17))
end
def twins_Table_Fresh.f (k : Nat) (a0 : twins_Table) (a1 : Int) : Option (Bool × twins_Table) := (if a0.known = true then (if (IntKind.u32.wrap (a0.highest - a1)) = 0 then some (false, a0) else (if (IntKind.u32.wrap (a1 - a0.highest)) < 2147483648 then (twins_Table_Fresh.l0 k a0 a1 0 a0) else (if (IntKind.u32.wrap (a0.highest - a1)) < (IntKind.u32.wrap (a0.came.length : Int)) then ((twins_Table_first.f a0 (w64 (IntKind.u32.wrap (a0.highest - a1)))).bind fun t20 => some t20) else some (false, a0)))) else ((twins_Table_first.f ({ a0 with known := true, highest := a1 } : twins_Table) 0).bind fun t22 => some t22))
theorem twins_Table_Fresh.calls {k : Nat} {a0 : twins_Table} {a1 : Int} {R : As} {w0 w : World} {b0 : Nat} {r : Bool × twins_Table} (H : twins_Table_Fresh.f k a0 a1 = some r) (HS : Sep.St [twins_Table.at b0 a0, R] w0 w)  : Calls Tryz.prog 138 #[Value.pointer (some ⟨b0, 0, none⟩), Value.int .u32 a1] w (Ret fun u w => u = Value.bool r.1 ∧ Sep.St [twins_Table.at b0 r.2, R] w0 w) := by
 unfold twins_Table_Fresh.f at H
 refine calls_enter Tryz.func138 rfl rfl ?_
 have H : _ = some r := H
 refine V.seq (V.region (W.as rfl (W.nx (V.seq (V.seq (V.region (W.mv rfl (W.nc rfl ?_))))))))
 obtain ⟨a3_2, c3_2, hi3, HS⟩ := twins_Table.open HS
 refine W.fa fo141_0 rfl (W.ld 0 HS Tryz.underlying4 rfl rfl rfl rfl (W.r (X.not rfl) rfl (W.nx ?_)))
 by_cases c4 : a0.known = true
 ·replace H := ite_t c4 H
  refine V.condF (sb (n_t c4)) (V.skip (At.next (V.seq (V.dr [] [] [(21, Value.int .u32 a1), (22, Value.pointer (some ⟨b0, 0, none⟩)), (23, Value.pointer (some ⟨b0, 0, none⟩)), (24, Value.pointer (some ⟨b0, 0 + 1, none⟩)), (25, Value.int .u32 a0.highest), (26, Value.int .u32 (IntKind.u32.wrap (a1 - a0.highest))), (27, Value.pointer (some ⟨b0, 0, none⟩)), (28, Value.pointer (some ⟨b0, 0, none⟩)), (29, Value.pointer (some ⟨b0, 0 + 1, none⟩)), (30, Value.int .u32 a0.highest), (31, Value.int .u32 a1), (32, Value.int .u32 (IntKind.u32.wrap (a0.highest - a1))), (5, Value.int .u32 (IntKind.u32.wrap (a1 - a0.highest))), (6, Value.int .u32 (IntKind.u32.wrap (a0.highest - a1)))] mo HS ?_))))
  refine T.fn [(0, _), (1, _), (5, _), (6, _)] ⟨rfl, rfl, rfl, rfl, trivial⟩ ⟨.mv 1, .mv 0, .nc 22, .fa 23 fo141_1, .ld 24 0 Tryz.underlying79, .n2 21 25 rfl rfl rfl (fun w HS => X.sub rfl rfl), .mv 0, .nc 27, .fa 28 fo141_1, .ld 29 0 Tryz.underlying79, .mv 1, .n2 30 31 rfl rfl rfl (fun w HS => X.sub rfl rfl), .as 26, .as 32, trivial⟩ (fun w HS => ?_)
  refine At.next (V.seq (V.block (V.seq (V.region (W.mv rfl (W.r (X.cmp (decide ((IntKind.u32.wrap (a0.highest - a1)) = 0)) rfl rfl rfl rfl) rfl (W.as rfl (W.nx ?_))))))))
  by_cases c6 : (IntKind.u32.wrap (a0.highest - a1)) = 0
  ·replace H := ite_t c6 H
   refine V.condT (sb (decide_eq_true c6)) (V.seq (V.region (W.as rfl (W.nx (V.ret (At.blockRet (At.thenRet ?_)))))))
   replace HS := twins_Table.close trivial HS
   cases H
   exact At.ret1 rfl rfl ⟨_, rfl, rfl, HS⟩
  ·replace H := ite_f c6 H
   refine V.condF (sb (decide_eq_false c6)) (V.seq (V.region (W.mv rfl (W.r (X.cmp (decide ((IntKind.u32.wrap (a1 - a0.highest)) < 2147483648)) rfl rfl rfl rfl) rfl (W.as rfl (W.nx ?_))))))
   by_cases c7 : (IntKind.u32.wrap (a1 - a0.highest)) < 2147483648
   ·replace H := ite_t c7 H
    refine V.condT (sb (decide_eq_true c7)) (V.seq (V.seq (V.region (W.mv rfl (W.mv rfl (W.nc rfl (W.fa fo141_3 rfl (W.ld 0 HS Tryz.underlying139 rfl rfl rfl rfl (W.r (X.lenSl Tryz.underlying139 rfl) rfl (W.r (X.conv Tryz.underlying3 Tryz.underlying79 rfl) rfl (W.r (X.min2 rfl rfl) rfl (W.mv rfl (W.nx (V.block ?_))))))))))))))
    replace HS := twins_Table.close trivial HS
    refine V.loop (σ := Int × twins_Table) (fun kq (st : Int × twins_Table) w => match st with | (x8, x9) => Sep.St [twins_Table.at b0 x9, R] w0 w ∧ twins_Table_Fresh.l0 kq a0 a1 x8 x9 = some r ∧ kq ≤ k) (fun st => match st with | (x8, x9) => [(0, Value.pointer (some ⟨b0, 0, none⟩)), (1, Value.int .u32 a1), (46, Value.int .u32 (imin (IntKind.u32.wrap (a1 - a0.highest)) (IntKind.u32.wrap (a0.came.length : Int)))), (47, Value.int .u32 x8)]) k (0, a0) ⟨rfl, rfl, rfl, rfl, trivial⟩ ⟨HS, H, Nat.le_refl _⟩ ?_
    rintro kq10 ⟨x8, x9⟩ w ⟨HS, H, hk11⟩
    cases kq10 with
    | zero => exact absurd H (by simp [twins_Table_Fresh.l0])
    | succ kq10 =>
     simp only [twins_Table_Fresh.l0] at H
     refine V.seq (V.region (W.r (X.cmp (decide (x8 < (imin (IntKind.u32.wrap (a1 - a0.highest)) (IntKind.u32.wrap (a0.came.length : Int))))) rfl rfl rfl rfl) rfl (W.nx (V.seq ?_))))
     by_cases c12 : x8 < (imin (IntKind.u32.wrap (a1 - a0.highest)) (IntKind.u32.wrap (a0.came.length : Int)))
     ·replace H := ite_t c12 H
      refine V.condT (sb (decide_eq_true c12)) (V.skip (At.next (V.seq (V.block (V.region (W.mv rfl ?_))))))
      obtain ⟨t13, A14, H⟩ := bind_s H
      refine W.e (Y.cl Tryz.func193 (twins_Table_raise.calls A14 HS.j1)) rfl ?_
      rintro _ w ⟨rfl, HS⟩
      replace HS := HS.o1
      refine W.nil (At.blockEnd (At.next (V.region (W.r (X.add rfl rfl) rfl (W.mv rfl (W.nil ?_))))))
      exact At.round kq10 (by omega) (IntKind.u32.wrap (x8 + 1), t13) ⟨rfl, rfl, rfl, rfl, trivial⟩ ⟨HS, H, by omega⟩
     ·replace H := ite_f c12 H
      refine V.condF (sb (decide_eq_false c12)) (V.exit (At.thenExit (At.thenExit (At.blockExit (At.next (V.seq (V.region (W.mv rfl (W.mv rfl (W.nc rfl ?_))))))))))
      obtain ⟨a3_15, c3_15, hi16, HS⟩ := twins_Table.open HS
      refine W.fa fo141_1 rfl (W.st 0 1 HS inf79 rfl rfl rfl rfl rfl rfl fun w HS => ?_)
      refine W.nx (V.seq (V.region (W.mv rfl ?_)))
      replace HS := twins_Table.close trivial HS
      obtain ⟨t17, A18, H⟩ := bind_s H
      refine W.e (Y.cl Tryz.func192 (twins_Table_first.calls A18 HS.j1)) rfl ?_
      rintro _ w ⟨rfl, HS⟩
      replace HS := HS.o1
      refine W.as rfl (W.nx (V.ret (At.blockRet (At.thenRet ?_))))
      cases H
      exact At.ret1 rfl rfl ⟨_, rfl, rfl, HS⟩
   ·replace H := ite_f c7 H
    refine V.condF (sb (decide_eq_false c7)) (V.skip (At.blockEnd (At.next (V.seq (V.region (W.mv rfl (W.mv rfl (W.nc rfl (W.fa fo141_3 rfl (W.ld 0 HS Tryz.underlying139 rfl rfl rfl rfl (W.r (X.lenSl Tryz.underlying139 rfl) rfl (W.r (X.conv Tryz.underlying3 Tryz.underlying79 rfl) rfl (W.r (X.cmp (decide ((IntKind.u32.wrap (a0.highest - a1)) < (IntKind.u32.wrap (a0.came.length : Int)))) rfl rfl rfl rfl) rfl (W.mv rfl ?_))))))))))))))
    by_cases c19 : (IntKind.u32.wrap (a0.highest - a1)) < (IntKind.u32.wrap (a0.came.length : Int))
    ·replace H := ite_t c19 H
     refine W.want 66 rfl (sb (decide_eq_true c19)) (W.mv rfl (W.want 66 rfl (sb (decide_eq_true c19)) (W.mv rfl (W.want 66 rfl (sb (decide_eq_true c19)) (W.r (X.conv Tryz.underlying79 Tryz.underlying3 rfl) rfl (W.want 66 rfl (sb (decide_eq_true c19)) ?_))))))
     replace HS := twins_Table.close trivial HS
     obtain ⟨t20, A21, H⟩ := bind_s H
     refine W.e (Y.cl Tryz.func192 (twins_Table_first.calls A21 HS.j1)) rfl ?_
     rintro _ w ⟨rfl, HS⟩
     replace HS := HS.o1
     refine W.r (X.pickT (sb (decide_eq_true c19)) rfl) rfl (W.as rfl (W.nx (V.ret ?_)))
     cases H
     exact At.ret1 rfl rfl ⟨_, rfl, rfl, HS⟩
    ·replace H := ite_f c19 H
     refine W.pass 66 rfl (sb (decide_eq_false c19)) rfl rfl (W.pass 66 rfl (sb (decide_eq_false c19)) rfl rfl (W.pass 66 rfl (sb (decide_eq_false c19)) rfl rfl (W.pass 66 rfl (sb (decide_eq_false c19)) rfl rfl (W.r (X.pickF (sb (decide_eq_false c19)) rfl) rfl (W.as rfl (W.nx (V.ret ?_)))))))
     replace HS := twins_Table.close trivial HS
     cases H
     exact At.ret1 rfl rfl ⟨_, rfl, rfl, HS⟩
 ·replace H := ite_f c4 H
  refine V.condT (sb (n_f (b_f c4))) (V.seq (V.region (W.mv rfl (W.mv rfl (W.mv rfl (W.nc rfl (W.fa fo141_0 rfl (W.st 0 0 HS inf4 rfl rfl rfl rfl rfl rfl fun w HS => ?_))))))))
  refine W.nc rfl (W.fa fo141_1 rfl (W.st 0 1 HS inf79 rfl rfl rfl rfl rfl rfl fun w HS => ?_))
  refine W.nx (V.seq (V.region (W.mv rfl ?_)))
  replace HS := twins_Table.close trivial HS
  obtain ⟨t22, A23, H⟩ := bind_s H
  refine W.e (Y.cl Tryz.func192 (twins_Table_first.calls A23 HS.j1)) rfl ?_
  rintro _ w ⟨rfl, HS⟩
  replace HS := HS.o1
  refine W.as rfl (W.nx (V.ret (At.thenRet ?_)))
  cases H
  exact At.ret1 rfl rfl ⟨_, rfl, rfl, HS⟩
mutual
def slices_Index_Sbytebyte.l0 : Nat → (List Int) → Int → Int → Option Int
 | 0, _, _, _ => none
 | k + 1, a0, a1, x1 => (if x1 < (a0.length : Int) then (if 0 ≤ x1 ∧ x1 < (a0.length : Int) then (if a1 = (a0.getD x1.toNat 0) then some x1 else (slices_Index_Sbytebyte.l0 k a0 a1 (w64 (x1 + 1)))) else none) else some (-1))
end
def slices_Index_Sbytebyte.f (k : Nat) (a0 : List Int) (a1 : Int) : Option Int := (slices_Index_Sbytebyte.l0 k a0 a1 0)
theorem slices_Index_Sbytebyte.calls {k : Nat} {a0 : List Int} {a1 : Int} {R : As} {w0 w : World} {sa0 : Option Addr} {sc0 : Nat} {r : Int} (H : slices_Index_Sbytebyte.f k a0 a1 = some r) (HS : Sep.St [R] w0 w) (hr0 : rdC R 1 (.slice sa0 a0.length sc0) a0.length (a0.map (Value.int .u8))) : Calls Tryz.prog 229 #[Value.slice sa0 a0.length sc0, Value.int .u8 a1] w (Ret fun u w => u = Value.int .i64 r ∧ Sep.St [R] w0 w) := by
 unfold slices_Index_Sbytebyte.f at H
 refine calls_enter Tryz.func229 rfl rfl ?_
 have H : _ = some r := H
 refine V.seq (V.region (W.as rfl (W.nx (V.seq (V.seq (V.region (W.mv rfl (W.r (X.lenSl Tryz.underlying32 rfl) rfl (W.mv rfl (W.nx (V.block (V.loop (σ := Int) (fun kq (st : Int) w => match st with | x1 => Sep.St [R] w0 w ∧ slices_Index_Sbytebyte.l0 kq a0 a1 x1 = some r ∧ kq ≤ k) (fun st => match st with | x1 => [(0, Value.slice sa0 a0.length sc0), (1, Value.int .u8 a1), (7, Value.int .i64 (a0.length : Int)), (8, Value.int .i64 x1)]) k (0) ⟨rfl, rfl, rfl, rfl, trivial⟩ ⟨HS, H, Nat.le_refl _⟩ ?_))))))))))))
 rintro kq2 x1 w ⟨HS, H, hk3⟩
 cases kq2 with
 | zero => exact absurd H (by simp [slices_Index_Sbytebyte.l0])
 | succ kq2 =>
  simp only [slices_Index_Sbytebyte.l0] at H
  refine V.seq (V.region (W.r (X.cmp (decide (x1 < (a0.length : Int))) rfl rfl rfl rfl) rfl (W.nx (V.seq ?_))))
  by_cases c4 : x1 < (a0.length : Int)
  ·replace H := ite_t c4 H
   refine V.condT (sb (decide_eq_true c4)) (V.skip (At.next (V.seq (V.block (V.seq (V.region (W.mv rfl (W.as rfl (W.nx (V.seq (V.region (W.mv rfl (W.mv rfl (W.mv rfl ?_))))))))))))))
   obtain ⟨c5, H⟩ := ite_n H
   obtain ⟨eb6, eo7, hh⟩ := (rdC.at 0 hr0 HS rfl).some (by decide) c5.1 c5.2; subst hh
   refine W.r (X.indexSl Tryz.underlying32 inf5 rfl rfl c5.1 c5.2) rfl (W.r (X.load Tryz.underlying5 rfl rfl ((rdC.at 0 hr0 HS rfl).cellI c5.1 c5.2)) rfl (W.r (X.cmp (decide (a1 = (a0.getD x1.toNat 0))) rfl rfl rfl rfl) rfl (W.nx ?_)))
   by_cases c8 : a1 = (a0.getD x1.toNat 0)
   ·replace H := ite_t c8 H
    refine V.condT (sb (decide_eq_true c8)) (V.seq (V.region (W.mv rfl (W.as rfl (W.nx (V.ret (At.blockRet (At.thenRet (At.thenRet (At.blockRet (At.thenRet ?_)))))))))))
    cases H
    exact At.ret1 rfl rfl ⟨_, rfl, rfl, HS⟩
   ·replace H := ite_f c8 H
    refine V.condF (sb (decide_eq_false c8)) (V.skip (At.blockEnd (At.next (V.region (W.r (X.add rfl rfl) rfl (W.mv rfl (W.nil ?_)))))))
    exact At.round kq2 (by omega) (w64 (x1 + 1)) ⟨rfl, rfl, rfl, rfl, trivial⟩ ⟨HS, H, by omega⟩
  ·replace H := ite_f c4 H
   refine V.condF (sb (decide_eq_false c4)) (V.exit (At.thenExit (At.thenExit (At.blockExit (At.next (V.seq (V.region (W.as rfl (W.nx (V.ret ?_))))))))))
   cases H
   exact At.ret1 rfl rfl ⟨_, rfl, rfl, HS⟩
mutual
def control_number.l0 : Nat → (List Int) → Int → Int → Option Int
 | 0, _, _, _ => none
 | k + 1, a0, x1, x2 => (if x2 < (a0.length : Int) then (if 0 ≤ x2 ∧ x2 < (a0.length : Int) then (if ¬ (w64 (8 * x2) < 0) then (control_number.l0 k a0 (ior .i64 x1 (w64 ((w64 (a0.getD x2.toNat 0)) * 2 ^ (min (w64 (8 * x2)).toNat IntKind.i64.bits)))) (w64 (x2 + 1))) else none) else none) else some x1)
end
def control_number.f (k : Nat) (a0 : List Int) : Option Int := (control_number.l0 k a0 0 0)
theorem control_number.calls {k : Nat} {a0 : List Int} {R : As} {w0 w : World} {sa0 : Option Addr} {sc0 : Nat} {r : Int} (H : control_number.f k a0 = some r) (HS : Sep.St [R] w0 w) (hr0 : rdC R 1 (.slice sa0 a0.length sc0) a0.length (a0.map (Value.int .u8))) : Calls Tryz.prog 232 #[Value.slice sa0 a0.length sc0] w (Ret fun u w => u = Value.int .i64 r ∧ Sep.St [R] w0 w) := by
 unfold control_number.f at H
 refine calls_enter Tryz.func232 rfl rfl ?_
 have H : _ = some r := H
 refine V.seq (V.region (W.as rfl (W.nx (V.seq (V.region (W.as rfl (W.nx (V.seq (V.seq (V.region (W.mv rfl (W.r (X.lenSl Tryz.underlying32 rfl) rfl (W.mv rfl (W.nx (V.block (V.loop (σ := Int × Int) (fun kq (st : Int × Int) w => match st with | (x1, x2) => Sep.St [R] w0 w ∧ control_number.l0 kq a0 x1 x2 = some r ∧ kq ≤ k) (fun st => match st with | (x1, x2) => [(3, Value.int .i64 x1), (6, Value.slice sa0 a0.length sc0), (7, Value.int .i64 (a0.length : Int)), (8, Value.int .i64 x2)]) k (0, 0) ⟨rfl, rfl, rfl, rfl, trivial⟩ ⟨HS, H, Nat.le_refl _⟩ ?_))))))))))))))))
 rintro kq3 ⟨x1, x2⟩ w ⟨HS, H, hk4⟩
 cases kq3 with
 | zero => exact absurd H (by simp [control_number.l0])
 | succ kq3 =>
  simp only [control_number.l0] at H
  refine V.seq (V.region (W.r (X.cmp (decide (x2 < (a0.length : Int))) rfl rfl rfl rfl) rfl (W.nx (V.seq ?_))))
  by_cases c5 : x2 < (a0.length : Int)
  ·replace H := ite_t c5 H
   refine V.condT (sb (decide_eq_true c5)) (V.skip (At.next (V.seq (V.block (V.seq (V.region (W.mv rfl ?_)))))))
   obtain ⟨c6, H⟩ := ite_n H
   obtain ⟨eb7, eo8, hh⟩ := (rdC.at 0 hr0 HS rfl).some (by decide) c6.1 c6.2; subst hh
   refine W.r (X.indexSl Tryz.underlying32 inf5 rfl rfl c6.1 c6.2) rfl (W.r (X.load Tryz.underlying5 rfl rfl ((rdC.at 0 hr0 HS rfl).cellI c6.1 c6.2)) rfl (W.as rfl (W.as rfl (W.nx (V.region (W.mv rfl (W.mv rfl (W.r (X.conv Tryz.underlying5 Tryz.underlying3 rfl) rfl (W.mv rfl (W.r (X.mul rfl rfl) rfl ?_))))))))))
   obtain ⟨c9, H⟩ := ite_n H
   refine W.r (X.shl rfl rfl c9) rfl (W.r (X.or rfl rfl) rfl (W.as rfl (W.nil (At.blockEnd (At.next (V.region (W.r (X.add rfl rfl) rfl (W.mv rfl (W.nil ?_)))))))))
   exact At.round kq3 (by omega) (ior .i64 x1 (w64 ((w64 (a0.getD x2.toNat 0)) * 2 ^ (min (w64 (8 * x2)).toNat IntKind.i64.bits))), w64 (x2 + 1)) ⟨rfl, rfl, rfl, rfl, trivial⟩ ⟨HS, H, by omega⟩
  ·replace H := ite_f c5 H
   refine V.condF (sb (decide_eq_false c5)) (V.exit (At.thenExit (At.thenExit (At.blockExit (At.next (V.seq (V.region (W.mv rfl (W.as rfl (W.nx (V.ret ?_)))))))))))
   cases H
   exact At.ret1 rfl rfl ⟨_, rfl, rfl, HS⟩
mutual
def control_Read.j0 (k : Nat) (a0 : List Int) (a1 : Int) (x20 : api_Ctl) : Option (api_Ctl × Int × Int) := ((control_put.f ([] : List Int) 0 a1).bind fun t22 => (if (a0.length : Int) < (w64 (2 * (t22.length : Int))) then some (({ Kind := 0, Ns := 0, Nr := 0, Poll := false } : api_Ctl), 0, 3) else (if 0 ≤ (0 : Int) ∧ (0 : Int) ≤ (t22.length : Int) ∧ (t22.length : Int) ≤ (a0.length : Int) then (if 0 ≤ (t22.length : Int) ∧ (t22.length : Int) ≤ w64 (2 * (t22.length : Int)) ∧ w64 (2 * (t22.length : Int)) ≤ (a0.length : Int) then ((control_number.f k (cut a0 (0 : Int) (t22.length : Int))).bind fun t31 => ((control_number.f k (cut a0 (t22.length : Int) (w64 (2 * (t22.length : Int))))).bind fun t33 => (if x20.Kind = 0 then some (({ Kind := x20.Kind, Ns := w64 (t31.tdiv (2)), Nr := w64 (t33.tdiv (2)), Poll := decide ((iand .i64 t33 (1)) = 1) } : api_Ctl), w64 (2 * (t22.length : Int)), 0) else (if t31 = (w64 (a0.getD (0 : Int).toNat 0)) then some (({ x20 with Nr := w64 (t33.tdiv (2)), Poll := decide ((iand .i64 t33 (1)) = 1) } : api_Ctl), w64 (2 * (t22.length : Int)), 0) else some (({ Kind := 0, Ns := 0, Nr := 0, Poll := false } : api_Ctl), 0, 2))))) else none) else none)))
end
def control_Read.f (k : Nat) (a0 : List Int) (a1 : Int) : Option (api_Ctl × Int × Int) := ((control_modulus.f a1).bind fun t3 => (if t3 = true then (if (a0.length : Int) = 0 then some (({ Kind := 0, Ns := 0, Nr := 0, Poll := false } : api_Ctl), 0, 3) else (if 0 ≤ (0 : Int) ∧ (0 : Int) < (a0.length : Int) then ((control_plain.f ).bind fun t11 => ((slices_Index_Sbytebyte.f k t11 (iandn .u8 (a0.getD (0 : Int).toNat 0) (16))).bind fun t13 => (if t13 ≥ 0 then some (({ Kind := w64 (3 + t13), Ns := 0, Nr := 0, Poll := !(decide ((iand .u8 (a0.getD (0 : Int).toNat 0) (16)) = 0)) } : api_Ctl), 1, 0) else (if (a0.getD (0 : Int).toNat 0) = 1 then (control_Read.j0 k a0 a1 ({ Kind := 1, Ns := 0, Nr := 0, Poll := false } : api_Ctl)) else (if (a0.getD (0 : Int).toNat 0) = 9 then (control_Read.j0 k a0 a1 ({ Kind := 2, Ns := 0, Nr := 0, Poll := false } : api_Ctl)) else (if (iand .u8 (a0.getD (0 : Int).toNat 0) (1)) = 1 then some (({ Kind := 0, Ns := 0, Nr := 0, Poll := false } : api_Ctl), 0, 2) else (control_Read.j0 k a0 a1 ({ Kind := 0, Ns := 0, Nr := 0, Poll := false } : api_Ctl)))))))) else none)) else some (({ Kind := 0, Ns := 0, Nr := 0, Poll := false } : api_Ctl), 0, 1)))
theorem control_Read.calls {k : Nat} {a0 : List Int} {a1 : Int} {R : As} {w0 w : World} {sa0 : Option Addr} {sc0 : Nat} {r : api_Ctl × Int × Int} (H : control_Read.f k a0 a1 = some r) (HS : Sep.St [R] w0 w) (hr0 : rdC R 1 (.slice sa0 a0.length sc0) a0.length (a0.map (Value.int .u8))) : Calls Tryz.prog 194 #[Value.slice sa0 a0.length sc0, Value.int .i64 a1] w (Ret fun u w => u = Value.tuple #[Value.agg #[Value.int .i64 r.1.Kind, Value.int .i64 r.1.Ns, Value.int .i64 r.1.Nr, Value.bool r.1.Poll], Value.int .i64 r.2.1, Value.int .i64 r.2.2] ∧ Sep.St [R] w0 w) := by
 unfold control_Read.f at H
 refine calls_enter Tryz.func194 rfl rfl ?_
 have H : _ = some r := H
 refine V.seq (V.region (W.e (Y.alloc (z := Value.agg (#[Value.int .i64 (0), Value.int .i64 (0), Value.int .i64 (0), Value.bool false])) HS ze188) rfl ?_))
 rintro _ w ⟨nb1, rfl, HS⟩
 refine W.as rfl (W.as rfl (W.nx (V.seq (V.seq (V.region (W.mv rfl ?_))))))
 obtain ⟨t3, A4, H⟩ := bind_s H
 refine W.e (Y.cl Tryz.func228 (control_modulus.calls A4 HS.j0)) rfl ?_
 rintro _ w ⟨rfl, HS⟩
 replace HS := HS.o0
 refine W.r (X.not rfl) rfl (W.nx ?_)
 by_cases c5 : t3 = true
 ·replace H := ite_t c5 H
  refine V.condF (sb (n_t c5)) (V.skip (At.next (V.seq (V.seq (V.region (W.mv rfl (W.r (X.lenSl Tryz.underlying32 rfl) rfl (W.r (X.cmp (decide ((a0.length : Int) = 0)) rfl rfl rfl rfl) rfl (W.nx ?_)))))))))
  by_cases c6 : (a0.length : Int) = 0
  ·replace H := ite_t c6 H
   refine V.condT (sb (decide_eq_true c6)) (V.seq (V.region (W.r (X.bd (Value.agg #[Value.int .i64 (0), Value.int .i64 (0), Value.int .i64 (0), Value.bool false]) rfl (fun _ => by kernel_rfl)) rfl (W.en (Y.storeSt (c' := #[Value.int .i64 (0), Value.int .i64 (0), Value.int .i64 (0), Value.bool false]) 0 [Value.int .i64 (0), Value.int .i64 (0), Value.int .i64 (0), Value.bool false] HS rfl inf188 rfl rfl rfl rfl rfl rfl) rfl ?_))))
   rintro _ w HS
   refine W.as rfl (W.as rfl (W.nx (V.ret (At.thenRet ?_))))
   have hv7 := run_loadSt (P := Tryz.prog) (p := 0) 0 [Value.int .i64 (0), Value.int .i64 (0), Value.int .i64 (0), Value.bool false] HS rfl Tryz.underlying188 rfl inf188 rfl
   replace HS := HS.pk [1] [0]
   cases H
   exact At.retv3 rfl ⟨_, rfl, hv7⟩ rfl rfl ⟨_, rfl, rfl, HS⟩
  ·replace H := ite_f c6 H
   refine V.condF (sb (decide_eq_false c6)) (V.skip (At.next (V.seq (V.seq ?_))))
   obtain ⟨c8, H⟩ := ite_n H
   obtain ⟨eb9, eo10, hh⟩ := (rdC.at 1 hr0 HS rfl).some (by decide) c8.1 c8.2; subst hh
   refine V.dr [0, 5] [6] [(21, Value.slice (some ⟨eb9, eo10, none⟩) a0.length sc0), (22, Value.pointer (some ⟨eb9, eo10 + (0 : Int).toNat * 1, none⟩)), (23, Value.int .u8 (a0.getD (0 : Int).toNat 0)), (24, Value.int .u8 (iandn .u8 (a0.getD (0 : Int).toNat 0) (16)))] mo HS ?_
   refine T.ev [] [6] [] trivial ⟨.mv 0, .n1 21 rfl rfl (fun w HS => X.indexSl Tryz.underlying32 inf5 rfl rfl c8.1 c8.2), .n1 22 rfl rfl (fun w HS => X.load Tryz.underlying5 rfl rfl ((rdC.at 1 hr0 HS rfl).cellI c8.1 c8.2)), .n1 23 rfl rfl (fun w HS => X.andNot rfl rfl), trivial⟩ rfl (fun w HS => ?_)
   obtain ⟨t11, A12, H⟩ := bind_s H
   refine ⟨_, Y.cl Tryz.func230 (control_plain.calls A12 HS.j0), ?_⟩
   rintro _ w ⟨at11_0, ct11_0, rfl, HS⟩
   replace HS := HS.o1
   refine T.nw HS ?_
   refine T.ev [(20, _), (24, _)] [] [1, 2, 3, 4] ⟨rfl, rfl, trivial⟩ ⟨.mv 0, .n1 21 rfl rfl (fun w HS => X.indexSl Tryz.underlying32 inf5 rfl rfl c8.1 c8.2), .n1 22 rfl rfl (fun w HS => X.load Tryz.underlying5 rfl rfl ((rdC.at 2 hr0 HS rfl).cellI c8.1 c8.2)), .n1 23 rfl rfl (fun w HS => X.andNot rfl rfl), trivial⟩ rfl (fun w HS => ?_)
   obtain ⟨t13, A14, H⟩ := bind_s H
   refine ⟨_, Y.cl Tryz.func229 (slices_Index_Sbytebyte.calls A14 HS.j0 (rdC.part 0 row_rd rfl)), ?_⟩
   rintro _ w ⟨rfl, HS⟩
   replace HS := HS.o0
   refine T.nm [(25, Value.int .i64 t13), (7, Value.int .i64 t13)] HS ⟨.inl ⟨rfl, rfl⟩, ⟨.inr ⟨by decide, rfl⟩, trivial⟩⟩ ?_
   refine T.fn [(0, _), (1, _), (4, _), (7, _)] ⟨rfl, rfl, rfl, rfl, trivial⟩ ⟨.as 25, trivial⟩ (fun w HS => ?_)
   refine At.next (V.seq (V.region (W.mv rfl (W.r (X.cmp (decide (t13 ≥ 0)) rfl rfl rfl rfl) rfl (W.nx ?_)))))
   by_cases c15 : t13 ≥ 0
   ·replace H := ite_t c15 H
    refine V.condT (sb (decide_eq_true c15)) (V.seq (V.region (W.mv rfl (W.r (X.add rfl rfl) rfl (W.mv rfl (W.r (X.indexSl Tryz.underlying32 inf5 rfl rfl c8.1 c8.2) rfl (W.r (X.load Tryz.underlying5 rfl rfl ((rdC.at 2 hr0 HS rfl).cellI c8.1 c8.2)) rfl (W.r (X.and rfl rfl) rfl (W.r (X.cmp (!(decide ((iand .u8 (a0.getD (0 : Int).toNat 0) (16)) = 0))) rfl rfl rfl rfl) rfl (W.r (X.bd (Value.agg #[Value.int .i64 (w64 (3 + t13)), Value.int .i64 (0), Value.int .i64 (0), Value.bool (!(decide ((iand .u8 (a0.getD (0 : Int).toNat 0) (16)) = 0)))]) rfl (fun _ => by kernel_rfl)) rfl (W.en (Y.storeSt (c' := #[Value.int .i64 (w64 (3 + t13)), Value.int .i64 (0), Value.int .i64 (0), Value.bool (!(decide ((iand .u8 (a0.getD (0 : Int).toNat 0) (16)) = 0)))]) 1 [Value.int .i64 (w64 (3 + t13)), Value.int .i64 (0), Value.int .i64 (0), Value.bool (!(decide ((iand .u8 (a0.getD (0 : Int).toNat 0) (16)) = 0)))] HS rfl inf188 rfl rfl rfl rfl rfl rfl) rfl ?_)))))))))))
    rintro _ w HS
    refine W.as rfl (W.as rfl (W.nx (V.ret (At.thenRet ?_))))
    have hv16 := run_loadSt (P := Tryz.prog) (p := 0) 1 [Value.int .i64 (w64 (3 + t13)), Value.int .i64 (0), Value.int .i64 (0), Value.bool (!(decide ((iand .u8 (a0.getD (0 : Int).toNat 0) (16)) = 0)))] HS rfl Tryz.underlying188 rfl inf188 rfl
    replace HS := HS.pk [2] [0, 1]
    cases H
    exact At.retv3 rfl ⟨_, rfl, hv16⟩ rfl rfl ⟨_, rfl, rfl, HS⟩
   ·replace H := ite_f c15 H
    refine V.condF (sb (decide_eq_false c15)) (V.skip (At.next (V.seq (V.region (W.r (X.bd (Value.agg #[Value.int .i64 (0), Value.int .i64 (0), Value.int .i64 (0), Value.bool false]) rfl (fun _ => by kernel_rfl)) rfl (W.e (Y.alloc (z := Value.agg (#[Value.int .i64 (0), Value.int .i64 (0), Value.int .i64 (0), Value.bool false])) HS ze188) rfl ?_))))))
    rintro _ w ⟨nb17, rfl, HS⟩
    refine W.en (Y.storeSt (c' := #[Value.int .i64 (0), Value.int .i64 (0), Value.int .i64 (0), Value.bool false]) 0 [Value.int .i64 (0), Value.int .i64 (0), Value.int .i64 (0), Value.bool false] HS rfl inf188 rfl rfl rfl rfl rfl rfl) rfl ?_
    rintro _ w HS
    refine W.nx (V.meet (σ := api_Ctl) (fun st w => match st with | x20 => Sep.St [api_Ctl.at nb1 ({ Kind := 0, Ns := 0, Nr := 0, Poll := false } : api_Ctl), api_Ctl.at nb17 x20, row 5 1 (.slice at11_0 t11.length ct11_0) t11.length (t11.map (Value.int .u8)), R] w0 w ∧ ∃ kf21, kf21 ≤ k ∧ control_Read.j0 kf21 a0 a1 x20 = some r) (fun st => match st with | x20 => [(0, Value.slice (some ⟨eb9, eo10, none⟩) a0.length sc0), (1, Value.int .i64 a1), (4, Value.pointer (some ⟨nb1, 0, none⟩)), (8, Value.pointer (some ⟨nb17, 0, none⟩))]) ?_ ?_)
    ·refine V.block (V.seq (V.region (W.mv rfl (W.r (X.indexSl Tryz.underlying32 inf5 rfl rfl c8.1 c8.2) rfl (W.r (X.load Tryz.underlying5 rfl rfl ((rdC.at 3 hr0 HS rfl).cellI c8.1 c8.2)) rfl (W.r (X.cmp (decide ((a0.getD (0 : Int).toNat 0) = 1)) rfl rfl rfl rfl) rfl (W.as rfl (W.nx ?_))))))))
     by_cases c48 : (a0.getD (0 : Int).toNat 0) = 1
     ·replace H := ite_t c48 H
      refine V.condT (sb (decide_eq_true c48)) (V.region (W.fa fo188_0 rfl (W.st 0 0 HS inf3 rfl rfl rfl rfl rfl rfl fun w HS => ?_)))
      refine W.nil (At.blockEnd ?_)
      replace HS := HS.pm [2, 0, 1, 3]
      replace HS := api_Ctl.close trivial HS
      replace HS := HS.pm [1, 0, 2, 3]
      replace HS := api_Ctl.close trivial HS
      replace HS := HS.pk [1, 0, 2, 3] []
      exact At.meet ({ Kind := 1, Ns := 0, Nr := 0, Poll := false } : api_Ctl) ⟨rfl, rfl, rfl, rfl, trivial⟩ ⟨HS, k, by omega, H⟩
     ·replace H := ite_f c48 H
      refine V.condF (sb (decide_eq_false c48)) (V.seq (V.region (W.mv rfl (W.r (X.indexSl Tryz.underlying32 inf5 rfl rfl c8.1 c8.2) rfl (W.r (X.load Tryz.underlying5 rfl rfl ((rdC.at 3 hr0 HS rfl).cellI c8.1 c8.2)) rfl (W.r (X.cmp (decide ((a0.getD (0 : Int).toNat 0) = 9)) rfl rfl rfl rfl) rfl (W.as rfl (W.nx ?_))))))))
      by_cases c49 : (a0.getD (0 : Int).toNat 0) = 9
      ·replace H := ite_t c49 H
       refine V.condT (sb (decide_eq_true c49)) (V.region (W.fa fo188_0 rfl (W.st 0 0 HS inf3 rfl rfl rfl rfl rfl rfl fun w HS => ?_)))
       refine W.nil (At.blockEnd ?_)
       replace HS := HS.pm [2, 0, 1, 3]
       replace HS := api_Ctl.close trivial HS
       replace HS := HS.pm [1, 0, 2, 3]
       replace HS := api_Ctl.close trivial HS
       replace HS := HS.pk [1, 0, 2, 3] []
       exact At.meet ({ Kind := 2, Ns := 0, Nr := 0, Poll := false } : api_Ctl) ⟨rfl, rfl, rfl, rfl, trivial⟩ ⟨HS, k, by omega, H⟩
      ·replace H := ite_f c49 H
       refine V.condF (sb (decide_eq_false c49)) (V.seq (V.region (W.mv rfl (W.r (X.indexSl Tryz.underlying32 inf5 rfl rfl c8.1 c8.2) rfl (W.r (X.load Tryz.underlying5 rfl rfl ((rdC.at 3 hr0 HS rfl).cellI c8.1 c8.2)) rfl (W.r (X.and rfl rfl) rfl (W.r (X.cmp (decide ((iand .u8 (a0.getD (0 : Int).toNat 0) (1)) = 1)) rfl rfl rfl rfl) rfl (W.as rfl (W.nx ?_)))))))))
       by_cases c50 : (iand .u8 (a0.getD (0 : Int).toNat 0) (1)) = 1
       ·replace H := ite_t c50 H
        refine V.condT (sb (decide_eq_true c50)) (V.seq (V.region (W.r (X.bd (Value.agg #[Value.int .i64 (0), Value.int .i64 (0), Value.int .i64 (0), Value.bool false]) rfl (fun _ => by kernel_rfl)) rfl (W.en (Y.storeSt (c' := #[Value.int .i64 (0), Value.int .i64 (0), Value.int .i64 (0), Value.bool false]) 2 [Value.int .i64 (0), Value.int .i64 (0), Value.int .i64 (0), Value.bool false] HS rfl inf188 rfl rfl rfl rfl rfl rfl) rfl ?_))))
        rintro _ w HS
        refine W.as rfl (W.as rfl (W.nx (V.ret (At.blockRet (At.thenRet ?_)))))
        have hv51 := run_loadSt (P := Tryz.prog) (p := 0) 2 [Value.int .i64 (0), Value.int .i64 (0), Value.int .i64 (0), Value.bool false] HS rfl Tryz.underlying188 rfl inf188 rfl
        replace HS := HS.pk [3] [0, 1, 2]
        cases H
        exact At.retv3 rfl ⟨_, rfl, hv51⟩ rfl rfl ⟨_, rfl, rfl, HS⟩
       ·replace H := ite_f c50 H
        refine V.condF (sb (decide_eq_false c50)) (V.skip (At.blockEnd ?_))
        replace HS := HS.pm [2, 0, 1, 3]
        replace HS := api_Ctl.close trivial HS
        replace HS := HS.pm [1, 0, 2, 3]
        replace HS := api_Ctl.close trivial HS
        replace HS := HS.pk [1, 0, 2, 3] []
        exact At.meet ({ Kind := 0, Ns := 0, Nr := 0, Poll := false } : api_Ctl) ⟨rfl, rfl, rfl, rfl, trivial⟩ ⟨HS, k, by omega, H⟩
    ·rintro x20 w ⟨HS, kf21, hkkf21, H⟩
     unfold control_Read.j0 at H
     refine V.seq (V.region (W.mv rfl ?_))
     replace HS := row_nilF (Value.int .u8) 5 1 HS
     obtain ⟨t22, A23, H⟩ := bind_s H
     refine W.e (Y.cl Tryz.func231 (control_put.calls A23 HS.j1)) rfl ?_
     rintro _ w ⟨at22_0, ct22_0, rfl, HS⟩
     replace HS := HS.o1
     refine W.r (X.lenSl Tryz.underlying32 rfl) rfl (W.as rfl (W.nx (V.seq (V.seq (V.region (W.mv rfl (W.r (X.lenSl Tryz.underlying32 rfl) rfl (W.mv rfl (W.r (X.mul rfl rfl) rfl (W.r (X.cmp (decide ((a0.length : Int) < (w64 (2 * (t22.length : Int))))) rfl rfl rfl rfl) rfl (W.nx ?_)))))))))))
     by_cases c25 : (a0.length : Int) < (w64 (2 * (t22.length : Int)))
     ·replace H := ite_t c25 H
      refine V.condT (sb (decide_eq_true c25)) (V.seq (V.region (W.r (X.bd (Value.agg #[Value.int .i64 (0), Value.int .i64 (0), Value.int .i64 (0), Value.bool false]) rfl (fun _ => by kernel_rfl)) rfl ?_)))
      replace HS := HS.fr 1
      obtain ⟨hi27, HS⟩ := api_Ctl.open HS
      refine W.en (Y.storeSt (c' := #[Value.int .i64 (0), Value.int .i64 (0), Value.int .i64 (0), Value.bool false]) 0 [Value.int .i64 (0), Value.int .i64 (0), Value.int .i64 (0), Value.bool false] HS rfl inf188 rfl rfl rfl rfl rfl rfl) rfl ?_
      rintro _ w HS
      refine W.as rfl (W.as rfl (W.nx (V.ret (At.thenRet ?_))))
      have hv28 := run_loadSt (P := Tryz.prog) (p := 0) 0 [Value.int .i64 (0), Value.int .i64 (0), Value.int .i64 (0), Value.bool false] HS rfl Tryz.underlying188 rfl inf188 rfl
      replace HS := HS.pk [4] [0, 1, 2, 3]
      cases H
      exact At.retv3 rfl ⟨_, rfl, hv28⟩ rfl rfl ⟨_, rfl, rfl, HS⟩
     ·replace H := ite_f c25 H
      refine V.condF (sb (decide_eq_false c25)) (V.skip (At.next (V.seq ?_)))
      obtain ⟨c29, H⟩ := ite_n H
      obtain ⟨c30, H⟩ := ite_n H
      refine V.dr [3, 9] [10, 11] [(65, Value.slice (some ⟨eb9, eo10, none⟩) a0.length sc0), (66, Value.int .i64 (t22.length : Int)), (67, Value.slice (vaddr (some ⟨eb9, eo10, none⟩) sc0 (0 : Int).toNat 1) (cut a0 (0 : Int) (t22.length : Int)).length (sc0 - (0 : Int).toNat)), (69, Value.slice (some ⟨eb9, eo10, none⟩) a0.length sc0), (70, Value.int .i64 (t22.length : Int)), (71, Value.int .i64 (t22.length : Int)), (72, Value.int .i64 (w64 (2 * (t22.length : Int)))), (73, Value.slice (vaddr (some ⟨eb9, eo10, none⟩) sc0 (t22.length : Int).toNat 1) (cut a0 (t22.length : Int) (w64 (2 * (t22.length : Int)))).length (sc0 - (t22.length : Int).toNat))] mo HS ?_
      refine T.ev [(67, _)] [10, 11] [0, 1, 2] ⟨rfl, trivial⟩ ⟨.mv 0, .mv 9, .n2 65 66 rfl rfl rfl (fun w HS => X.slH Tryz.underlying32 inf5 rfl rfl c29 (rdC.at 4 hr0 HS rfl).cap), .mv 0, .mv 9, .mv 9, .n1 71 rfl rfl (fun w HS => X.mul rfl rfl), .ns [(69, _), (70, _), (72, _)] ⟨rfl, rfl, rfl, trivial⟩ rfl (fun w HS => X.slLH Tryz.underlying32 inf5 rfl rfl rfl c30 (rdC.at 4 hr0 HS rfl).cap), trivial⟩ rfl (fun w HS => ?_)
      obtain ⟨t31, A32, H⟩ := bind_s H
      refine ⟨_, Y.cl Tryz.func232 (control_number.calls A32 HS.j0 (rdC.part 4 (rdC.subM hr0 c29) rfl)), ?_⟩
      rintro _ w ⟨rfl, HS⟩
      replace HS := HS.o0
      refine T.nw HS ?_
      refine T.ev [(73, _)] [] [4, 5, 6, 7, 8] ⟨rfl, trivial⟩ ⟨.mv 0, .mv 9, .mv 9, .n1 71 rfl rfl (fun w HS => X.mul rfl rfl), .ns [(69, _), (70, _), (72, _)] ⟨rfl, rfl, rfl, trivial⟩ rfl (fun w HS => X.slLH Tryz.underlying32 inf5 rfl rfl rfl c30 (rdC.at 4 hr0 HS rfl).cap), trivial⟩ rfl (fun w HS => ?_)
      obtain ⟨t33, A34, H⟩ := bind_s H
      refine ⟨_, Y.cl Tryz.func232 (control_number.calls A34 HS.j0 (rdC.part 4 (rdC.subM hr0 c30) rfl)), ?_⟩
      rintro _ w ⟨rfl, HS⟩
      replace HS := HS.o0
      refine T.nm [(74, Value.int .i64 t33), (10, Value.int .i64 t31), (11, Value.int .i64 t33)] HS ⟨.inl ⟨rfl, rfl⟩, ⟨.inr ⟨by decide, rfl⟩, ⟨.inr ⟨by decide, rfl⟩, trivial⟩⟩⟩ ?_
      refine T.fn [(0, _), (4, _), (8, _), (9, _), (10, _), (11, _)] ⟨rfl, rfl, rfl, rfl, rfl, rfl, trivial⟩ ⟨.as 68, .as 74, trivial⟩ (fun w HS => ?_)
      refine At.next (V.seq (V.seq (V.region ?_)))
      replace HS := HS.fr 2
      obtain ⟨hi36, HS⟩ := api_Ctl.open HS
      refine W.fa fo188_0 rfl (W.ld 0 HS Tryz.underlying3 rfl rfl rfl rfl (W.r (X.cmp (decide (x20.Kind = 0)) rfl rfl rfl rfl) rfl (W.nx ?_)))
      by_cases c37 : x20.Kind = 0
      ·replace H := ite_t c37 H
       refine V.condT (sb (decide_eq_true c37)) (V.region (W.mv rfl (W.r (X.quo rfl rfl (by decide)) rfl (W.fa fo188_1 rfl (W.st 0 1 HS inf3 rfl rfl rfl rfl rfl rfl fun w HS => ?_)))))
       refine W.nx (V.seq (V.region (W.mv rfl (W.r (X.quo rfl rfl (by decide)) rfl (W.mv rfl (W.r (X.and rfl rfl) rfl (W.r (X.cmp (decide ((iand .i64 t33 (1)) = 1)) rfl rfl rfl rfl) rfl (W.fa fo188_2 rfl (W.st 0 2 HS inf3 rfl rfl rfl rfl rfl rfl fun w HS => ?_)))))))))
       refine W.fa fo188_3 rfl (W.st 0 3 HS inf4 rfl rfl rfl rfl rfl rfl fun w HS => ?_)
       refine W.nx (V.seq (V.region (W.r (X.loadSt 0 [Value.int .i64 x20.Kind, Value.int .i64 (w64 (t31.tdiv (2))), Value.int .i64 (w64 (t33.tdiv (2))), Value.bool (decide ((iand .i64 t33 (1)) = 1))] HS rfl Tryz.underlying188 rfl inf188 rfl rfl) rfl (W.mv rfl (W.r (X.mul rfl rfl) rfl ?_)))))
       replace HS := HS.fr 2
       obtain ⟨hi39, HS⟩ := api_Ctl.open HS
       refine W.en (Y.storeSt (c' := #[Value.int .i64 x20.Kind, Value.int .i64 (w64 (t31.tdiv (2))), Value.int .i64 (w64 (t33.tdiv (2))), Value.bool (decide ((iand .i64 t33 (1)) = 1))]) 0 [Value.int .i64 x20.Kind, Value.int .i64 (w64 (t31.tdiv (2))), Value.int .i64 (w64 (t33.tdiv (2))), Value.bool (decide ((iand .i64 t33 (1)) = 1))] HS rfl inf188 rfl rfl rfl rfl rfl rfl) rfl ?_
       rintro _ w HS
       refine W.as rfl (W.as rfl (W.nx (V.ret ?_)))
       have hv40 := run_loadSt (P := Tryz.prog) (p := 0) 0 [Value.int .i64 x20.Kind, Value.int .i64 (w64 (t31.tdiv (2))), Value.int .i64 (w64 (t33.tdiv (2))), Value.bool (decide ((iand .i64 t33 (1)) = 1))] HS rfl Tryz.underlying188 rfl inf188 rfl
       replace HS := HS.pk [4] [0, 1, 2, 3]
       cases H
       exact At.retv3 rfl ⟨_, rfl, hv40⟩ rfl rfl ⟨_, rfl, rfl, HS⟩
      ·replace H := ite_f c37 H
       refine V.condF (sb (decide_eq_false c37)) (V.seq (V.region (W.mv rfl (W.mv rfl (W.r (X.indexSl Tryz.underlying32 inf5 rfl rfl c8.1 c8.2) rfl (W.r (X.load Tryz.underlying5 rfl rfl ((rdC.at 4 hr0 HS rfl).cellI c8.1 c8.2)) rfl (W.r (X.conv Tryz.underlying5 Tryz.underlying3 rfl) rfl (W.r (X.cmp (!(decide (t31 = (w64 (a0.getD (0 : Int).toNat 0))))) rfl rfl rfl rfl) rfl (W.nx ?_)))))))))
       by_cases c41 : t31 = (w64 (a0.getD (0 : Int).toNat 0))
       ·replace H := ite_t c41 H
        refine V.condF (sb (n_t (decide_eq_true c41))) (V.skip (At.next (V.seq (V.region (W.mv rfl (W.r (X.quo rfl rfl (by decide)) rfl (W.mv rfl (W.r (X.and rfl rfl) rfl (W.r (X.cmp (decide ((iand .i64 t33 (1)) = 1)) rfl rfl rfl rfl) rfl (W.fa fo188_2 rfl (W.st 0 2 HS inf3 rfl rfl rfl rfl rfl rfl fun w HS => ?_)))))))))))
        refine W.fa fo188_3 rfl (W.st 0 3 HS inf4 rfl rfl rfl rfl rfl rfl fun w HS => ?_)
        refine W.nx (V.seq (V.region (W.r (X.loadSt 0 [Value.int .i64 x20.Kind, Value.int .i64 x20.Ns, Value.int .i64 (w64 (t33.tdiv (2))), Value.bool (decide ((iand .i64 t33 (1)) = 1))] HS rfl Tryz.underlying188 rfl inf188 rfl rfl) rfl (W.mv rfl (W.r (X.mul rfl rfl) rfl ?_)))))
        replace HS := HS.fr 2
        obtain ⟨hi43, HS⟩ := api_Ctl.open HS
        refine W.en (Y.storeSt (c' := #[Value.int .i64 x20.Kind, Value.int .i64 x20.Ns, Value.int .i64 (w64 (t33.tdiv (2))), Value.bool (decide ((iand .i64 t33 (1)) = 1))]) 0 [Value.int .i64 x20.Kind, Value.int .i64 x20.Ns, Value.int .i64 (w64 (t33.tdiv (2))), Value.bool (decide ((iand .i64 t33 (1)) = 1))] HS rfl inf188 rfl rfl rfl rfl rfl rfl) rfl ?_
        rintro _ w HS
        refine W.as rfl (W.as rfl (W.nx (V.ret ?_)))
        have hv44 := run_loadSt (P := Tryz.prog) (p := 0) 0 [Value.int .i64 x20.Kind, Value.int .i64 x20.Ns, Value.int .i64 (w64 (t33.tdiv (2))), Value.bool (decide ((iand .i64 t33 (1)) = 1))] HS rfl Tryz.underlying188 rfl inf188 rfl
        replace HS := HS.pk [4] [0, 1, 2, 3]
        cases H
        exact At.retv3 rfl ⟨_, rfl, hv44⟩ rfl rfl ⟨_, rfl, rfl, HS⟩
       ·replace H := ite_f c41 H
        refine V.condT (sb (n_f (decide_eq_false c41))) (V.seq (V.region (W.r (X.bd (Value.agg #[Value.int .i64 (0), Value.int .i64 (0), Value.int .i64 (0), Value.bool false]) rfl (fun _ => by kernel_rfl)) rfl ?_)))
        replace HS := HS.fr 2
        obtain ⟨hi46, HS⟩ := api_Ctl.open HS
        refine W.en (Y.storeSt (c' := #[Value.int .i64 (0), Value.int .i64 (0), Value.int .i64 (0), Value.bool false]) 0 [Value.int .i64 (0), Value.int .i64 (0), Value.int .i64 (0), Value.bool false] HS rfl inf188 rfl rfl rfl rfl rfl rfl) rfl ?_
        rintro _ w HS
        refine W.as rfl (W.as rfl (W.nx (V.ret (At.thenRet ?_))))
        have hv47 := run_loadSt (P := Tryz.prog) (p := 0) 0 [Value.int .i64 (0), Value.int .i64 (0), Value.int .i64 (0), Value.bool false] HS rfl Tryz.underlying188 rfl inf188 rfl
        replace HS := HS.pk [4] [0, 1, 2, 3]
        cases H
        exact At.retv3 rfl ⟨_, rfl, hv47⟩ rfl rfl ⟨_, rfl, rfl, HS⟩
 ·replace H := ite_f c5 H
  refine V.condT (sb (n_f (b_f c5))) (V.seq (V.region (W.r (X.bd (Value.agg #[Value.int .i64 (0), Value.int .i64 (0), Value.int .i64 (0), Value.bool false]) rfl (fun _ => by kernel_rfl)) rfl (W.en (Y.storeSt (c' := #[Value.int .i64 (0), Value.int .i64 (0), Value.int .i64 (0), Value.bool false]) 0 [Value.int .i64 (0), Value.int .i64 (0), Value.int .i64 (0), Value.bool false] HS rfl inf188 rfl rfl rfl rfl rfl rfl) rfl ?_))))
  rintro _ w HS
  refine W.as rfl (W.as rfl (W.nx (V.ret (At.thenRet ?_))))
  have hv52 := run_loadSt (P := Tryz.prog) (p := 0) 0 [Value.int .i64 (0), Value.int .i64 (0), Value.int .i64 (0), Value.bool false] HS rfl Tryz.underlying188 rfl inf188 rfl
  replace HS := HS.pk [1] [0]
  cases H
  exact At.retv3 rfl ⟨_, rfl, hv52⟩ rfl rfl ⟨_, rfl, rfl, HS⟩
def arq_Arq_ahead.f (a0 : arq_Arq) (a1 : Int) : Option Bool := ((serial_Dist.f a0.tag a1 65536).bind fun t1 => (if t1 ≥ 1 then some (decide (t1 < 32768)) else some false))
theorem arq_Arq_ahead.calls {a0 : arq_Arq} {a1 : Int} {R : As} {w0 w : World} {b0 : Nat} {b8_p0 : Nat} {b9_p0 : Nat} {b10_p0 : Nat} {a11_p0 : Option Addr} {c11_p0 : Nat} {d11_p0 : List Value} {a12_p0 : Option Addr} {c12_p0 : Nat} {r : Bool} (H : arq_Arq_ahead.f a0 a1 = some r) (HS : Sep.St [blk b0 (#[Value.int .i64 a0.m, Value.int .i64 a0.t1, Value.int .i64 a0.n2, Value.int .i64 a0.size, Value.int .i64 a0.state, Value.int .i64 a0.tag, Value.int .i64 a0.tries, Value.bool a0.rejected, Value.pointer (some ⟨b8_p0, 0, none⟩), Value.pointer (some ⟨b9_p0, 0, none⟩), Value.pointer (some ⟨b10_p0, 0, none⟩), Value.slice a11_p0 a0.out.length c11_p0, Value.slice a12_p0 a0.inds.length c12_p0, Value.int .i64 a0.sent, Value.int .i64 a0.acked, Value.int .i64 a0.lost]) 136, backlog_Log.at b8_p0 a0.log, reorder_Order.at b9_p0 a0.order, clock_Set.at b10_p0 a0.timers, row 32 1 (.slice a11_p0 a0.out.length c11_p0) a0.out.length d11_p0, tie (El.sl (El.int .u8)) d11_p0 a0.out, row 3 1 (.slice a12_p0 a0.inds.length c12_p0) a0.inds.length (a0.inds.map (Value.int .i64)), R] w0 w)  : Calls Tryz.prog 233 #[Value.pointer (some ⟨b0, 0, none⟩), Value.int .i64 a1] w (Ret fun u w => u = Value.bool r ∧ Sep.St [blk b0 (#[Value.int .i64 a0.m, Value.int .i64 a0.t1, Value.int .i64 a0.n2, Value.int .i64 a0.size, Value.int .i64 a0.state, Value.int .i64 a0.tag, Value.int .i64 a0.tries, Value.bool a0.rejected, Value.pointer (some ⟨b8_p0, 0, none⟩), Value.pointer (some ⟨b9_p0, 0, none⟩), Value.pointer (some ⟨b10_p0, 0, none⟩), Value.slice a11_p0 a0.out.length c11_p0, Value.slice a12_p0 a0.inds.length c12_p0, Value.int .i64 a0.sent, Value.int .i64 a0.acked, Value.int .i64 a0.lost]) 136, backlog_Log.at b8_p0 a0.log, reorder_Order.at b9_p0 a0.order, clock_Set.at b10_p0 a0.timers, row 32 1 (.slice a11_p0 a0.out.length c11_p0) a0.out.length d11_p0, tie (El.sl (El.int .u8)) d11_p0 a0.out, row 3 1 (.slice a12_p0 a0.inds.length c12_p0) a0.inds.length (a0.inds.map (Value.int .i64)), R] w0 w) := by
 unfold arq_Arq_ahead.f at H
 refine calls_enter Tryz.func233 rfl rfl ?_
 have H : _ = some r := H
 refine V.seq (V.region (W.as rfl (W.nx (V.seq (V.region (W.mv rfl (W.nc rfl (W.fa fo136_5 rfl (W.ld 0 HS Tryz.underlying3 rfl rfl rfl rfl (W.mv rfl ?_))))))))))
 obtain ⟨t1, A2, H⟩ := bind_s H
 refine W.e (Y.cl Tryz.func252 (serial_Dist.calls A2 HS.j0)) rfl ?_
 rintro _ w ⟨rfl, HS⟩
 replace HS := HS.o0
 refine W.as rfl (W.nx (V.seq (V.region (W.mv rfl (W.r (X.cmp (decide (t1 ≥ 1)) rfl rfl rfl rfl) rfl (W.mv rfl ?_))))))
 by_cases c3 : t1 ≥ 1
 ·replace H := ite_t c3 H
  refine W.want 14 rfl (sb (decide_eq_true c3)) (W.mv rfl (W.want 14 rfl (sb (decide_eq_true c3)) (W.r (X.cmp (decide (t1 < 32768)) rfl rfl rfl rfl) rfl (W.r (X.pickT (sb (decide_eq_true c3)) rfl) rfl (W.as rfl (W.nx (V.ret ?_)))))))
  cases H
  exact At.ret1 rfl rfl ⟨_, rfl, rfl, HS⟩
 ·replace H := ite_f c3 H
  refine W.pass 14 rfl (sb (decide_eq_false c3)) rfl rfl (W.pass 14 rfl (sb (decide_eq_false c3)) rfl rfl (W.r (X.pickF (sb (decide_eq_false c3)) rfl) rfl (W.as rfl (W.nx (V.ret ?_)))))
  cases H
  exact At.ret1 rfl rfl ⟨_, rfl, rfl, HS⟩
mutual
def arq_Arq_asked.j0  (x10 : arq_Arq) : Option arq_Arq := some x10
def arq_Arq_asked.j2 (k : Nat) (a0 : arq_Arq) (a1 : Int) (a2 : Bool) (x18 : Bool) : Option arq_Arq := (if x18 = true then ((arq_Arq_fresh.f a0 2).bind fun t21 => ((arq_Arq_tell.f k ({ t21 with tag := a1 } : arq_Arq) ({ Kind := 4, Ns := 0, Nr := 0, Poll := a2 } : api_Ctl)).bind fun t25 => (if a0.state = 2 then (if (t25.inds.length : Int) + ([3] : List Int).length ≤ 1099511627776 then some (({ t25 with inds := t25.inds ++ ([3] : List Int) } : arq_Arq)) else none) else (if (t25.inds.length : Int) + ([1] : List Int).length ≤ 1099511627776 then some (({ t25 with inds := t25.inds ++ ([1] : List Int) } : arq_Arq)) else none)))) else (if a0.state = 0 then ((arq_Arq_tell.f k a0 ({ Kind := 6, Ns := 0, Nr := 0, Poll := false } : api_Ctl)).bind fun t47 => (arq_Arq_asked.j0 t47)) else (arq_Arq_asked.j0 a0)))
def arq_Arq_asked.j1 (k : Nat) (a0 : arq_Arq) (a1 : Int) (a2 : Bool) (x13 : Bool) : Option arq_Arq := (if x13 = true then ((arq_Arq_tell.f k a0 ({ Kind := 4, Ns := 0, Nr := 0, Poll := a2 } : api_Ctl)).bind fun t16 => some t16) else ((arq_Arq_ahead.f a0 a1).bind fun t51 => (if t51 = true then (arq_Arq_asked.j2 k a0 a1 a2 true) else (if a0.state = 1 then (arq_Arq_asked.j2 k a0 a1 a2 (decide (a1 = a0.tag))) else (arq_Arq_asked.j2 k a0 a1 a2 false)))))
end
def arq_Arq_asked.f (k : Nat) (a0 : arq_Arq) (a1 : Int) (a2 : Bool) : Option arq_Arq := (if a0.state = 3 then some a0 else (if a0.state = 2 then (arq_Arq_asked.j1 k a0 a1 a2 (decide (a1 = a0.tag))) else (arq_Arq_asked.j1 k a0 a1 a2 false)))
theorem arq_Arq_asked.calls {k : Nat} {a0 : arq_Arq} {a1 : Int} {a2 : Bool} {R : As} {w0 w : World} {b0 : Nat} {r : arq_Arq} (H : arq_Arq_asked.f k a0 a1 a2 = some r) (HS : Sep.St [arq_Arq.at b0 a0, R] w0 w)  : Calls Tryz.prog 195 #[Value.pointer (some ⟨b0, 0, none⟩), Value.int .i64 a1, Value.bool a2] w (Ret fun u w => u = Value.tuple #[] ∧ Sep.St [arq_Arq.at b0 r, R] w0 w) := by
 unfold arq_Arq_asked.f at H
 refine calls_enter Tryz.func195 rfl rfl ?_
 have H : _ = some r := H
 refine V.scope 1 (V.seq (V.region (W.mv rfl (W.nc rfl ?_))))
 obtain ⟨b8_1, b9_1, b10_1, a11_1, c11_1, d11_1, a12_1, c12_1, hi2, HS⟩ := arq_Arq.open HS
 refine W.fa fo136_4 rfl (W.ld 0 HS Tryz.underlying3 rfl rfl rfl rfl (W.r (X.cmp (decide (a0.state = 2)) rfl rfl rfl rfl) rfl (W.as rfl (W.nx (V.meet (σ := arq_Arq) (fun st w => match st with | x10 => Sep.St [arq_Arq.at b0 x10, R] w0 w ∧ arq_Arq_asked.j0 x10 = some r) (fun st => match st with | x10 => []) ?_ ?_)))))
 ·refine V.block (V.seq (V.region (W.mv rfl (W.nc rfl (W.fa fo136_4 rfl (W.ld 0 HS Tryz.underlying3 rfl rfl rfl rfl (W.r (X.cmp (decide (a0.state = 3)) rfl rfl rfl rfl) rfl (W.as rfl (W.nx ?_)))))))))
  by_cases c12 : a0.state = 3
  ·replace H := ite_t c12 H
   refine V.condT (sb (decide_eq_true c12)) (V.ret (At.blockRet (At.thenRet (At.scopeRet ?_))))
   replace HS := arq_Arq.close trivial HS
   cases H
   exact At.ret0 rfl ⟨_, rfl, rfl, HS⟩
  ·replace H := ite_f c12 H
   refine V.condF (sb (decide_eq_false c12)) (V.meet (σ := Bool) (fun st w => match st with | x13 => Sep.St [arq_Arq.at b0 a0, R] w0 w ∧ ∃ kf14, kf14 ≤ k ∧ arq_Arq_asked.j1 kf14 a0 a1 a2 x13 = some r) (fun st => match st with | x13 => [(0, Value.pointer (some ⟨b0, 0, none⟩)), (1, Value.int .i64 a1), (2, Value.bool a2), (6, Value.bool (decide (a0.state = 2))), (18, Value.bool x13)]) ?_ ?_)
   ·refine V.region (W.mv rfl (W.mv rfl ?_))
    by_cases c55 : a0.state = 2
    ·replace H := ite_t c55 H
     refine W.want 20 rfl (sb (decide_eq_true c55)) (W.mv rfl (W.want 20 rfl (sb (decide_eq_true c55)) (W.mv rfl (W.want 20 rfl (sb (decide_eq_true c55)) (W.nc rfl (W.want 20 rfl (sb (decide_eq_true c55)) (W.fa fo136_5 rfl (W.want 20 rfl (sb (decide_eq_true c55)) (W.ld 0 HS Tryz.underlying3 rfl rfl rfl rfl (W.want 20 rfl (sb (decide_eq_true c55)) (W.r (X.cmp (decide (a1 = a0.tag)) rfl rfl rfl rfl) rfl (W.r (X.pickT (sb (decide_eq_true c55)) rfl) rfl (W.as rfl (W.nil ?_))))))))))))))
     replace HS := arq_Arq.close trivial HS
     exact At.meet (decide (a1 = a0.tag)) ⟨rfl, rfl, rfl, rfl, rfl, trivial⟩ ⟨HS, k, by omega, H⟩
    ·replace H := ite_f c55 H
     refine W.pass 20 rfl (sb (decide_eq_false c55)) rfl rfl (W.pass 20 rfl (sb (decide_eq_false c55)) rfl rfl (W.pass 20 rfl (sb (decide_eq_false c55)) rfl rfl (W.pass 20 rfl (sb (decide_eq_false c55)) rfl rfl (W.pass 20 rfl (sb (decide_eq_false c55)) rfl rfl (W.pass 20 rfl (sb (decide_eq_false c55)) rfl rfl (W.r (X.pickF (sb (decide_eq_false c55)) rfl) rfl (W.as rfl (W.nil ?_))))))))
     replace HS := arq_Arq.close trivial HS
     exact At.meet false ⟨rfl, rfl, rfl, rfl, rfl, trivial⟩ ⟨HS, k, by omega, H⟩
   ·rintro x13 w ⟨HS, kf14, hkkf14, H⟩
    unfold arq_Arq_asked.j1 at H
    by_cases c15 : x13 = true
    ·replace H := ite_t c15 H
     refine V.condT (sb c15) (V.seq (V.region (W.mv rfl (W.mv rfl (W.r (X.bd (Value.agg #[Value.int .i64 (4), Value.int .i64 (0), Value.int .i64 (0), Value.bool a2]) rfl (fun _ => by kernel_rfl)) rfl ?_)))))
     obtain ⟨t16, A17, H⟩ := bind_s H
     refine W.e (Y.cl Tryz.func153 (arq_Arq_tell.calls A17 HS.j1)) rfl ?_
     rintro _ w ⟨rfl, HS⟩
     replace HS := HS.o1
     refine W.nx (V.ret (At.blockRet (At.thenRet (At.scopeRet ?_))))
     cases H
     exact At.ret0 rfl ⟨_, rfl, rfl, HS⟩
    ·replace H := ite_f c15 H
     refine V.condF (sb (b_f c15)) (V.meet (σ := Bool) (fun st w => match st with | x18 => Sep.St [arq_Arq.at b0 a0, R] w0 w ∧ ∃ kf19, kf19 ≤ kf14 ∧ arq_Arq_asked.j2 kf19 a0 a1 a2 x18 = some r) (fun st => match st with | x18 => [(0, Value.pointer (some ⟨b0, 0, none⟩)), (1, Value.int .i64 a1), (2, Value.bool a2), (6, Value.bool (decide (a0.state = 2))), (32, Value.bool x18)]) ?_ ?_)
     ·refine V.region (W.mv rfl (W.mv rfl ?_))
      obtain ⟨b8_49, b9_49, b10_49, a11_49, c11_49, d11_49, a12_49, c12_49, hi50, HS⟩ := arq_Arq.open HS
      obtain ⟨t51, A52, H⟩ := bind_s H
      refine W.e (Y.cl Tryz.func233 (arq_Arq_ahead.calls A52 HS.j7)) rfl ?_
      rintro _ w ⟨rfl, HS⟩
      replace HS := HS.o7
      refine W.mv rfl ?_
      by_cases c53 : t51 = true
      ·replace H := ite_t c53 H
       refine W.pass 36 rfl (sb c53) rfl rfl (W.pass 36 rfl (sb c53) rfl rfl (W.pass 36 rfl (sb c53) rfl rfl (W.pass 36 rfl (sb c53) rfl rfl (W.pass 36 rfl (sb c53) rfl rfl (W.pass 36 rfl (sb c53) rfl rfl (W.passU 42 rfl rfl rfl (W.passU 42 rfl rfl rfl (W.passU 42 rfl rfl rfl (W.passU 42 rfl rfl rfl (W.passU 42 rfl rfl rfl (W.passU 42 rfl rfl rfl (W.pass 36 rfl (sb c53) rfl rfl (W.r (X.pickT (sb c53) rfl) rfl (W.as rfl (W.nil ?_)))))))))))))))
       replace HS := arq_Arq.close trivial HS
       exact At.meet true ⟨rfl, rfl, rfl, rfl, rfl, trivial⟩ ⟨HS, kf14, by omega, H⟩
      ·replace H := ite_f c53 H
       refine W.want 36 rfl (sb (b_f c53)) (W.mv rfl (W.want 36 rfl (sb (b_f c53)) (W.nc rfl (W.want 36 rfl (sb (b_f c53)) (W.fa fo136_4 rfl (W.want 36 rfl (sb (b_f c53)) (W.ld 0 HS Tryz.underlying3 rfl rfl rfl rfl (W.want 36 rfl (sb (b_f c53)) (W.r (X.cmp (decide (a0.state = 1)) rfl rfl rfl rfl) rfl (W.want 36 rfl (sb (b_f c53)) (W.mv rfl ?_)))))))))))
       by_cases c54 : a0.state = 1
       ·replace H := ite_t c54 H
        refine W.want 42 rfl (sb (decide_eq_true c54)) (W.mv rfl (W.want 42 rfl (sb (decide_eq_true c54)) (W.mv rfl (W.want 42 rfl (sb (decide_eq_true c54)) (W.nc rfl (W.want 42 rfl (sb (decide_eq_true c54)) (W.fa fo136_5 rfl (W.want 42 rfl (sb (decide_eq_true c54)) (W.ld 0 HS Tryz.underlying3 rfl rfl rfl rfl (W.want 42 rfl (sb (decide_eq_true c54)) (W.r (X.cmp (decide (a1 = a0.tag)) rfl rfl rfl rfl) rfl (W.want 36 rfl (sb (b_f c53)) (W.r (X.pickT (sb (decide_eq_true c54)) rfl) rfl (W.r (X.pickF (sb (b_f c53)) rfl) rfl (W.as rfl (W.nil ?_))))))))))))))))
        replace HS := arq_Arq.close trivial HS
        exact At.meet (decide (a1 = a0.tag)) ⟨rfl, rfl, rfl, rfl, rfl, trivial⟩ ⟨HS, kf14, by omega, H⟩
       ·replace H := ite_f c54 H
        refine W.pass 42 rfl (sb (decide_eq_false c54)) rfl rfl (W.pass 42 rfl (sb (decide_eq_false c54)) rfl rfl (W.pass 42 rfl (sb (decide_eq_false c54)) rfl rfl (W.pass 42 rfl (sb (decide_eq_false c54)) rfl rfl (W.pass 42 rfl (sb (decide_eq_false c54)) rfl rfl (W.pass 42 rfl (sb (decide_eq_false c54)) rfl rfl (W.want 36 rfl (sb (b_f c53)) (W.r (X.pickF (sb (decide_eq_false c54)) rfl) rfl (W.r (X.pickF (sb (b_f c53)) rfl) rfl (W.as rfl (W.nil ?_))))))))))
        replace HS := arq_Arq.close trivial HS
        exact At.meet false ⟨rfl, rfl, rfl, rfl, rfl, trivial⟩ ⟨HS, kf14, by omega, H⟩
     ·rintro x18 w ⟨HS, kf19, hkkf19, H⟩
      unfold arq_Arq_asked.j2 at H
      by_cases c20 : x18 = true
      ·replace H := ite_t c20 H
       refine V.condT (sb c20) (V.goto (At.blockGoto (At.thenGoto (At.jump rfl ?_))))
       refine V.seq (V.skip (At.next (V.seq (V.region (W.mv rfl ?_)))))
       obtain ⟨t21, A22, H⟩ := bind_s H
       refine W.e (Y.cl Tryz.func156 (arq_Arq_fresh.calls A22 HS.j1)) rfl ?_
       rintro _ w ⟨rfl, HS⟩
       replace HS := HS.o1
       refine W.nx (V.seq (V.region (W.mv rfl (W.mv rfl (W.nc rfl ?_)))))
       obtain ⟨b8_23, b9_23, b10_23, a11_23, c11_23, d11_23, a12_23, c12_23, hi24, HS⟩ := arq_Arq.open HS
       refine W.fa fo136_5 rfl (W.st 0 5 HS inf3 rfl rfl rfl rfl rfl rfl fun w HS => ?_)
       refine W.nx (V.seq (V.region (W.mv rfl (W.mv rfl (W.r (X.bd (Value.agg #[Value.int .i64 (4), Value.int .i64 (0), Value.int .i64 (0), Value.bool a2]) rfl (fun _ => by kernel_rfl)) rfl ?_)))))
       replace HS := arq_Arq.close trivial HS
       obtain ⟨t25, A26, H⟩ := bind_s H
       refine W.e (Y.cl Tryz.func153 (arq_Arq_tell.calls A26 HS.j1)) rfl ?_
       rintro _ w ⟨rfl, HS⟩
       replace HS := HS.o1
       refine W.nx (V.seq (V.region (W.mv rfl (W.nx ?_))))
       by_cases c27 : a0.state = 2
       ·replace H := ite_t c27 H
        refine V.condT (sb (decide_eq_true c27)) (V.region (W.mv rfl (W.mv rfl (W.nc rfl ?_))))
        obtain ⟨b8_28, b9_28, b10_28, a11_28, c11_28, d11_28, a12_28, c12_28, hi29, HS⟩ := arq_Arq.open HS
        refine W.fa fo136_12 rfl (W.ld 0 HS Tryz.underlying48 rfl rfl rfl rfl (W.e (Y.ls (e := 3) (Value.int .i64) ([3] : List Int) HS rfl rfl (fun _ => by kernel_rfl)) rfl ?_))
        rintro _ w ⟨lb32, rfl, HS⟩
        obtain ⟨c33, H⟩ := ite_n H
        refine W.e (Y.appF (Value.int .i64) (fun _ => rfl) 7 Tryz.underlying48 ap3 rfl HS rfl rfl rfl (rdC.at 0 row_rd HS rfl) (by omega) (by omega)) rfl ?_
        rintro _ w ⟨ra34, rc35, rfl, HS⟩
        refine W.nc rfl (W.fa fo136_12 rfl (W.st 1 12 HS inf48 rfl rfl rfl rfl rfl rfl fun w HS => ?_))
        refine W.nil (At.scopeEnd ?_)
        replace HS := HS.pm [1, 2, 3, 4, 5, 6, 7, 0, 8]
        replace HS := arq_Arq.close trivial HS
        replace HS := HS.pk [0, 2] [1]
        cases H
        exact At.end0 rfl ⟨_, rfl, rfl, HS⟩
       ·replace H := ite_f c27 H
        refine V.condF (sb (decide_eq_false c27)) (V.region (W.mv rfl (W.mv rfl (W.nc rfl ?_))))
        obtain ⟨b8_36, b9_36, b10_36, a11_36, c11_36, d11_36, a12_36, c12_36, hi37, HS⟩ := arq_Arq.open HS
        refine W.fa fo136_12 rfl (W.ld 0 HS Tryz.underlying48 rfl rfl rfl rfl (W.e (Y.ls (e := 3) (Value.int .i64) ([1] : List Int) HS rfl rfl (fun _ => by kernel_rfl)) rfl ?_))
        rintro _ w ⟨lb40, rfl, HS⟩
        obtain ⟨c41, H⟩ := ite_n H
        refine W.e (Y.appF (Value.int .i64) (fun _ => rfl) 7 Tryz.underlying48 ap3 rfl HS rfl rfl rfl (rdC.at 0 row_rd HS rfl) (by omega) (by omega)) rfl ?_
        rintro _ w ⟨ra42, rc43, rfl, HS⟩
        refine W.nc rfl (W.fa fo136_12 rfl (W.st 1 12 HS inf48 rfl rfl rfl rfl rfl rfl fun w HS => ?_))
        refine W.nil (At.scopeEnd ?_)
        replace HS := HS.pm [1, 2, 3, 4, 5, 6, 7, 0, 8]
        replace HS := arq_Arq.close trivial HS
        replace HS := HS.pk [0, 2] [1]
        cases H
        exact At.end0 rfl ⟨_, rfl, rfl, HS⟩
      ·replace H := ite_f c20 H
       refine V.condF (sb (b_f c20)) (V.seq (V.region (W.mv rfl (W.nc rfl ?_))))
       obtain ⟨b8_44, b9_44, b10_44, a11_44, c11_44, d11_44, a12_44, c12_44, hi45, HS⟩ := arq_Arq.open HS
       refine W.fa fo136_4 rfl (W.ld 0 HS Tryz.underlying3 rfl rfl rfl rfl (W.r (X.cmp (decide (a0.state = 0)) rfl rfl rfl rfl) rfl (W.as rfl (W.nx ?_))))
       by_cases c46 : a0.state = 0
       ·replace H := ite_t c46 H
        refine V.condT (sb (decide_eq_true c46)) (V.region (W.mv rfl (W.r (X.bd (Value.agg #[Value.int .i64 (6), Value.int .i64 (0), Value.int .i64 (0), Value.bool false]) rfl (fun _ => by kernel_rfl)) rfl ?_)))
        replace HS := arq_Arq.close trivial HS
        obtain ⟨t47, A48, H⟩ := bind_s H
        refine W.e (Y.cl Tryz.func153 (arq_Arq_tell.calls A48 HS.j1)) rfl ?_
        rintro _ w ⟨rfl, HS⟩
        replace HS := HS.o1
        refine W.nil (At.blockEnd ?_)
        exact At.meet t47 trivial ⟨HS, H⟩
       ·replace H := ite_f c46 H
        refine V.condF (sb (decide_eq_false c46)) (V.skip (At.blockEnd ?_))
        replace HS := arq_Arq.close trivial HS
        exact At.meet a0 trivial ⟨HS, H⟩
 ·rintro x10 w ⟨HS, H⟩
  unfold arq_Arq_asked.j0 at H
  refine V.seq (V.ret (At.thenRet (At.scopeRet ?_)))
  cases H
  exact At.ret0 rfl ⟨_, rfl, rfl, HS⟩
mutual
def backlog_Log_Next.j0 (a0 : backlog_Log) (x2 : Bool) : Option (Int × List Int × Bool × backlog_Log) := (if x2 = true then some (0, ([] : List Int), false, a0) else (if 0 ≤ a0.out ∧ a0.out < (a0.l.length : Int) then ((backlog_Log_number.f ({ a0 with out := w64 (a0.out + 1) } : backlog_Log) a0.out).bind fun t16 => ((slices_Clone_Sbytebyte.f (a0.l.getD a0.out.toNat [])).bind fun t18 => some (t16, t18, true, ({ a0 with out := w64 (a0.out + 1) } : backlog_Log)))) else none))
end
def backlog_Log_Next.f (a0 : backlog_Log) : Option (Int × List Int × Bool × backlog_Log) := (if a0.out = (a0.l.length : Int) then (backlog_Log_Next.j0 a0 true) else (backlog_Log_Next.j0 a0 (decide (a0.out = a0.window))))
theorem backlog_Log_Next.calls {a0 : backlog_Log} {R : As} {w0 w : World} {b0 : Nat} {r : Int × List Int × Bool × backlog_Log} (H : backlog_Log_Next.f a0 = some r) (HS : Sep.St [backlog_Log.at b0 a0, R] w0 w)  : Calls Tryz.prog 202 #[Value.pointer (some ⟨b0, 0, none⟩)] w (Ret fun u w => ∃ (aq1 : Option Addr) (cq1 : Nat), u = Value.tuple #[Value.int .i64 r.1, Value.slice aq1 r.2.1.length cq1, Value.bool r.2.2.1] ∧ Sep.St [row 5 1 (.slice aq1 r.2.1.length cq1) r.2.1.length (r.2.1.map (Value.int .u8)), backlog_Log.at b0 r.2.2.2, R] w0 w) := by
 unfold backlog_Log_Next.f at H
 refine calls_enter Tryz.func202 rfl rfl ?_
 have H : _ = some r := H
 refine V.seq (V.region (W.as rfl (W.as rfl (W.as rfl (W.nx (V.seq (V.meet (σ := Bool) (fun st w => match st with | x2 => Sep.St [backlog_Log.at b0 a0, R] w0 w ∧ backlog_Log_Next.j0 a0 x2 = some r) (fun st => match st with | x2 => [(0, Value.pointer (some ⟨b0, 0, none⟩)), (26, Value.bool x2)]) ?_ ?_)))))))
 ·obtain ⟨a5_20, c5_20, d5_20, hi21, HS⟩ := backlog_Log.open HS
  by_cases c22 : a0.out = (a0.l.length : Int)
  ·replace H := ite_t c22 H
   refine V.dr [] [] [(6, Value.pointer (some ⟨b0, 0, none⟩)), (7, Value.pointer (some ⟨b0, 0, none⟩)), (8, Value.pointer (some ⟨b0, 0 + 4, none⟩)), (9, Value.int .i64 a0.out), (10, Value.pointer (some ⟨b0, 0, none⟩)), (11, Value.pointer (some ⟨b0, 0, none⟩)), (12, Value.pointer (some ⟨b0, 0 + 5, none⟩)), (13, Value.slice a5_20 a0.l.length c5_20), (14, Value.int .i64 (a0.l.length : Int)), (15, Value.bool (decide (a0.out = (a0.l.length : Int)))), (16, Value.bool (decide (a0.out = (a0.l.length : Int)))), (17, undef), (18, undef), (19, undef), (20, undef), (21, undef), (22, undef), (23, undef), (24, undef), (25, undef), (26, Value.bool true)] mo HS ?_
   refine T.fn [(0, _), (26, _)] ⟨rfl, rfl, trivial⟩ ⟨.mv 0, .nc 6, .fa 7 fo194_4, .ld 8 0 Tryz.underlying3, .mv 0, .nc 10, .fa 11 fo194_5, .ld 12 0 Tryz.underlying37, .n1 13 rfl rfl (fun w HS => X.lenSl Tryz.underlying37 rfl), .n2 9 14 rfl rfl rfl (fun w HS => X.cmp (decide (a0.out = (a0.l.length : Int))) rfl rfl rfl rfl), .mv 15, .gp 10 false true 16 rfl rfl (Option.some.inj (sb (decide_eq_true c22))) rfl, .gp 10 false true 16 rfl rfl (Option.some.inj (sb (decide_eq_true c22))) rfl, .gp 10 false true 16 rfl rfl (Option.some.inj (sb (decide_eq_true c22))) rfl, .gp 10 false true 16 rfl rfl (Option.some.inj (sb (decide_eq_true c22))) rfl, .gp 10 false true 16 rfl rfl (Option.some.inj (sb (decide_eq_true c22))) rfl, .gp 10 false true 16 rfl rfl (Option.some.inj (sb (decide_eq_true c22))) rfl, .gp 10 false true 16 rfl rfl (Option.some.inj (sb (decide_eq_true c22))) rfl, .gp 10 false true 16 rfl rfl (Option.some.inj (sb (decide_eq_true c22))) rfl, .gp 10 false true 16 rfl rfl (Option.some.inj (sb (decide_eq_true c22))) rfl, .n2 16 25 rfl rfl rfl (fun w HS => X.pickT (sb (decide_eq_true c22)) rfl), trivial⟩ (fun w HS => ?_)
   replace HS := backlog_Log.close trivial HS
   exact At.meet true ⟨rfl, rfl, trivial⟩ ⟨HS, H⟩
  ·replace H := ite_f c22 H
   refine V.dr [] [] [(6, Value.pointer (some ⟨b0, 0, none⟩)), (7, Value.pointer (some ⟨b0, 0, none⟩)), (8, Value.pointer (some ⟨b0, 0 + 4, none⟩)), (9, Value.int .i64 a0.out), (10, Value.pointer (some ⟨b0, 0, none⟩)), (11, Value.pointer (some ⟨b0, 0, none⟩)), (12, Value.pointer (some ⟨b0, 0 + 5, none⟩)), (13, Value.slice a5_20 a0.l.length c5_20), (14, Value.int .i64 (a0.l.length : Int)), (15, Value.bool (decide (a0.out = (a0.l.length : Int)))), (16, Value.bool (decide (a0.out = (a0.l.length : Int)))), (17, Value.pointer (some ⟨b0, 0, none⟩)), (18, Value.pointer (some ⟨b0, 0, none⟩)), (19, Value.pointer (some ⟨b0, 0 + 4, none⟩)), (20, Value.int .i64 a0.out), (21, Value.pointer (some ⟨b0, 0, none⟩)), (22, Value.pointer (some ⟨b0, 0, none⟩)), (23, Value.pointer (some ⟨b0, 0 + 1, none⟩)), (24, Value.int .i64 a0.window), (25, Value.bool (decide (a0.out = a0.window))), (26, Value.bool (decide (a0.out = a0.window)))] mo HS ?_
   refine T.fn [(0, _), (26, _)] ⟨rfl, rfl, trivial⟩ ⟨.mv 0, .nc 6, .fa 7 fo194_4, .ld 8 0 Tryz.underlying3, .mv 0, .nc 10, .fa 11 fo194_5, .ld 12 0 Tryz.underlying37, .n1 13 rfl rfl (fun w HS => X.lenSl Tryz.underlying37 rfl), .n2 9 14 rfl rfl rfl (fun w HS => X.cmp (decide (a0.out = (a0.l.length : Int))) rfl rfl rfl rfl), .mv 15, .gw [(0, _), (16, _)] 10 false 16 ⟨rfl, rfl, trivial⟩ rfl (sb (decide_eq_false c22)) (fun w HS => X.move rfl), .gw [(17, _), (16, _)] 10 false 16 ⟨rfl, rfl, trivial⟩ rfl (sb (decide_eq_false c22)) (fun w HS => X.nilCheck rfl), .gw [(18, _), (16, _)] 10 false 16 ⟨rfl, rfl, trivial⟩ rfl (sb (decide_eq_false c22)) (fun w HS => X.fieldAddr 4 fo194_4 rfl), .gw [(19, _), (16, _)] 10 false 16 ⟨rfl, rfl, trivial⟩ rfl (sb (decide_eq_false c22)) (fun w HS => X.loadAt 0 HS rfl Tryz.underlying3 rfl rfl rfl), .gw [(0, _), (16, _)] 10 false 16 ⟨rfl, rfl, trivial⟩ rfl (sb (decide_eq_false c22)) (fun w HS => X.move rfl), .gw [(21, _), (16, _)] 10 false 16 ⟨rfl, rfl, trivial⟩ rfl (sb (decide_eq_false c22)) (fun w HS => X.nilCheck rfl), .gw [(22, _), (16, _)] 10 false 16 ⟨rfl, rfl, trivial⟩ rfl (sb (decide_eq_false c22)) (fun w HS => X.fieldAddr 1 fo194_1 rfl), .gw [(23, _), (16, _)] 10 false 16 ⟨rfl, rfl, trivial⟩ rfl (sb (decide_eq_false c22)) (fun w HS => X.loadAt 0 HS rfl Tryz.underlying3 rfl rfl rfl), .gw [(20, _), (24, _), (16, _)] 10 false 16 ⟨rfl, rfl, rfl, trivial⟩ rfl (sb (decide_eq_false c22)) (fun w HS => X.cmp (decide (a0.out = a0.window)) rfl rfl rfl rfl), .n2 16 25 rfl rfl rfl (fun w HS => X.pickF (sb (decide_eq_false c22)) rfl), trivial⟩ (fun w HS => ?_)
   replace HS := backlog_Log.close trivial HS
   exact At.meet (decide (a0.out = a0.window)) ⟨rfl, rfl, trivial⟩ ⟨HS, H⟩
 ·rintro x2 w ⟨HS, H⟩
  unfold backlog_Log_Next.j0 at H
  by_cases c4 : x2 = true
  ·replace H := ite_t c4 H
   refine V.condT (sb c4) (V.seq (V.region (W.as rfl (W.as rfl (W.as rfl (W.nx (V.ret (At.thenRet ?_))))))))
   replace HS := row_nilF (Value.int .u8) 5 1 HS
   cases H
   exact At.ret3 rfl rfl rfl rfl ⟨_, rfl, none, 0, rfl, HS⟩
  ·replace H := ite_f c4 H
   refine V.condF (sb (b_f c4)) (V.skip (At.next (V.seq (V.region (W.mv rfl (W.nc rfl ?_))))))
   obtain ⟨a5_5, c5_5, d5_5, hi6, HS⟩ := backlog_Log.open HS
   refine W.fa fo194_4 rfl (W.ld 0 HS Tryz.underlying3 rfl rfl rfl rfl (W.as rfl (W.nx (V.seq (V.region (W.mv rfl (W.nc rfl (W.fa fo194_4 rfl (W.ld 0 HS Tryz.underlying3 rfl rfl rfl rfl (W.r (X.add rfl rfl) rfl (W.nc rfl (W.fa fo194_4 rfl (W.st 0 4 HS inf3 rfl rfl rfl rfl rfl rfl fun w HS => ?_)))))))))))))
   refine W.nx (V.seq ?_)
   obtain ⟨c7, H⟩ := ite_n H
   obtain ⟨eb8, eo9, hh⟩ := (rdC.at 1 row_rd HS rfl).some (by decide) c7.1 c7.2; subst hh
   obtain ⟨ec10, hc11, HS⟩ := St.tie_at 2 HS rfl ([]) c7.1 c7.2
   obtain ⟨ea12, em13, he15, HN⟩ := St.sl_openF (Value.int .u8) (fun t => tie_int t) HS; clear HS; subst he15; have HS := HN
   refine V.dr [2, 10] [11, 12, 13] [(38, Value.pointer (some ⟨b0, 0, none⟩)), (39, Value.int .i64 a0.out), (41, Value.pointer (some ⟨b0, 0, none⟩)), (42, Value.pointer (some ⟨b0, 0, none⟩)), (43, Value.pointer (some ⟨b0, 0 + 5, none⟩)), (44, Value.slice (some ⟨eb8, eo9, none⟩) a0.l.length c5_5), (45, Value.int .i64 a0.out), (46, Value.pointer (some ⟨eb8, eo9 + a0.out.toNat * 1, none⟩)), (47, Value.slice ea12 (a0.l.getD a0.out.toNat []).length em13)] mo HS ?_
   refine T.ev [(38, _), (39, _)] [11, 12, 13] [0, 1] ⟨rfl, rfl, trivial⟩ ⟨.mv 0, .mv 5, .mv 0, .nc 41, .fa 42 fo194_5, .ld 43 1 Tryz.underlying37, .mv 5, .n2 44 45 rfl rfl rfl (fun w HS => X.indexSl Tryz.underlying37 inf32 rfl rfl c7.1 c7.2), .n1 46 rfl rfl (fun w HS => X.load Tryz.underlying32 rfl rfl ((rdC.at 2 row_rd HS rfl).cellEl0 (hc11 0 _ rfl))), trivial⟩ rfl (fun w HS => ?_)
   obtain ⟨t16, A17, H⟩ := bind_s H
   replace HS := HS.pm [1, 2, 3, 0, 4]
   refine ⟨_, Y.cl Tryz.func225 (backlog_Log_number.calls A17 HS.j3), ?_⟩
   rintro _ w ⟨rfl, HS⟩
   replace HS := HS.o3
   refine T.nw HS ?_
   refine T.ev [(47, _)] [] [3, 4, 5, 6, 7, 8, 9] ⟨rfl, trivial⟩ ⟨.mv 0, .nc 41, .fa 42 fo194_5, .ld 43 0 Tryz.underlying37, .mv 5, .n2 44 45 rfl rfl rfl (fun w HS => X.indexSl Tryz.underlying37 inf32 rfl rfl c7.1 c7.2), .n1 46 rfl rfl (fun w HS => X.load Tryz.underlying32 rfl rfl ((rdC.at 1 row_rd HS rfl).cellEl0 (hc11 0 _ rfl))), trivial⟩ rfl (fun w HS => ?_)
   obtain ⟨t18, A19, H⟩ := bind_s H
   refine ⟨_, Y.cl Tryz.func130 (slices_Clone_Sbytebyte.calls A19 HS.j0 (rdC.part 3 fsl.rd rfl)), ?_⟩
   rintro _ w ⟨at18_0, ct18_0, rfl, HS⟩
   replace HS := HS.o1
   refine T.nm [(48, Value.slice at18_0 t18.length ct18_0), (2, Value.int .i64 t16), (3, Value.slice at18_0 t18.length ct18_0), (4, Value.bool true)] HS ⟨.inl ⟨rfl, rfl⟩, ⟨.inr ⟨by decide, rfl⟩, ⟨.inr ⟨by decide, rfl⟩, ⟨.inr ⟨by decide, rfl⟩, trivial⟩⟩⟩⟩ ?_
   refine T.fn [(2, _), (3, _), (4, _)] ⟨rfl, rfl, rfl, trivial⟩ ⟨.as 40, .as 48, .n0 (fun w HS => X.assign rfl), trivial⟩ (fun w HS => ?_)
   refine At.next (V.ret ?_)
   replace HS := HS.pm [1, 2, 3, 0, 4, 5]
   replace HS := backlog_Log.close trivial HS
   replace HS := HS.pk [1, 0, 3] [2]
   cases H
   exact At.ret3 rfl rfl rfl rfl ⟨_, rfl, at18_0, ct18_0, rfl, HS⟩
mutual
def arq_Arq_pump.l0 : Nat → Int → Bool → arq_Arq → (List Int) → Option arq_Arq
 | 0, _, _, _, _ => none
 | k + 1, x8, x9, x10, x13 => (if x9 = true then ((arq_Arq_message.f k x10 x8 x13 false).bind fun t25 => ((clock_Set_Left.f t25.timers 0).bind fun t31 => (if t31.2 = true then (arq_Arq_pump.j1 (arq_Arq_pump.l0 k) t25) else ((arq_Arq_start.f t25).bind fun t34 => (arq_Arq_pump.j1 (arq_Arq_pump.l0 k) t34))))) else some x10)
def arq_Arq_pump.j1 (Lq19 : Int → Bool → arq_Arq → (List Int) → Option arq_Arq) (x17 : arq_Arq) : Option arq_Arq := ((backlog_Log_Next.f x17.log).bind fun t23 => (Lq19 t23.1 t23.2.2.1 ({ x17 with log := t23.2.2.2 } : arq_Arq) t23.2.1))
end
def arq_Arq_pump.f (k : Nat) (a0 : arq_Arq) : Option arq_Arq := (if a0.state = 2 then ((backlog_Log_Next.f a0.log).bind fun t5 => (arq_Arq_pump.l0 k t5.1 t5.2.2.1 ({ a0 with log := t5.2.2.2 } : arq_Arq) t5.2.1)) else some a0)
theorem arq_Arq_pump.calls {k : Nat} {a0 : arq_Arq} {R : As} {w0 w : World} {b0 : Nat} {r : arq_Arq} (H : arq_Arq_pump.f k a0 = some r) (HS : Sep.St [arq_Arq.at b0 a0, R] w0 w)  : Calls Tryz.prog 146 #[Value.pointer (some ⟨b0, 0, none⟩)] w (Ret fun u w => u = Value.tuple #[] ∧ Sep.St [arq_Arq.at b0 r, R] w0 w) := by
 unfold arq_Arq_pump.f at H
 refine calls_enter Tryz.func146 rfl rfl ?_
 have H : _ = some r := H
 refine V.seq (V.seq (V.region (W.mv rfl (W.nc rfl ?_))))
 obtain ⟨b8_2, b9_2, b10_2, a11_2, c11_2, d11_2, a12_2, c12_2, hi3, HS⟩ := arq_Arq.open HS
 refine W.fa fo136_4 rfl (W.ld 0 HS Tryz.underlying3 rfl rfl rfl rfl (W.r (X.cmp (!(decide (a0.state = 2))) rfl rfl rfl rfl) rfl (W.nx ?_)))
 by_cases c4 : a0.state = 2
 ·replace H := ite_t c4 H
  refine V.condF (sb (n_t (decide_eq_true c4))) (V.skip (At.next (V.seq (V.region (W.mv rfl (W.nc rfl (W.fa fo136_8 rfl (W.ld 0 HS Tryz.underlying129 rfl rfl rfl rfl ?_))))))))
  obtain ⟨t5, A6, H⟩ := bind_s H
  replace HS := HS.pm [1, 0, 2, 3, 4, 5, 6, 7]
  refine W.e (Y.cl Tryz.func202 (backlog_Log_Next.calls A6 HS.j1)) rfl ?_
  rintro _ w ⟨at5_1, ct5_1, rfl, HS⟩
  replace HS := HS.o2
  refine W.mv rfl (W.r (X.extract rfl rfl) rfl (W.r (X.extract rfl rfl) rfl (W.r (X.extract rfl rfl) rfl (W.as rfl (W.as rfl (W.as rfl (W.nx (V.block ?_))))))))
  replace HS := HS.pm [2, 1, 3, 4, 5, 6, 7, 0, 8]
  replace HS := arq_Arq.close trivial HS
  refine V.loop (σ := Int × Bool × arq_Arq × Option Addr × Nat × List Int) (fun kq (st : Int × Bool × arq_Arq × Option Addr × Nat × List Int) w => match st with | (x8, x9, x10, ra11, rc12, x13) => Sep.St [arq_Arq.at b0 x10, row 5 1 (.slice ra11 x13.length rc12) x13.length (x13.map (Value.int .u8)), R] w0 w ∧ arq_Arq_pump.l0 kq x8 x9 x10 x13 = some r ∧ kq ≤ k) (fun st => match st with | (x8, x9, x10, ra11, rc12, x13) => [(0, Value.pointer (some ⟨b0, 0, none⟩)), (2, Value.int .i64 x8), (3, Value.slice ra11 x13.length rc12), (4, Value.bool x9)]) k (t5.1, t5.2.2.1, ({ a0 with log := t5.2.2.2 } : arq_Arq), at5_1, ct5_1, t5.2.1) ⟨rfl, rfl, rfl, rfl, trivial⟩ ⟨HS, H, Nat.le_refl _⟩ ?_
  rintro kq14 ⟨x8, x9, x10, ra11, rc12, x13⟩ w ⟨HS, H, hk15⟩
  cases kq14 with
  | zero => exact absurd H (by simp [arq_Arq_pump.l0])
  | succ kq14 =>
   simp only [arq_Arq_pump.l0] at H
   refine V.seq (V.seq (V.region (W.mv rfl (W.nx ?_))))
   by_cases c16 : x9 = true
   ·replace H := ite_t c16 H
    refine V.condT (sb c16) (V.skip (At.next (V.meet (σ := arq_Arq) (fun st w => match st with | x17 => Sep.St [arq_Arq.at b0 x17, R] w0 w ∧ ∃ kl20, kl20 ≤ kq14 ∧ arq_Arq_pump.j1 (arq_Arq_pump.l0 kl20) x17 = some r) (fun st => match st with | x17 => [(0, Value.pointer (some ⟨b0, 0, none⟩))]) ?_ ?_)))
    ·refine V.block (V.seq (V.region (W.mv rfl (W.mv rfl (W.mv rfl ?_)))))
     replace HS := HS.fr 1
     replace HS := St.row_freeze HS
     replace HS := HS.more 0 rfl (fun _ t => t) fsl.pers
     obtain ⟨t25, A26, H⟩ := bind_s H
     replace HS := HS.pm [2, 0, 1, 3]
     refine W.e (Y.cl Tryz.func203 (arq_Arq_message.calls A26 HS.j2)) rfl ?_
     rintro _ w ⟨rfl, HS⟩
     replace HS := HS.o1
     refine W.nx (V.seq (V.region (W.mv rfl (W.nc rfl ?_))))
     obtain ⟨b8_27, b9_27, b10_27, a11_27, c11_27, d11_27, a12_27, c12_27, hi28, HS⟩ := arq_Arq.open HS
     refine W.fa fo136_10 rfl (W.ld 0 HS Tryz.underlying133 rfl rfl rfl rfl ?_)
     replace HS := HS.fr 3
     obtain ⟨hi30, HS⟩ := clock_Set.open HS
     obtain ⟨t31, A32, H⟩ := bind_s H
     refine W.e (Y.cl Tryz.func124 (clock_Set_Left.calls A32 HS.j1 (by first | exact hi30 | (simp only [List.length_set]; exact hi30)))) rfl ?_
     rintro _ w ⟨rfl, HS⟩
     replace HS := HS.o1
     refine W.mv rfl (W.r (X.extract rfl rfl) rfl (W.r (X.extract rfl rfl) rfl (W.as rfl (W.as rfl (W.nx (V.seq (V.region (W.mv rfl (W.r (X.not rfl) rfl (W.nx ?_))))))))))
     by_cases c33 : t31.2 = true
     ·replace H := ite_t c33 H
      refine V.condF (sb (n_t c33)) (V.skip (At.blockEnd ?_))
      replace HS := clock_Set.close (by first | exact hi30 | (simp only [List.length_set]; exact hi30)) HS
      replace HS := HS.pm [1, 2, 3, 0, 4, 5, 6, 7, 8]
      replace HS := arq_Arq.close trivial HS
      replace HS := HS.pk [0, 2] [1]
      exact At.meet t25 ⟨rfl, trivial⟩ ⟨HS, kq14, by omega, H⟩
     ·replace H := ite_f c33 H
      refine V.condT (sb (n_f (b_f c33))) (V.region (W.mv rfl ?_))
      replace HS := clock_Set.close (by first | exact hi30 | (simp only [List.length_set]; exact hi30)) HS
      replace HS := HS.pm [1, 2, 3, 0, 4, 5, 6, 7, 8]
      replace HS := arq_Arq.close trivial HS
      obtain ⟨t34, A35, H⟩ := bind_s H
      refine W.e (Y.cl Tryz.func154 (arq_Arq_start.calls A35 HS.j1)) rfl ?_
      rintro _ w ⟨rfl, HS⟩
      replace HS := HS.o1
      refine W.nil (At.blockEnd ?_)
      replace HS := HS.pk [0, 2] [1]
      exact At.meet t34 ⟨rfl, trivial⟩ ⟨HS, kq14, by omega, H⟩
    ·rintro x17 w ⟨HS, kl20, hkkl20, H⟩
     unfold arq_Arq_pump.j1 at H
     refine V.region (W.mv rfl (W.nc rfl ?_))
     obtain ⟨b8_21, b9_21, b10_21, a11_21, c11_21, d11_21, a12_21, c12_21, hi22, HS⟩ := arq_Arq.open HS
     refine W.fa fo136_8 rfl (W.ld 0 HS Tryz.underlying129 rfl rfl rfl rfl ?_)
     obtain ⟨t23, A24, H⟩ := bind_s H
     replace HS := HS.pm [1, 0, 2, 3, 4, 5, 6, 7]
     refine W.e (Y.cl Tryz.func202 (backlog_Log_Next.calls A24 HS.j1)) rfl ?_
     rintro _ w ⟨at23_1, ct23_1, rfl, HS⟩
     replace HS := HS.o2
     refine W.mv rfl (W.r (X.extract rfl rfl) rfl (W.r (X.extract rfl rfl) rfl (W.r (X.extract rfl rfl) rfl (W.as rfl (W.as rfl (W.as rfl (W.nil ?_)))))))
     replace HS := HS.pm [2, 1, 3, 4, 5, 6, 7, 0, 8]
     replace HS := arq_Arq.close trivial HS
     exact At.round kl20 (by omega) (t23.1, t23.2.2.1, ({ x17 with log := t23.2.2.2 } : arq_Arq), at23_1, ct23_1, t23.2.1) ⟨rfl, rfl, rfl, rfl, trivial⟩ ⟨HS, H, by omega⟩
   ·replace H := ite_f c16 H
    refine V.condF (sb (b_f c16)) (V.exit (At.thenExit (At.thenExit (At.blockExit ?_))))
    replace HS := HS.pk [0, 2] [1]
    cases H
    exact At.end0 rfl ⟨_, rfl, rfl, HS⟩
 ·replace H := ite_f c4 H
  refine V.condT (sb (n_f (decide_eq_false c4))) (V.ret (At.thenRet ?_))
  replace HS := arq_Arq.close trivial HS
  cases H
  exact At.ret0 rfl ⟨_, rfl, rfl, HS⟩
def arq_Arq_accepted.f (k : Nat) (a0 : arq_Arq) : Option arq_Arq := (if a0.state = 1 then ((clock_Set_Stop.f a0.timers 0).bind fun t4 => (if (a0.inds.length : Int) + ([1] : List Int).length ≤ 1099511627776 then ((arq_Arq_pump.f k ({ a0 with state := 2, tries := 0, timers := t4.2, inds := a0.inds ++ ([1] : List Int) } : arq_Arq)).bind fun t12 => some t12) else none)) else (if a0.state = 3 then ((arq_Arq_end.f a0).bind fun t15 => some t15) else some a0))
theorem arq_Arq_accepted.calls {k : Nat} {a0 : arq_Arq} {R : As} {w0 w : World} {b0 : Nat} {r : arq_Arq} (H : arq_Arq_accepted.f k a0 = some r) (HS : Sep.St [arq_Arq.at b0 a0, R] w0 w)  : Calls Tryz.prog 196 #[Value.pointer (some ⟨b0, 0, none⟩)] w (Ret fun u w => u = Value.tuple #[] ∧ Sep.St [arq_Arq.at b0 r, R] w0 w) := by
 unfold arq_Arq_accepted.f at H
 refine calls_enter Tryz.func196 rfl rfl ?_
 have H : _ = some r := H
 refine V.seq (V.region (W.mv rfl (W.nc rfl ?_)))
 obtain ⟨b8_1, b9_1, b10_1, a11_1, c11_1, d11_1, a12_1, c12_1, hi2, HS⟩ := arq_Arq.open HS
 refine W.fa fo136_4 rfl (W.ld 0 HS Tryz.underlying3 rfl rfl rfl rfl (W.nx (V.block (V.seq (V.region (W.r (X.cmp (decide (a0.state = 1)) rfl rfl rfl rfl) rfl (W.as rfl (W.nx ?_))))))))
 by_cases c3 : a0.state = 1
 ·replace H := ite_t c3 H
  refine V.condT (sb (decide_eq_true c3)) (V.seq (V.region (W.mv rfl (W.mv rfl (W.nc rfl (W.fa fo136_4 rfl (W.st 0 4 HS inf3 rfl rfl rfl rfl rfl rfl fun w HS => ?_)))))))
  refine W.nc rfl (W.fa fo136_6 rfl (W.st 0 6 HS inf3 rfl rfl rfl rfl rfl rfl fun w HS => ?_))
  refine W.nx (V.seq (V.region (W.mv rfl (W.nc rfl (W.fa fo136_10 rfl (W.ld 0 HS Tryz.underlying133 rfl rfl rfl rfl ?_))))))
  obtain ⟨t4, A5, H⟩ := bind_s H
  replace HS := HS.pm [3, 0, 1, 2, 4, 5, 6, 7]
  refine W.e (Y.cl Tryz.func211 (clock_Set_Stop.calls A5 HS.j1)) rfl ?_
  rintro _ w ⟨rfl, HS⟩
  replace HS := HS.o1
  refine W.nx (V.seq (V.region (W.mv rfl (W.mv rfl (W.nc rfl (W.fa fo136_12 rfl (W.ld 1 HS Tryz.underlying48 rfl rfl rfl rfl (W.e (Y.ls (e := 3) (Value.int .i64) ([1] : List Int) HS rfl rfl (fun _ => by kernel_rfl)) rfl ?_))))))))
  rintro _ w ⟨lb8, rfl, HS⟩
  obtain ⟨c9, H⟩ := ite_n H
  refine W.e (Y.appF (Value.int .i64) (fun _ => rfl) 7 Tryz.underlying48 ap3 rfl HS rfl rfl rfl (rdC.at 0 row_rd HS rfl) (by omega) (by omega)) rfl ?_
  rintro _ w ⟨ra10, rc11, rfl, HS⟩
  refine W.nc rfl (W.fa fo136_12 rfl (W.st 2 12 HS inf48 rfl rfl rfl rfl rfl rfl fun w HS => ?_))
  refine W.nx (V.region (W.mv rfl ?_))
  replace HS := HS.pm [2, 3, 4, 1, 5, 6, 7, 0, 8]
  replace HS := arq_Arq.close trivial HS
  obtain ⟨t12, A13, H⟩ := bind_s H
  refine W.e (Y.cl Tryz.func146 (arq_Arq_pump.calls A13 HS.j1)) rfl ?_
  rintro _ w ⟨rfl, HS⟩
  replace HS := HS.o1
  refine W.nil (At.blockEnd ?_)
  replace HS := HS.pk [0, 2] [1]
  cases H
  exact At.end0 rfl ⟨_, rfl, rfl, HS⟩
 ·replace H := ite_f c3 H
  refine V.condF (sb (decide_eq_false c3)) (V.seq (V.region (W.r (X.cmp (decide (a0.state = 3)) rfl rfl rfl rfl) rfl (W.as rfl (W.nx ?_)))))
  by_cases c14 : a0.state = 3
  ·replace H := ite_t c14 H
   refine V.condT (sb (decide_eq_true c14)) (V.region (W.mv rfl ?_))
   replace HS := arq_Arq.close trivial HS
   obtain ⟨t15, A16, H⟩ := bind_s H
   refine W.e (Y.cl Tryz.func186 (arq_Arq_end.calls A16 HS.j1)) rfl ?_
   rintro _ w ⟨rfl, HS⟩
   replace HS := HS.o1
   refine W.nil (At.blockEnd ?_)
   cases H
   exact At.end0 rfl ⟨_, rfl, rfl, HS⟩
  ·replace H := ite_f c14 H
   refine V.condF (sb (decide_eq_false c14)) (V.skip (At.blockEnd ?_))
   replace HS := arq_Arq.close trivial HS
   cases H
   exact At.end0 rfl ⟨_, rfl, rfl, HS⟩
mutual
def arq_Arq_closed.j0 (k : Nat) (a0 : arq_Arq) (a1 : Int) (x2 : Bool) (x3 : Bool) : Option arq_Arq := (if x3 = true then ((arq_Arq_put.f k a0 a1 ({ Kind := 6, Ns := 0, Nr := 0, Poll := false } : api_Ctl) ([] : List Int)).bind fun t6 => some t6) else ((arq_Arq_tell.f k a0 ({ Kind := 4, Ns := 0, Nr := 0, Poll := x2 } : api_Ctl)).bind fun t8 => ((arq_Arq_end.f t8).bind fun t10 => some t10)))
end
def arq_Arq_closed.f (k : Nat) (a0 : arq_Arq) (a1 : Int) (a2 : Bool) : Option arq_Arq := (if a1 = a0.tag then (if a0.state = 2 then (arq_Arq_closed.j0 k a0 a1 a2 false) else (arq_Arq_closed.j0 k a0 a1 a2 (!(decide (a0.state = 3))))) else (arq_Arq_closed.j0 k a0 a1 a2 true))
theorem arq_Arq_closed.calls {k : Nat} {a0 : arq_Arq} {a1 : Int} {a2 : Bool} {R : As} {w0 w : World} {b0 : Nat} {r : arq_Arq} (H : arq_Arq_closed.f k a0 a1 a2 = some r) (HS : Sep.St [arq_Arq.at b0 a0, R] w0 w)  : Calls Tryz.prog 197 #[Value.pointer (some ⟨b0, 0, none⟩), Value.int .i64 a1, Value.bool a2] w (Ret fun u w => u = Value.tuple #[] ∧ Sep.St [arq_Arq.at b0 r, R] w0 w) := by
 unfold arq_Arq_closed.f at H
 refine calls_enter Tryz.func197 rfl rfl ?_
 have H : _ = some r := H
 refine V.seq (V.meet (σ := Bool × Bool) (fun st w => match st with | (x2, x3) => Sep.St [arq_Arq.at b0 a0, R] w0 w ∧ ∃ kf4, kf4 ≤ k ∧ arq_Arq_closed.j0 kf4 a0 a1 x2 x3 = some r) (fun st => match st with | (x2, x3) => [(0, Value.pointer (some ⟨b0, 0, none⟩)), (1, Value.int .i64 a1), (2, Value.bool x2), (25, Value.bool x3)]) ?_ ?_)
 ·refine V.region (W.mv rfl (W.mv rfl (W.nc rfl ?_)))
  obtain ⟨b8_12, b9_12, b10_12, a11_12, c11_12, d11_12, a12_12, c12_12, hi13, HS⟩ := arq_Arq.open HS
  refine W.fa fo136_5 rfl (W.ld 0 HS Tryz.underlying3 rfl rfl rfl rfl (W.r (X.cmp (!(decide (a1 = a0.tag))) rfl rfl rfl rfl) rfl (W.mv rfl ?_)))
  by_cases c14 : a1 = a0.tag
  ·replace H := ite_t c14 H
   refine W.want 12 rfl (sb (n_t (decide_eq_true c14))) (W.mv rfl (W.want 12 rfl (sb (n_t (decide_eq_true c14))) (W.nc rfl (W.want 12 rfl (sb (n_t (decide_eq_true c14))) (W.fa fo136_4 rfl (W.want 12 rfl (sb (n_t (decide_eq_true c14))) (W.ld 0 HS Tryz.underlying3 rfl rfl rfl rfl (W.want 12 rfl (sb (n_t (decide_eq_true c14))) (W.r (X.cmp (!(decide (a0.state = 2))) rfl rfl rfl rfl) rfl (W.want 12 rfl (sb (n_t (decide_eq_true c14))) (W.mv rfl ?_)))))))))))
   by_cases c15 : a0.state = 2
   ·replace H := ite_t c15 H
    refine W.pass 18 rfl (sb (n_t (decide_eq_true c15))) rfl rfl (W.pass 18 rfl (sb (n_t (decide_eq_true c15))) rfl rfl (W.pass 18 rfl (sb (n_t (decide_eq_true c15))) rfl rfl (W.pass 18 rfl (sb (n_t (decide_eq_true c15))) rfl rfl (W.pass 18 rfl (sb (n_t (decide_eq_true c15))) rfl rfl (W.want 12 rfl (sb (n_t (decide_eq_true c14))) (W.r (X.pickF (sb (n_t (decide_eq_true c15))) rfl) rfl (W.r (X.pickF (sb (n_t (decide_eq_true c14))) rfl) rfl (W.nil ?_))))))))
    replace HS := arq_Arq.close trivial HS
    exact At.meet (a2, false) ⟨rfl, rfl, rfl, rfl, trivial⟩ ⟨HS, k, by omega, H⟩
   ·replace H := ite_f c15 H
    refine W.want 18 rfl (sb (n_f (decide_eq_false c15))) (W.mv rfl (W.want 18 rfl (sb (n_f (decide_eq_false c15))) (W.nc rfl (W.want 18 rfl (sb (n_f (decide_eq_false c15))) (W.fa fo136_4 rfl (W.want 18 rfl (sb (n_f (decide_eq_false c15))) (W.ld 0 HS Tryz.underlying3 rfl rfl rfl rfl (W.want 18 rfl (sb (n_f (decide_eq_false c15))) (W.r (X.cmp (!(decide (a0.state = 3))) rfl rfl rfl rfl) rfl (W.want 12 rfl (sb (n_t (decide_eq_true c14))) (W.r (X.pickT (sb (n_f (decide_eq_false c15))) rfl) rfl (W.r (X.pickF (sb (n_t (decide_eq_true c14))) rfl) rfl (W.nil ?_)))))))))))))
    replace HS := arq_Arq.close trivial HS
    exact At.meet (a2, !(decide (a0.state = 3))) ⟨rfl, rfl, rfl, rfl, trivial⟩ ⟨HS, k, by omega, H⟩
  ·replace H := ite_f c14 H
   refine W.pass 12 rfl (sb (n_f (decide_eq_false c14))) rfl rfl (W.pass 12 rfl (sb (n_f (decide_eq_false c14))) rfl rfl (W.pass 12 rfl (sb (n_f (decide_eq_false c14))) rfl rfl (W.pass 12 rfl (sb (n_f (decide_eq_false c14))) rfl rfl (W.pass 12 rfl (sb (n_f (decide_eq_false c14))) rfl rfl (W.pass 12 rfl (sb (n_f (decide_eq_false c14))) rfl rfl (W.passU 18 rfl rfl rfl (W.passU 18 rfl rfl rfl (W.passU 18 rfl rfl rfl (W.passU 18 rfl rfl rfl (W.passU 18 rfl rfl rfl (W.pass 12 rfl (sb (n_f (decide_eq_false c14))) rfl rfl (W.r (X.pickT (sb (n_f (decide_eq_false c14))) rfl) rfl (W.nil ?_)))))))))))))
   replace HS := arq_Arq.close trivial HS
   exact At.meet (a2, true) ⟨rfl, rfl, rfl, rfl, trivial⟩ ⟨HS, k, by omega, H⟩
 ·rintro ⟨x2, x3⟩ w ⟨HS, kf4, hkkf4, H⟩
  unfold arq_Arq_closed.j0 at H
  by_cases c5 : x3 = true
  ·replace H := ite_t c5 H
   refine V.condT (sb c5) (V.seq (V.region (W.mv rfl (W.mv rfl (W.r (X.bd (Value.agg #[Value.int .i64 (6), Value.int .i64 (0), Value.int .i64 (0), Value.bool false]) rfl (fun _ => by kernel_rfl)) rfl ?_)))))
   replace HS := row_nilF (Value.int .u8) 5 1 HS
   replace HS := St.row_freeze HS
   replace HS := HS.more 0 rfl (fun _ t => t) fsl.pers
   obtain ⟨t6, A7, H⟩ := bind_s H
   replace HS := HS.pm [2, 0, 1, 3]
   refine W.e (Y.cl Tryz.func206 (arq_Arq_put.calls A7 HS.j2)) rfl ?_
   rintro _ w ⟨rfl, HS⟩
   replace HS := HS.o1
   refine W.nx (V.ret (At.thenRet ?_))
   replace HS := HS.pk [0, 2] [1]
   cases H
   exact At.ret0 rfl ⟨_, rfl, rfl, HS⟩
  ·replace H := ite_f c5 H
   refine V.condF (sb (b_f c5)) (V.skip (At.next (V.seq (V.region (W.mv rfl (W.mv rfl (W.r (X.bd (Value.agg #[Value.int .i64 (4), Value.int .i64 (0), Value.int .i64 (0), Value.bool x2]) rfl (fun _ => by kernel_rfl)) rfl ?_)))))))
   obtain ⟨t8, A9, H⟩ := bind_s H
   refine W.e (Y.cl Tryz.func153 (arq_Arq_tell.calls A9 HS.j1)) rfl ?_
   rintro _ w ⟨rfl, HS⟩
   replace HS := HS.o1
   refine W.nx (V.region (W.mv rfl ?_))
   obtain ⟨t10, A11, H⟩ := bind_s H
   refine W.e (Y.cl Tryz.func186 (arq_Arq_end.calls A11 HS.j1)) rfl ?_
   rintro _ w ⟨rfl, HS⟩
   replace HS := HS.o1
   refine W.nil ?_
   cases H
   exact At.end0 rfl ⟨_, rfl, rfl, HS⟩
mutual
def arq_Arq_refused.j1 (a0 : arq_Arq) (a1 : Int) (x7 : Bool) : Option arq_Arq := (if x7 = true then ((arq_Arq_end.f ({ a0 with tag := a1 } : arq_Arq)).bind fun t12 => some t12) else some a0)
def arq_Arq_refused.j0 (a0 : arq_Arq) (a1 : Int) (x2 : Bool) : Option arq_Arq := (if x2 = true then ((arq_Arq_end.f a0).bind fun t5 => some t5) else (if a0.state = 1 then ((arq_Arq_ahead.f a0 a1).bind fun t17 => (arq_Arq_refused.j1 a0 a1 t17)) else (arq_Arq_refused.j1 a0 a1 false)))
end
def arq_Arq_refused.f (a0 : arq_Arq) (a1 : Int) : Option arq_Arq := (if a1 = a0.tag then (arq_Arq_refused.j0 a0 a1 (!(decide (a0.state = 0)))) else (arq_Arq_refused.j0 a0 a1 false))
theorem arq_Arq_refused.calls {a0 : arq_Arq} {a1 : Int} {R : As} {w0 w : World} {b0 : Nat} {r : arq_Arq} (H : arq_Arq_refused.f a0 a1 = some r) (HS : Sep.St [arq_Arq.at b0 a0, R] w0 w)  : Calls Tryz.prog 198 #[Value.pointer (some ⟨b0, 0, none⟩), Value.int .i64 a1] w (Ret fun u w => u = Value.tuple #[] ∧ Sep.St [arq_Arq.at b0 r, R] w0 w) := by
 unfold arq_Arq_refused.f at H
 refine calls_enter Tryz.func198 rfl rfl ?_
 have H : _ = some r := H
 refine V.block (V.meet (σ := Bool) (fun st w => match st with | x2 => Sep.St [arq_Arq.at b0 a0, R] w0 w ∧ arq_Arq_refused.j0 a0 a1 x2 = some r) (fun st => match st with | x2 => [(0, Value.pointer (some ⟨b0, 0, none⟩)), (1, Value.int .i64 a1), (4, Value.bool x2)]) ?_ ?_)
 ·refine V.region (W.mv rfl (W.mv rfl (W.nc rfl ?_)))
  obtain ⟨b8_19, b9_19, b10_19, a11_19, c11_19, d11_19, a12_19, c12_19, hi20, HS⟩ := arq_Arq.open HS
  refine W.fa fo136_5 rfl (W.ld 0 HS Tryz.underlying3 rfl rfl rfl rfl (W.r (X.cmp (decide (a1 = a0.tag)) rfl rfl rfl rfl) rfl (W.mv rfl ?_)))
  by_cases c21 : a1 = a0.tag
  ·replace H := ite_t c21 H
   refine W.want 11 rfl (sb (decide_eq_true c21)) (W.mv rfl (W.want 11 rfl (sb (decide_eq_true c21)) (W.nc rfl (W.want 11 rfl (sb (decide_eq_true c21)) (W.fa fo136_4 rfl (W.want 11 rfl (sb (decide_eq_true c21)) (W.ld 0 HS Tryz.underlying3 rfl rfl rfl rfl (W.want 11 rfl (sb (decide_eq_true c21)) (W.r (X.cmp (!(decide (a0.state = 0))) rfl rfl rfl rfl) rfl (W.r (X.pickT (sb (decide_eq_true c21)) rfl) rfl (W.as rfl (W.nil ?_))))))))))))
   replace HS := arq_Arq.close trivial HS
   exact At.meet (!(decide (a0.state = 0))) ⟨rfl, rfl, rfl, trivial⟩ ⟨HS, H⟩
  ·replace H := ite_f c21 H
   refine W.pass 11 rfl (sb (decide_eq_false c21)) rfl rfl (W.pass 11 rfl (sb (decide_eq_false c21)) rfl rfl (W.pass 11 rfl (sb (decide_eq_false c21)) rfl rfl (W.pass 11 rfl (sb (decide_eq_false c21)) rfl rfl (W.pass 11 rfl (sb (decide_eq_false c21)) rfl rfl (W.r (X.pickF (sb (decide_eq_false c21)) rfl) rfl (W.as rfl (W.nil ?_)))))))
   replace HS := arq_Arq.close trivial HS
   exact At.meet false ⟨rfl, rfl, rfl, trivial⟩ ⟨HS, H⟩
 ·rintro x2 w ⟨HS, H⟩
  unfold arq_Arq_refused.j0 at H
  by_cases c4 : x2 = true
  ·replace H := ite_t c4 H
   refine V.condT (sb c4) (V.region (W.mv rfl ?_))
   obtain ⟨t5, A6, H⟩ := bind_s H
   refine W.e (Y.cl Tryz.func186 (arq_Arq_end.calls A6 HS.j1)) rfl ?_
   rintro _ w ⟨rfl, HS⟩
   replace HS := HS.o1
   refine W.nil (At.blockEnd ?_)
   cases H
   exact At.end0 rfl ⟨_, rfl, rfl, HS⟩
  ·replace H := ite_f c4 H
   refine V.condF (sb (b_f c4)) (V.meet (σ := Bool) (fun st w => match st with | x7 => Sep.St [arq_Arq.at b0 a0, R] w0 w ∧ arq_Arq_refused.j1 a0 a1 x7 = some r) (fun st => match st with | x7 => [(0, Value.pointer (some ⟨b0, 0, none⟩)), (1, Value.int .i64 a1), (20, Value.bool x7)]) ?_ ?_)
   ·refine V.region (W.mv rfl (W.nc rfl ?_))
    obtain ⟨b8_14, b9_14, b10_14, a11_14, c11_14, d11_14, a12_14, c12_14, hi15, HS⟩ := arq_Arq.open HS
    refine W.fa fo136_4 rfl (W.ld 0 HS Tryz.underlying3 rfl rfl rfl rfl (W.r (X.cmp (decide (a0.state = 1)) rfl rfl rfl rfl) rfl (W.mv rfl ?_)))
    by_cases c16 : a0.state = 1
    ·replace H := ite_t c16 H
     refine W.want 26 rfl (sb (decide_eq_true c16)) (W.mv rfl (W.want 26 rfl (sb (decide_eq_true c16)) (W.mv rfl (W.want 26 rfl (sb (decide_eq_true c16)) ?_))))
     obtain ⟨t17, A18, H⟩ := bind_s H
     refine W.e (Y.cl Tryz.func233 (arq_Arq_ahead.calls A18 HS.j7)) rfl ?_
     rintro _ w ⟨rfl, HS⟩
     replace HS := HS.o7
     refine W.r (X.pickT (sb (decide_eq_true c16)) rfl) rfl (W.as rfl (W.nil ?_))
     replace HS := arq_Arq.close trivial HS
     exact At.meet t17 ⟨rfl, rfl, rfl, trivial⟩ ⟨HS, H⟩
    ·replace H := ite_f c16 H
     refine W.pass 26 rfl (sb (decide_eq_false c16)) rfl rfl (W.pass 26 rfl (sb (decide_eq_false c16)) rfl rfl (W.pass 26 rfl (sb (decide_eq_false c16)) rfl rfl (W.r (X.pickF (sb (decide_eq_false c16)) rfl) rfl (W.as rfl (W.nil ?_)))))
     replace HS := arq_Arq.close trivial HS
     exact At.meet false ⟨rfl, rfl, rfl, trivial⟩ ⟨HS, H⟩
   ·rintro x7 w ⟨HS, H⟩
    unfold arq_Arq_refused.j1 at H
    by_cases c9 : x7 = true
    ·replace H := ite_t c9 H
     refine V.condT (sb c9) (V.seq (V.region (W.mv rfl (W.mv rfl (W.nc rfl ?_)))))
     obtain ⟨b8_10, b9_10, b10_10, a11_10, c11_10, d11_10, a12_10, c12_10, hi11, HS⟩ := arq_Arq.open HS
     refine W.fa fo136_5 rfl (W.st 0 5 HS inf3 rfl rfl rfl rfl rfl rfl fun w HS => ?_)
     refine W.nx (V.region (W.mv rfl ?_))
     replace HS := arq_Arq.close trivial HS
     obtain ⟨t12, A13, H⟩ := bind_s H
     refine W.e (Y.cl Tryz.func186 (arq_Arq_end.calls A13 HS.j1)) rfl ?_
     rintro _ w ⟨rfl, HS⟩
     replace HS := HS.o1
     refine W.nil (At.blockEnd ?_)
     cases H
     exact At.end0 rfl ⟨_, rfl, rfl, HS⟩
    ·replace H := ite_f c9 H
     refine V.condF (sb (b_f c9)) (V.skip (At.blockEnd ?_))
     cases H
     exact At.end0 rfl ⟨_, rfl, rfl, HS⟩
def slices_Delete_SSbyteSbyte.f (a0 : List (List Int)) (a1 : Int) (a2 : Int) : Option (List (List Int)) := (if 0 ≤ a1 ∧ a1 ≤ a2 ∧ a2 ≤ (a0.length : Int) then (if a1 = a2 then some a0 else (if 0 ≤ (0 : Int) ∧ (0 : Int) ≤ a1 ∧ a1 ≤ (a0.length : Int) then (if 0 ≤ a2 ∧ a2 ≤ (a0.length : Int) ∧ (a0.length : Int) ≤ (a0.length : Int) then some ((cut a0 (0 : Int) a1) ++ (cut a0 a2 (a0.length : Int))) else none) else none)) else none)
theorem slices_Delete_SSbyteSbyte.calls {a0 : List (List Int)} {a1 : Int} {a2 : Int} {R : As} {w0 w : World} {sa0 : Option Addr} {sc0 : Nat} {sd0 : List Value} {r : List (List Int)} (H : slices_Delete_SSbyteSbyte.f a0 a1 a2 = some r) (HS : Sep.St [row 32 1 (.slice sa0 a0.length sc0) a0.length sd0, tie (El.sl (El.int .u8)) sd0 a0, R] w0 w)  : Calls Tryz.prog 267 #[Value.slice sa0 a0.length sc0, Value.int .i64 a1, Value.int .i64 a2] w (Ret fun u w => ∃ (aq0 : Option Addr) (cq0 : Nat) (dq0 : List Value), u = Value.slice aq0 r.length cq0 ∧ Sep.St [row 32 1 (.slice aq0 r.length cq0) r.length dq0, tie (El.sl (El.int .u8)) dq0 r, R] w0 w) := by
 unfold slices_Delete_SSbyteSbyte.f at H
 refine calls_enter Tryz.func267 rfl rfl ?_
 have H : _ = some r := H
 refine V.seq (V.region (W.as rfl (W.nx (V.seq (V.region (W.mv rfl (W.mv rfl (W.mv rfl (W.mv rfl (W.r (X.lenSl Tryz.underlying37 rfl) rfl ?_))))))))))
 obtain ⟨c1, H⟩ := ite_n H
 refine W.r (X.sl3 Tryz.underlying37 inf32 rfl rfl rfl rfl c1 (Int.ofNat_le.2 (rdC.at 0 row_rd HS rfl).cap)) rfl (W.nx (V.seq (V.seq (V.region (W.mv rfl (W.mv rfl (W.r (X.cmp (decide (a1 = a2)) rfl rfl rfl rfl) rfl (W.nx ?_))))))))
 by_cases c4 : a1 = a2
 ·replace H := ite_t c4 H
  refine V.condT (sb (decide_eq_true c4)) (V.seq (V.region (W.mv rfl (W.as rfl (W.nx (V.ret (At.thenRet ?_)))))))
  cases H
  exact At.ret1 rfl rfl ⟨_, rfl, sa0, sc0, sd0, rfl, HS⟩
 ·replace H := ite_f c4 H
  refine V.condF (sb (decide_eq_false c4)) (V.skip (At.next (V.seq (V.region (W.mv rfl (W.r (X.lenSl Tryz.underlying37 rfl) rfl (W.as rfl (W.nx (V.seq ?_)))))))))
  obtain ⟨c5, H⟩ := ite_n H
  obtain ⟨c6, H⟩ := ite_n H
  refine V.dr [6] [7] [(20, Value.slice sa0 a0.length sc0), (21, Value.int .i64 a1), (22, Value.slice (vaddr sa0 sc0 (0 : Int).toNat 1) (cut a0 (0 : Int) a1).length (sc0 - (0 : Int).toNat)), (23, Value.slice sa0 a0.length sc0), (24, Value.int .i64 a2), (25, Value.slice (vaddr sa0 sc0 a2.toNat 1) (cut a0 a2 (a0.length : Int)).length (sc0 - a2.toNat))] mo HS ?_
  refine T.ev [(22, _), (25, _)] [] [0, 1, 2, 3, 4, 5] ⟨rfl, rfl, trivial⟩ ⟨.mv 0, .mv 1, .n2 20 21 rfl rfl rfl (fun w HS => X.slH Tryz.underlying37 inf32 rfl rfl c5 (rdC.at 0 row_rd HS rfl).cap), .mv 0, .mv 2, .n2 23 24 rfl rfl rfl (fun w HS => X.slL Tryz.underlying37 inf32 rfl rfl c6), trivial⟩ rfl (fun w HS => ?_)
  have hlt7 : a1 < a2 := by omega
  have hd8 : 0 ≤ a1 ∧ a1 < a2 ∧ a2 ≤ (a0.length : Int) := by omega
  have hc9 : (a0.length : Int) ≤ (sc0 : Int) := Int.ofNat_le.2 (rdC.at 0 row_rd HS rfl).cap
  have hl10 : (((cut a0 (0 : Int) a1) ++ (cut a0 a2 (a0.length : Int))).length : Int) ≤ (a0.length : Int) := by rw [List.length_append, cut_len ⟨by omega, by omega, by omega⟩, cut_len ⟨by omega, by omega, by omega⟩]; omega
  refine ⟨_, Y.appDel (xs := a0) 0 Tryz.underlying37 ap32 (by decide) HS rfl hd8 rfl rfl (St.tie_one 1 HS rfl), ?_⟩
  rintro _ w ⟨rfl, HS⟩
  replace HS := St.tie_cut2 1 a2 (a0.length : Int) HS rfl
  replace HS := HS.fr 2
  replace HS := St.tie_cut (0 : Int) a1 HS
  replace HS := St.tie_app 1 HS rfl
  refine T.nm [(26, Value.slice sa0 ((cut a0 (0 : Int) a1) ++ (cut a0 a2 (a0.length : Int))).length sc0), (0, Value.slice sa0 ((cut a0 (0 : Int) a1) ++ (cut a0 a2 (a0.length : Int))).length sc0)] HS ⟨.inl ⟨rfl, rfl⟩, ⟨.inr ⟨by decide, rfl⟩, trivial⟩⟩ ?_
  refine T.fn [(0, _), (7, _)] ⟨rfl, rfl, trivial⟩ ⟨.as 26, trivial⟩ (fun w HS => ?_)
  refine At.next (V.seq (V.region (W.mv rfl (W.mv rfl (W.r (X.lenSl Tryz.underlying37 rfl) rfl (W.mv rfl (W.r (X.slC Tryz.underlying37 inf32 rfl rfl rfl ⟨by omega, hl10⟩ hc9) rfl (W.en (Y.clearTail (n0 := a0.length) 2 Tryz.underlying37 ap32 rfl rfl HS rfl (Int.ofNat_le.1 hl10) (Int.ofNat_le.1 hc9) rfl) rfl ?_))))))))
  rintro _ w HS
  refine W.nx (V.seq (V.region (W.mv rfl (W.as rfl (W.nx (V.ret ?_))))))
  replace HS := HS.pk [2, 0, 3] [1]
  cases H
  exact At.ret1 rfl rfl ⟨_, rfl, sa0, sc0, ((cutC 1 sd0 (0 : Int) a1) ++ (cutC 1 sd0 a2 (a0.length : Int))), rfl, HS⟩
mutual
def backlog_Log_Ack.j0 (a0 : backlog_Log) (t3 : Int) (x8 : Bool) : Option (Int × Bool × backlog_Log) := (if x8 = true then some (0, false, a0) else ((slices_Delete_SSbyteSbyte.f a0.l 0 t3).bind fun t13 => ((backlog_Log_number.f ({ a0 with out := w64 (a0.out - t3), l := t13 } : backlog_Log) t3).bind fun t15 => some (t3, true, ({ a0 with first := t15, out := w64 (a0.out - t3), l := t13 } : backlog_Log)))))
end
def backlog_Log_Ack.f (a0 : backlog_Log) (a1 : Int) : Option (Int × Bool × backlog_Log) := ((serial_Dist.f a0.first a1 a0.m).bind fun t3 => (if a1 < 0 then (backlog_Log_Ack.j0 a0 t3 true) else (if a1 ≥ a0.m then (backlog_Log_Ack.j0 a0 t3 true) else (backlog_Log_Ack.j0 a0 t3 (decide (t3 > a0.out))))))
theorem backlog_Log_Ack.calls {a0 : backlog_Log} {a1 : Int} {R : As} {w0 w : World} {b0 : Nat} {r : Int × Bool × backlog_Log} (H : backlog_Log_Ack.f a0 a1 = some r) (HS : Sep.St [backlog_Log.at b0 a0, R] w0 w)  : Calls Tryz.prog 254 #[Value.pointer (some ⟨b0, 0, none⟩), Value.int .i64 a1] w (Ret fun u w => u = Value.tuple #[Value.int .i64 r.1, Value.bool r.2.1] ∧ Sep.St [backlog_Log.at b0 r.2.2, R] w0 w) := by
 unfold backlog_Log_Ack.f at H
 refine calls_enter Tryz.func254 rfl rfl ?_
 have H : _ = some r := H
 refine V.seq (V.region (W.as rfl (W.as rfl (W.nx (V.seq ?_)))))
 obtain ⟨a5_1, c5_1, d5_1, hi2, HS⟩ := backlog_Log.open HS
 refine V.dr [9] [10] [(7, Value.pointer (some ⟨b0, 0, none⟩)), (8, Value.pointer (some ⟨b0, 0, none⟩)), (9, Value.pointer (some ⟨b0, 0 + 3, none⟩)), (10, Value.int .i64 a0.first), (11, Value.int .i64 a1), (12, Value.pointer (some ⟨b0, 0, none⟩)), (13, Value.pointer (some ⟨b0, 0, none⟩)), (14, Value.pointer (some ⟨b0, 0 + 0, none⟩)), (15, Value.int .i64 a0.m)] mo HS ?_
 refine T.ev [(10, _), (11, _), (15, _)] [] [0, 1, 2, 3, 4, 5, 6, 7, 8] ⟨rfl, rfl, rfl, trivial⟩ ⟨.mv 0, .nc 7, .fa 8 fo194_3, .ld 9 0 Tryz.underlying3, .mv 1, .mv 0, .nc 12, .fa 13 fo194_0, .ld 14 0 Tryz.underlying3, trivial⟩ rfl (fun w HS => ?_)
 obtain ⟨t3, A4, H⟩ := bind_s H
 refine ⟨_, Y.cl Tryz.func252 (serial_Dist.calls A4 HS.j0), ?_⟩
 rintro _ w ⟨rfl, HS⟩
 replace HS := HS.o0
 refine T.nm [(16, Value.int .i64 t3), (6, Value.int .i64 t3)] HS ⟨.inl ⟨rfl, rfl⟩, ⟨.inr ⟨by decide, rfl⟩, trivial⟩⟩ ?_
 refine T.fn [(0, _), (1, _), (6, _)] ⟨rfl, rfl, rfl, trivial⟩ ⟨.as 16, trivial⟩ (fun w HS => ?_)
 refine At.next (V.seq (V.meet (σ := Bool) (fun st w => match st with | x8 => Sep.St [backlog_Log.at b0 a0, R] w0 w ∧ backlog_Log_Ack.j0 a0 t3 x8 = some r) (fun st => match st with | x8 => [(0, Value.pointer (some ⟨b0, 0, none⟩)), (6, Value.int .i64 t3), (34, Value.bool x8)]) ?_ ?_))
 ·refine V.region (W.mv rfl (W.r (X.cmp (decide (a1 < 0)) rfl rfl rfl rfl) rfl (W.mv rfl ?_)))
  by_cases c17 : a1 < 0
  ·replace H := ite_t c17 H
   refine W.pass 19 rfl (sb (decide_eq_true c17)) rfl rfl (W.pass 19 rfl (sb (decide_eq_true c17)) rfl rfl (W.pass 19 rfl (sb (decide_eq_true c17)) rfl rfl (W.pass 19 rfl (sb (decide_eq_true c17)) rfl rfl (W.pass 19 rfl (sb (decide_eq_true c17)) rfl rfl (W.pass 19 rfl (sb (decide_eq_true c17)) rfl rfl (W.r (X.pickT (sb (decide_eq_true c17)) rfl) rfl (W.mv rfl (W.pass 27 rfl rfl rfl rfl (W.pass 27 rfl rfl rfl rfl (W.pass 27 rfl rfl rfl rfl (W.pass 27 rfl rfl rfl rfl (W.pass 27 rfl rfl rfl rfl (W.pass 27 rfl rfl rfl rfl (W.r (X.pickT rfl rfl) rfl (W.nil ?_)))))))))))))))
   replace HS := backlog_Log.close trivial HS
   exact At.meet true ⟨rfl, rfl, rfl, trivial⟩ ⟨HS, H⟩
  ·replace H := ite_f c17 H
   refine W.want 19 rfl (sb (decide_eq_false c17)) (W.mv rfl (W.want 19 rfl (sb (decide_eq_false c17)) (W.mv rfl (W.want 19 rfl (sb (decide_eq_false c17)) (W.nc rfl (W.want 19 rfl (sb (decide_eq_false c17)) (W.fa fo194_0 rfl (W.want 19 rfl (sb (decide_eq_false c17)) (W.ld 0 HS Tryz.underlying3 rfl rfl rfl rfl (W.want 19 rfl (sb (decide_eq_false c17)) (W.r (X.cmp (decide (a1 ≥ a0.m)) rfl rfl rfl rfl) rfl (W.r (X.pickF (sb (decide_eq_false c17)) rfl) rfl (W.mv rfl ?_)))))))))))))
   by_cases c18 : a1 ≥ a0.m
   ·replace H := ite_t c18 H
    refine W.pass 27 rfl (sb (decide_eq_true c18)) rfl rfl (W.pass 27 rfl (sb (decide_eq_true c18)) rfl rfl (W.pass 27 rfl (sb (decide_eq_true c18)) rfl rfl (W.pass 27 rfl (sb (decide_eq_true c18)) rfl rfl (W.pass 27 rfl (sb (decide_eq_true c18)) rfl rfl (W.pass 27 rfl (sb (decide_eq_true c18)) rfl rfl (W.r (X.pickT (sb (decide_eq_true c18)) rfl) rfl (W.nil ?_)))))))
    replace HS := backlog_Log.close trivial HS
    exact At.meet true ⟨rfl, rfl, rfl, trivial⟩ ⟨HS, H⟩
   ·replace H := ite_f c18 H
    refine W.want 27 rfl (sb (decide_eq_false c18)) (W.mv rfl (W.want 27 rfl (sb (decide_eq_false c18)) (W.mv rfl (W.want 27 rfl (sb (decide_eq_false c18)) (W.nc rfl (W.want 27 rfl (sb (decide_eq_false c18)) (W.fa fo194_4 rfl (W.want 27 rfl (sb (decide_eq_false c18)) (W.ld 0 HS Tryz.underlying3 rfl rfl rfl rfl (W.want 27 rfl (sb (decide_eq_false c18)) (W.r (X.cmp (decide (t3 > a0.out)) rfl rfl rfl rfl) rfl (W.r (X.pickF (sb (decide_eq_false c18)) rfl) rfl (W.nil ?_)))))))))))))
    replace HS := backlog_Log.close trivial HS
    exact At.meet (decide (t3 > a0.out)) ⟨rfl, rfl, rfl, trivial⟩ ⟨HS, H⟩
 ·rintro x8 w ⟨HS, H⟩
  unfold backlog_Log_Ack.j0 at H
  by_cases c10 : x8 = true
  ·replace H := ite_t c10 H
   refine V.condT (sb c10) (V.seq (V.region (W.as rfl (W.as rfl (W.nx (V.ret (At.thenRet ?_)))))))
   cases H
   exact At.ret2 rfl rfl rfl ⟨_, rfl, rfl, HS⟩
  ·replace H := ite_f c10 H
   refine V.condF (sb (b_f c10)) (V.skip (At.next (V.seq (V.region (W.mv rfl (W.mv rfl (W.nc rfl ?_)))))))
   obtain ⟨a5_11, c5_11, d5_11, hi12, HS⟩ := backlog_Log.open HS
   refine W.fa fo194_5 rfl (W.ld 0 HS Tryz.underlying37 rfl rfl rfl rfl (W.mv rfl ?_))
   obtain ⟨t13, A14, H⟩ := bind_s H
   replace HS := HS.pm [1, 2, 0, 3]
   refine W.e (Y.cl Tryz.func267 (slices_Delete_SSbyteSbyte.calls A14 HS.j2)) rfl ?_
   rintro _ w ⟨at13_0, ct13_0, dt13_0, rfl, HS⟩
   replace HS := HS.o2
   refine W.nc rfl (W.fa fo194_5 rfl (W.st 2 5 HS inf37 rfl rfl rfl rfl rfl rfl fun w HS => ?_))
   refine W.nx (V.seq (V.region (W.mv rfl (W.nc rfl (W.fa fo194_4 rfl (W.ld 2 HS Tryz.underlying3 rfl rfl rfl rfl (W.mv rfl (W.r (X.sub rfl rfl) rfl (W.nc rfl (W.fa fo194_4 rfl (W.st 2 4 HS inf3 rfl rfl rfl rfl rfl rfl fun w HS => ?_)))))))))))
   refine W.nx (V.seq (V.region (W.mv rfl (W.mv rfl (W.mv rfl ?_)))))
   obtain ⟨t15, A16, H⟩ := bind_s H
   replace HS := HS.pm [2, 0, 1, 3]
   refine W.e (Y.cl Tryz.func225 (backlog_Log_number.calls A16 HS.j3)) rfl ?_
   rintro _ w ⟨rfl, HS⟩
   replace HS := HS.o3
   refine W.nc rfl (W.fa fo194_3 rfl (W.st 0 3 HS inf3 rfl rfl rfl rfl rfl rfl fun w HS => ?_))
   refine W.nx (V.seq (V.region (W.mv rfl (W.as rfl (W.as rfl (W.nx (V.ret ?_)))))))
   replace HS := backlog_Log.close trivial HS
   cases H
   exact At.ret2 rfl rfl rfl ⟨_, rfl, rfl, HS⟩
def arq_Arq_acknowledged.f (k : Nat) (a0 : arq_Arq) (a1 : Int) : Option (Bool × arq_Arq) := ((backlog_Log_Ack.f a0.log a1).bind fun t3 => (if t3.1 = 0 then some (t3.2.1, ({ a0 with log := t3.2.2 } : arq_Arq)) else ((clock_Set_Stop.f a0.timers 0).bind fun t13 => ((backlog_Log_Out.f k t3.2.2).bind fun t17 => (if (t17.length : Int) > 0 then ((arq_Arq_start.f ({ a0 with tries := 0, log := t3.2.2, timers := t13.2, acked := w64 (a0.acked + t3.1) } : arq_Arq)).bind fun t20 => some (t3.2.1, t20)) else some (t3.2.1, ({ a0 with tries := 0, log := t3.2.2, timers := t13.2, acked := w64 (a0.acked + t3.1) } : arq_Arq)))))))
theorem arq_Arq_acknowledged.calls {k : Nat} {a0 : arq_Arq} {a1 : Int} {R : As} {w0 w : World} {b0 : Nat} {r : Bool × arq_Arq} (H : arq_Arq_acknowledged.f k a0 a1 = some r) (HS : Sep.St [arq_Arq.at b0 a0, R] w0 w)  : Calls Tryz.prog 234 #[Value.pointer (some ⟨b0, 0, none⟩), Value.int .i64 a1] w (Ret fun u w => u = Value.bool r.1 ∧ Sep.St [arq_Arq.at b0 r.2, R] w0 w) := by
 unfold arq_Arq_acknowledged.f at H
 refine calls_enter Tryz.func234 rfl rfl ?_
 have H : _ = some r := H
 refine V.seq (V.region (W.as rfl (W.nx (V.seq (V.region (W.mv rfl (W.nc rfl ?_)))))))
 obtain ⟨b8_1, b9_1, b10_1, a11_1, c11_1, d11_1, a12_1, c12_1, hi2, HS⟩ := arq_Arq.open HS
 refine W.fa fo136_8 rfl (W.ld 0 HS Tryz.underlying129 rfl rfl rfl rfl (W.mv rfl ?_))
 obtain ⟨t3, A4, H⟩ := bind_s H
 replace HS := HS.pm [1, 0, 2, 3, 4, 5, 6, 7]
 refine W.e (Y.cl Tryz.func254 (backlog_Log_Ack.calls A4 HS.j1)) rfl ?_
 rintro _ w ⟨rfl, HS⟩
 replace HS := HS.o1
 refine W.mv rfl (W.r (X.extract rfl rfl) rfl (W.r (X.extract rfl rfl) rfl (W.as rfl (W.as rfl (W.nx (V.seq (V.seq (V.region (W.mv rfl (W.r (X.cmp (decide (t3.1 = 0)) rfl rfl rfl rfl) rfl (W.nx ?_)))))))))))
 by_cases c12 : t3.1 = 0
 ·replace H := ite_t c12 H
  refine V.condT (sb (decide_eq_true c12)) (V.seq (V.region (W.mv rfl (W.as rfl (W.nx (V.ret (At.thenRet ?_)))))))
  replace HS := HS.pm [1, 0, 2, 3, 4, 5, 6, 7]
  replace HS := arq_Arq.close trivial HS
  cases H
  exact At.ret1 rfl rfl ⟨_, rfl, rfl, HS⟩
 ·replace H := ite_f c12 H
  refine V.condF (sb (decide_eq_false c12)) (V.skip (At.next (V.seq (V.region (W.mv rfl (W.nc rfl (W.fa fo136_14 rfl (W.ld 1 HS Tryz.underlying3 rfl rfl rfl rfl (W.mv rfl (W.r (X.add rfl rfl) rfl (W.nc rfl (W.fa fo136_14 rfl (W.st 1 14 HS inf3 rfl rfl rfl rfl rfl rfl fun w HS => ?_)))))))))))))
  refine W.nx (V.seq (V.region (W.mv rfl (W.nc rfl (W.fa fo136_6 rfl (W.st 1 6 HS inf3 rfl rfl rfl rfl rfl rfl fun w HS => ?_))))))
  refine W.nx (V.seq (V.region (W.mv rfl (W.nc rfl (W.fa fo136_10 rfl (W.ld 1 HS Tryz.underlying133 rfl rfl rfl rfl ?_))))))
  obtain ⟨t13, A14, H⟩ := bind_s H
  replace HS := HS.pm [3, 0, 1, 2, 4, 5, 6, 7]
  refine W.e (Y.cl Tryz.func211 (clock_Set_Stop.calls A14 HS.j1)) rfl ?_
  rintro _ w ⟨rfl, HS⟩
  replace HS := HS.o1
  refine W.nx (V.seq (V.seq (V.region (W.mv rfl (W.nc rfl (W.fa fo136_8 rfl (W.ld 2 HS Tryz.underlying129 rfl rfl rfl rfl ?_)))))))
  replace HS := HS.fr 1
  obtain ⟨a5_15, c5_15, d5_15, hi16, HS⟩ := backlog_Log.open HS
  obtain ⟨t17, A18, H⟩ := bind_s H
  refine W.e (Y.cl Tryz.func181 (backlog_Log_Out.calls A18 HS.j3)) rfl ?_
  rintro _ w ⟨at17_0, ct17_0, rfl, HS⟩
  replace HS := HS.o4
  refine W.r (X.lenSl Tryz.underlying48 rfl) rfl (W.r (X.cmp (decide ((t17.length : Int) > 0)) rfl rfl rfl rfl) rfl (W.nx ?_))
  by_cases c19 : (t17.length : Int) > 0
  ·replace H := ite_t c19 H
   refine V.condT (sb (decide_eq_true c19)) (V.region (W.mv rfl ?_))
   replace HS := HS.pm [1, 2, 3, 0, 4, 5, 6, 7, 8, 9, 10]
   replace HS := backlog_Log.close trivial HS
   replace HS := HS.pm [3, 0, 4, 2, 5, 6, 7, 1, 8]
   replace HS := arq_Arq.close trivial HS
   obtain ⟨t20, A21, H⟩ := bind_s H
   refine W.e (Y.cl Tryz.func154 (arq_Arq_start.calls A21 HS.j1)) rfl ?_
   rintro _ w ⟨rfl, HS⟩
   replace HS := HS.o1
   refine W.nx (V.seq (V.region (W.mv rfl (W.as rfl (W.nx (V.ret ?_))))))
   replace HS := HS.pk [0, 2] [1]
   cases H
   exact At.ret1 rfl rfl ⟨_, rfl, rfl, HS⟩
  ·replace H := ite_f c19 H
   refine V.condF (sb (decide_eq_false c19)) (V.skip (At.next (V.seq (V.region (W.mv rfl (W.as rfl (W.nx (V.ret ?_))))))))
   replace HS := HS.pm [1, 2, 3, 0, 4, 5, 6, 7, 8, 9, 10]
   replace HS := backlog_Log.close trivial HS
   replace HS := HS.pm [3, 0, 4, 2, 5, 6, 7, 1, 8]
   replace HS := arq_Arq.close trivial HS
   replace HS := HS.pk [0, 2] [1]
   cases H
   exact At.ret1 rfl rfl ⟨_, rfl, rfl, HS⟩
mutual
def reorder_Order_Put.l0 : Nat → Int → Bool → reorder_Order → (List Int) → Option (Int × reorder_Order)
 | 0, _, _, _, _ => none
 | k + 1, x26, x27, x28, x31 => (if x27 = true then (if (x28.ready.length : Int) + (([x31] : List (List Int))).length ≤ 1099511627776 then ((serial_Next.f x28.next x28.m).bind fun t43 => (reorder_Order_Put.l0 k (w64 (x26 + 1)) (mhas (mdel x28.kept x28.next) t43) ({ x28 with next := t43, kept := mdel x28.kept x28.next, ready := x28.ready ++ ([x31] : List (List Int)) } : reorder_Order) (mget (mdel x28.kept x28.next) t43 []))) else none) else some (x26, x28))
end
def reorder_Order_Put.f (k : Nat) (a0 : reorder_Order) (a1 : Int) (a2 : List Int) : Option (Int × reorder_Order) := ((serial_Dist.f a0.next a1 a0.m).bind fun t3 => (if ¬ (a0.m = 0) then (if t3 ≥ a0.window then some ((-1), a0) else (if mhas a0.kept ((w64 (a0.next + t3)).tmod a0.m) = true then some (0, a0) else ((slices_Clone_Sbytebyte.f a2).bind fun t17 => (reorder_Order_Put.l0 k 0 (mhas (mput a0.kept ((w64 (a0.next + t3)).tmod a0.m) t17) a0.next) ({ a0 with kept := mput a0.kept ((w64 (a0.next + t3)).tmod a0.m) t17 } : reorder_Order) (mget (mput a0.kept ((w64 (a0.next + t3)).tmod a0.m) t17) a0.next []))))) else none))
theorem reorder_Order_Put.calls {k : Nat} {a0 : reorder_Order} {a1 : Int} {a2 : List Int} {R : As} {w0 w : World} {b0 : Nat} {sa2 : Option Addr} {sc2 : Nat} {r : Int × reorder_Order} (H : reorder_Order_Put.f k a0 a1 a2 = some r) (HS : Sep.St [reorder_Order.at b0 a0, R] w0 w) (hr2 : rdC R 1 (.slice sa2 a2.length sc2) a2.length (a2.map (Value.int .u8))) : Calls Tryz.prog 255 #[Value.pointer (some ⟨b0, 0, none⟩), Value.int .i64 a1, Value.slice sa2 a2.length sc2] w (Ret fun u w => u = Value.int .i64 r.1 ∧ Sep.St [reorder_Order.at b0 r.2, R] w0 w) := by
 unfold reorder_Order_Put.f at H
 refine calls_enter Tryz.func255 rfl rfl ?_
 have H : _ = some r := H
 refine V.seq (V.region (W.as rfl (W.nx (V.seq ?_))))
 obtain ⟨b3_1, k3_1, a4_1, c4_1, d4_1, hi2, HS⟩ := reorder_Order.open HS
 refine V.dr [9] [10] [(13, Value.pointer (some ⟨b0, 0, none⟩)), (14, Value.pointer (some ⟨b0, 0, none⟩)), (15, Value.pointer (some ⟨b0, 0 + 2, none⟩)), (16, Value.int .i64 a0.next), (17, Value.int .i64 a1), (18, Value.pointer (some ⟨b0, 0, none⟩)), (19, Value.pointer (some ⟨b0, 0, none⟩)), (20, Value.pointer (some ⟨b0, 0 + 0, none⟩)), (21, Value.int .i64 a0.m)] mo HS ?_
 refine T.ev [(16, _), (17, _), (21, _)] [] [0, 1, 2, 3, 4, 5, 6, 7, 8] ⟨rfl, rfl, rfl, trivial⟩ ⟨.mv 0, .nc 13, .fa 14 fo197_2, .ld 15 0 Tryz.underlying3, .mv 1, .mv 0, .nc 18, .fa 19 fo197_0, .ld 20 0 Tryz.underlying3, trivial⟩ rfl (fun w HS => ?_)
 obtain ⟨t3, A4, H⟩ := bind_s H
 refine ⟨_, Y.cl Tryz.func252 (serial_Dist.calls A4 HS.j0), ?_⟩
 rintro _ w ⟨rfl, HS⟩
 replace HS := HS.o0
 refine T.nm [(22, Value.int .i64 t3), (7, Value.int .i64 t3)] HS ⟨.inl ⟨rfl, rfl⟩, ⟨.inr ⟨by decide, rfl⟩, trivial⟩⟩ ?_
 refine T.fn [(0, _), (2, _), (7, _)] ⟨rfl, rfl, rfl, trivial⟩ ⟨.as 22, trivial⟩ (fun w HS => ?_)
 refine At.next (V.seq ?_)
 obtain ⟨c5, H⟩ := ite_n H
 refine V.dr [] [] [(23, Value.pointer (some ⟨b0, 0, none⟩)), (24, Value.pointer (some ⟨b0, 0, none⟩)), (25, Value.pointer (some ⟨b0, 0 + 2, none⟩)), (26, Value.int .i64 a0.next), (27, Value.int .i64 t3), (28, Value.int .i64 (w64 (a0.next + t3))), (29, Value.pointer (some ⟨b0, 0, none⟩)), (30, Value.pointer (some ⟨b0, 0, none⟩)), (31, Value.pointer (some ⟨b0, 0 + 0, none⟩)), (32, Value.int .i64 a0.m), (33, Value.int .i64 ((w64 (a0.next + t3)).tmod a0.m)), (1, Value.int .i64 ((w64 (a0.next + t3)).tmod a0.m))] mo HS ?_
 refine T.fn [(0, _), (1, _), (2, _), (7, _)] ⟨rfl, rfl, rfl, rfl, trivial⟩ ⟨.mv 0, .nc 23, .fa 24 fo197_2, .ld 25 0 Tryz.underlying3, .mv 7, .n2 26 27 rfl rfl rfl (fun w HS => X.add rfl rfl), .mv 0, .nc 29, .fa 30 fo197_0, .ld 31 0 Tryz.underlying3, .n2 28 32 rfl rfl rfl (fun w HS => X.rem rfl rfl c5), .as 33, trivial⟩ (fun w HS => ?_)
 refine At.next (V.seq (V.seq (V.region (W.mv rfl (W.mv rfl (W.nc rfl (W.fa fo197_1 rfl (W.ld 0 HS Tryz.underlying3 rfl rfl rfl rfl (W.r (X.cmp (decide (t3 ≥ a0.window)) rfl rfl rfl rfl) rfl (W.nx ?_))))))))))
 by_cases c11 : t3 ≥ a0.window
 ·replace H := ite_t c11 H
  refine V.condT (sb (decide_eq_true c11)) (V.seq (V.region (W.as rfl (W.nx (V.ret (At.thenRet ?_))))))
  replace HS := reorder_Order.close trivial HS
  cases H
  exact At.ret1 rfl rfl ⟨_, rfl, rfl, HS⟩
 ·replace H := ite_f c11 H
  refine V.condF (sb (decide_eq_false c11)) (V.skip (At.next (V.seq (V.seq (V.region (W.mv rfl (W.nc rfl (W.fa fo197_3 rfl (W.ld 0 HS Tryz.underlying195 rfl rfl rfl rfl (W.mv rfl ?_))))))))))
  have hm12 := St.tieM_has 2 ((w64 (a0.next + t3)).tmod a0.m) HS rfl
  replace HS := St.tieM_get 2 ((w64 (a0.next + t3)).tmod a0.m) (z := .slice none 0 0) (d := []) sl_zero HS rfl
  obtain ⟨ea14, em15, hu13, HS⟩ := St.sl_openF (Value.int .u8) (fun t => tie_int t) HS
  refine W.r (X.lookup (z := .slice none 0 0) 2 Tryz.underlying195 Tryz.underlying3 ze32 HS rfl rfl rfl hu13 hm12) rfl (W.mv rfl (W.r (X.extract rfl rfl) rfl (W.r (X.extract rfl rfl) rfl (W.as rfl (W.as rfl (W.nx (V.seq (V.region (W.mv rfl (W.nx ?_))))))))))
  by_cases c16 : mhas a0.kept ((w64 (a0.next + t3)).tmod a0.m) = true
  ·replace H := ite_t c16 H
   refine V.condT (sb c16) (V.seq (V.region (W.as rfl (W.nx (V.ret (At.thenRet ?_))))))
   replace HS := HS.pm [1, 2, 3, 4, 5, 0, 6]
   replace HS := reorder_Order.close trivial HS
   replace HS := HS.pk [0, 2] [1]
   cases H
   exact At.ret1 rfl rfl ⟨_, rfl, rfl, HS⟩
  ·replace H := ite_f c16 H
   refine V.condF (sb (b_f c16)) (V.skip (At.next (V.seq (V.dr [6, 7] [] [(50, Value.pointer (some ⟨b0, 0, none⟩)), (51, Value.pointer (some ⟨b0, 0, none⟩)), (52, Value.pointer (some ⟨b0, 0 + 3, none⟩)), (53, Value.map (some b3_1)), (54, Value.int .i64 ((w64 (a0.next + t3)).tmod a0.m)), (55, Value.slice sa2 a2.length sc2)] mo HS ?_))))
   refine T.ev [(55, _)] [] [5] ⟨rfl, trivial⟩ ⟨.mv 0, .nc 50, .fa 51 fo197_3, .ld 52 1 Tryz.underlying195, .mv 1, .mv 2, trivial⟩ rfl (fun w HS => ?_)
   obtain ⟨t17, A18, H⟩ := bind_s H
   refine ⟨_, Y.cl Tryz.func130 (slices_Clone_Sbytebyte.calls A18 HS.j0 (rdC.part 6 hr2 rfl)), ?_⟩
   rintro _ w ⟨at17_0, ct17_0, rfl, HS⟩
   replace HS := HS.o1
   refine T.nw HS ?_
   refine T.ev [(53, _), (54, _), (56, _)] [] [0, 1, 2, 3, 4] ⟨rfl, rfl, rfl, trivial⟩ ⟨.mv 0, .nc 50, .fa 51 fo197_3, .ld 52 2 Tryz.underlying195, .mv 1, trivial⟩ rfl (fun w HS => ?_)
   replace HS := St.row_freeze HS
   replace HS := HS.more 0 rfl (fun _ t => t) fsl.pers
   replace HS := St.put (A := tie (El.int .u8) (t17.map (Value.int .u8)) t17) (fun _ => int_tie) HS
   replace HS := St.swap HS
   replace HS := St.sl_close (E := (El.int .u8)) HS
   replace HS := HS.pm [0, 5, 1, 2, 3, 4, 6, 7, 8]
   replace HS := St.tieM_put ((w64 (a0.next + t3)).tmod a0.m) HS
   refine ⟨_, Y.mapUpdate 4 Tryz.underlying195 Tryz.underlying3 HS rfl rfl rfl rfl, ?_⟩
   rintro _ w HS
   refine T.nn HS ?_
   refine T.fn [(0, _)] ⟨rfl, trivial⟩ trivial (fun w HS => ?_)
   refine At.next (V.seq (V.region (W.as rfl (W.nx (V.seq (V.seq ?_))))))
   have hm19 := St.tieM_has 0 a0.next HS rfl
   replace HS := St.tieM_get 0 a0.next (z := .slice none 0 0) (d := []) sl_zero HS rfl
   obtain ⟨ea21, em22, hu20, HS⟩ := St.sl_openF (Value.int .u8) (fun t => tie_int t) HS
   refine V.dr [] [] [(58, Value.pointer (some ⟨b0, 0, none⟩)), (59, Value.pointer (some ⟨b0, 0, none⟩)), (60, Value.pointer (some ⟨b0, 0 + 3, none⟩)), (61, Value.map (some b3_1)), (62, Value.pointer (some ⟨b0, 0, none⟩)), (63, Value.pointer (some ⟨b0, 0, none⟩)), (64, Value.pointer (some ⟨b0, 0 + 2, none⟩)), (65, Value.int .i64 a0.next), (66, Value.tuple #[Value.slice ea21 (mget (mput a0.kept ((w64 (a0.next + t3)).tmod a0.m) t17) a0.next []).length em22, Value.bool (mhas (mput a0.kept ((w64 (a0.next + t3)).tmod a0.m) t17) a0.next)]), (57, Value.tuple #[Value.slice ea21 (mget (mput a0.kept ((w64 (a0.next + t3)).tmod a0.m) t17) a0.next []).length em22, Value.bool (mhas (mput a0.kept ((w64 (a0.next + t3)).tmod a0.m) t17) a0.next)]), (67, Value.slice ea21 (mget (mput a0.kept ((w64 (a0.next + t3)).tmod a0.m) t17) a0.next []).length em22), (68, Value.bool (mhas (mput a0.kept ((w64 (a0.next + t3)).tmod a0.m) t17) a0.next)), (11, Value.slice ea21 (mget (mput a0.kept ((w64 (a0.next + t3)).tmod a0.m) t17) a0.next []).length em22), (12, Value.bool (mhas (mput a0.kept ((w64 (a0.next + t3)).tmod a0.m) t17) a0.next))] mo HS ?_
   refine T.fn [(0, _), (10, _), (11, _), (12, _)] ⟨rfl, rfl, rfl, rfl, trivial⟩ ⟨.mv 0, .nc 58, .fa 59 fo197_3, .ld 60 4 Tryz.underlying195, .mv 0, .nc 62, .fa 63 fo197_2, .ld 64 4 Tryz.underlying3, .n2 61 65 rfl rfl rfl (fun w HS => X.lookup (z := .slice none 0 0) 5 Tryz.underlying195 Tryz.underlying3 ze32 HS rfl rfl rfl hu20 hm19), .mv 66, .n1 57 rfl rfl (fun w HS => X.extract rfl rfl), .n1 57 rfl rfl (fun w HS => X.extract rfl rfl), .as 67, .as 68, trivial⟩ (fun w HS => ?_)
   refine At.next (V.block ?_)
   replace HS := HS.pm [4, 5, 1, 6, 7, 0, 2, 3, 8]
   replace HS := reorder_Order.close trivial HS
   refine V.loop (σ := Int × Bool × reorder_Order × Option Addr × Nat × List Int) (fun kq (st : Int × Bool × reorder_Order × Option Addr × Nat × List Int) w => match st with | (x26, x27, x28, ra29, rc30, x31) => Sep.St [reorder_Order.at b0 x28, fsl 1 (.slice ra29 x31.length rc30) x31.length (x31.map (Value.int .u8)), fsl 1 (.slice at17_0 t17.length ct17_0) t17.length (t17.map (Value.int .u8)), fsl 1 (.slice ea14 (mget a0.kept ((w64 (a0.next + t3)).tmod a0.m) []).length em15) (mget a0.kept ((w64 (a0.next + t3)).tmod a0.m) []).length ((mget a0.kept ((w64 (a0.next + t3)).tmod a0.m) []).map (Value.int .u8)), R] w0 w ∧ reorder_Order_Put.l0 kq x26 x27 x28 x31 = some r ∧ kq ≤ k) (fun st => match st with | (x26, x27, x28, ra29, rc30, x31) => [(0, Value.pointer (some ⟨b0, 0, none⟩)), (10, Value.int .i64 x26), (11, Value.slice ra29 x31.length rc30), (12, Value.bool x27)]) k (0, mhas (mput a0.kept ((w64 (a0.next + t3)).tmod a0.m) t17) a0.next, ({ a0 with kept := mput a0.kept ((w64 (a0.next + t3)).tmod a0.m) t17 } : reorder_Order), ea21, em22, mget (mput a0.kept ((w64 (a0.next + t3)).tmod a0.m) t17) a0.next []) ⟨rfl, rfl, rfl, rfl, trivial⟩ ⟨HS, H, Nat.le_refl _⟩ ?_
   rintro kq32 ⟨x26, x27, x28, ra29, rc30, x31⟩ w ⟨HS, H, hk33⟩
   cases kq32 with
   | zero => exact absurd H (by simp [reorder_Order_Put.l0])
   | succ kq32 =>
    simp only [reorder_Order_Put.l0] at H
    refine V.seq (V.seq (V.region (W.mv rfl (W.nx ?_))))
    by_cases c34 : x27 = true
    ·replace H := ite_t c34 H
     refine V.condT (sb c34) (V.skip (At.next (V.seq (V.block (V.seq ?_)))))
     obtain ⟨b3_35, k3_35, a4_35, c4_35, d4_35, hi36, HS⟩ := reorder_Order.open HS
     refine V.dr [8] [] [(82, Value.pointer (some ⟨b0, 0, none⟩)), (83, Value.pointer (some ⟨b0, 0, none⟩)), (84, Value.pointer (some ⟨b0, 0 + 3, none⟩)), (85, Value.map (some b3_35)), (86, Value.pointer (some ⟨b0, 0, none⟩)), (87, Value.pointer (some ⟨b0, 0, none⟩)), (88, Value.pointer (some ⟨b0, 0 + 2, none⟩)), (89, Value.int .i64 x28.next)] mo HS ?_
     refine T.ev [(85, _), (89, _)] [] [0, 1, 2, 3, 4, 5, 6, 7] ⟨rfl, rfl, trivial⟩ ⟨.mv 0, .nc 82, .fa 83 fo197_3, .ld 84 0 Tryz.underlying195, .mv 0, .nc 86, .fa 87 fo197_2, .ld 88 0 Tryz.underlying3, trivial⟩ rfl (fun w HS => ?_)
     replace HS := HS.fr 2
     replace HS := St.tieM_del x28.next HS
     refine ⟨_, Y.delete 2 Tryz.underlying195 Tryz.underlying3 HS rfl rfl rfl, ?_⟩
     rintro _ w HS
     refine T.nn HS ?_
     refine T.fn [(0, _), (10, _), (11, _)] ⟨rfl, rfl, rfl, trivial⟩ trivial (fun w HS => ?_)
     refine At.next (V.seq (V.region (W.mv rfl (W.mv rfl (W.nc rfl (W.fa fo197_4 rfl (W.ld 1 HS Tryz.underlying37 rfl rfl rfl rfl (W.mv rfl (W.e (Y.lc (e := 32) (sz := 1) [Value.slice ra29 x31.length rc30] HS rfl rfl (fun _ => by kernel_rfl)) rfl ?_)))))))))
     rintro _ w ⟨lb37, rfl, HS⟩
     replace HS := St.put (A := tie (El.sl (El.int .u8)) ([]) (([] : List (List Int)))) (fun _ => tie.nil) HS
     replace HS := HS.more 7 rfl (fun _ t => t) fsl.pers
     replace HS := St.put (A := tie (El.int .u8) (x31.map (Value.int .u8)) x31) (fun _ => int_tie) HS
     replace HS := St.swap HS
     replace HS := St.sl_close (E := (El.int .u8)) HS
     replace HS := HS.fr 1
     replace HS := HS.fr 1
     replace HS := St.tie_cons HS
     obtain ⟨c40, H⟩ := ite_n H
     refine W.e (Y.app (xs := x28.ready) (ys := ([x31] : List (List Int))) 5 Tryz.underlying37 ap32 rfl (by decide) HS rfl rfl rfl (rdC.at 1 row_rd HS rfl) (St.tie_one 0 HS rfl) (by omega) (by omega)) rfl ?_
     rintro _ w ⟨ra41, rc42, rfl, HS⟩
     replace HS := HS.fr 6
     replace HS := St.tie_app 1 HS rfl
     refine W.nc rfl (W.fa fo197_4 rfl (W.st 4 4 HS inf37 rfl rfl rfl rfl rfl rfl fun w HS => ?_))
     refine W.nx (V.seq (V.dr [9, 12] [10, 11] [(100, Value.pointer (some ⟨b0, 0, none⟩)), (101, Value.pointer (some ⟨b0, 0, none⟩)), (102, Value.pointer (some ⟨b0, 0, none⟩)), (103, Value.pointer (some ⟨b0, 0 + 2, none⟩)), (104, Value.int .i64 x28.next), (105, Value.pointer (some ⟨b0, 0, none⟩)), (106, Value.pointer (some ⟨b0, 0, none⟩)), (107, Value.pointer (some ⟨b0, 0 + 0, none⟩)), (108, Value.int .i64 x28.m)] mo HS ?_))
     refine T.ev [(104, _), (108, _)] [] [1, 2, 3, 4, 5, 6, 7, 8] ⟨rfl, rfl, trivial⟩ ⟨.mv 0, .mv 0, .nc 101, .fa 102 fo197_2, .ld 103 4 Tryz.underlying3, .mv 0, .nc 105, .fa 106 fo197_0, .ld 107 4 Tryz.underlying3, trivial⟩ rfl (fun w HS => ?_)
     obtain ⟨t43, A44, H⟩ := bind_s H
     refine ⟨_, Y.cl Tryz.func152 (serial_Next.calls A44 HS.j0), ?_⟩
     rintro _ w ⟨rfl, HS⟩
     replace HS := HS.o0
     refine T.nm [(109, Value.int .i64 t43), (110, Value.pointer (some ⟨b0, 0, none⟩)), (111, Value.pointer (some ⟨b0, 0 + 2, none⟩))] HS ⟨.inl ⟨rfl, rfl⟩, ⟨.inr ⟨by decide, rfl⟩, ⟨.inr ⟨by decide, rfl⟩, trivial⟩⟩⟩ ?_
     refine T.ev [(109, _), (111, _)] [] [0, 10, 11] ⟨rfl, rfl, trivial⟩ ⟨.mv 0, .nc 100, .fa 110 fo197_2, trivial⟩ rfl (fun w HS => ?_)
     refine ⟨_, Y.sto 4 2 HS inf3 rfl rfl rfl rfl rfl rfl, ?_⟩
     rintro _ w HS
     refine T.nn HS ?_
     refine T.fn [(0, _), (10, _)] ⟨rfl, rfl, trivial⟩ trivial (fun w HS => ?_)
     refine At.next (V.region (W.mv rfl (W.r (X.add rfl rfl) rfl (W.as rfl (W.nil (At.blockEnd (At.next ?_)))))))
     have hm45 := St.tieM_has 3 t43 HS rfl
     replace HS := St.tieM_get 3 t43 (z := .slice none 0 0) (d := []) sl_zero HS rfl
     obtain ⟨ea47, em48, hu46, HS⟩ := St.sl_openF (Value.int .u8) (fun t => tie_int t) HS
     refine V.dr [] [] [(71, Value.pointer (some ⟨b0, 0, none⟩)), (72, Value.pointer (some ⟨b0, 0, none⟩)), (73, Value.pointer (some ⟨b0, 0 + 3, none⟩)), (74, Value.map (some b3_35)), (75, Value.pointer (some ⟨b0, 0, none⟩)), (76, Value.pointer (some ⟨b0, 0, none⟩)), (77, Value.pointer (some ⟨b0, 0 + 2, none⟩)), (78, Value.int .i64 t43), (79, Value.tuple #[Value.slice ea47 (mget (mdel x28.kept x28.next) t43 []).length em48, Value.bool (mhas (mdel x28.kept x28.next) t43)]), (70, Value.tuple #[Value.slice ea47 (mget (mdel x28.kept x28.next) t43 []).length em48, Value.bool (mhas (mdel x28.kept x28.next) t43)]), (80, Value.slice ea47 (mget (mdel x28.kept x28.next) t43 []).length em48), (81, Value.bool (mhas (mdel x28.kept x28.next) t43)), (11, Value.slice ea47 (mget (mdel x28.kept x28.next) t43 []).length em48), (12, Value.bool (mhas (mdel x28.kept x28.next) t43))] mo HS ?_
     refine T.fn [(0, _), (10, _), (11, _), (12, _)] ⟨rfl, rfl, rfl, rfl, trivial⟩ ⟨.mv 0, .nc 71, .fa 72 fo197_3, .ld 73 5 Tryz.underlying195, .mv 0, .nc 75, .fa 76 fo197_2, .ld 77 5 Tryz.underlying3, .n2 74 78 rfl rfl rfl (fun w HS => X.lookup (z := .slice none 0 0) 6 Tryz.underlying195 Tryz.underlying3 ze32 HS rfl rfl rfl hu46 hm45), .mv 79, .n1 70 rfl rfl (fun w HS => X.extract rfl rfl), .n1 70 rfl rfl (fun w HS => X.extract rfl rfl), .as 80, .as 81, trivial⟩ (fun w HS => ?_)
     replace HS := HS.pm [5, 6, 4, 7, 1, 0, 2, 3, 8, 9, 10, 11]
     replace HS := reorder_Order.close trivial HS
     replace HS := HS.pk [0, 1, 5, 6, 7] [2, 3, 4]
     exact At.round kq32 (by omega) (w64 (x26 + 1), mhas (mdel x28.kept x28.next) t43, ({ x28 with next := t43, kept := mdel x28.kept x28.next, ready := x28.ready ++ ([x31] : List (List Int)) } : reorder_Order), ea47, em48, mget (mdel x28.kept x28.next) t43 []) ⟨rfl, rfl, rfl, rfl, trivial⟩ ⟨HS, H, by omega⟩
    ·replace H := ite_f c34 H
     refine V.condF (sb (b_f c34)) (V.exit (At.thenExit (At.thenExit (At.blockExit (At.next (V.seq (V.region (W.mv rfl (W.as rfl (W.nx (V.ret ?_)))))))))))
     replace HS := HS.pk [0, 4] [1, 2, 3]
     cases H
     exact At.ret1 rfl rfl ⟨_, rfl, rfl, HS⟩
def reorder_Order_Gap.f (a0 : reorder_Order) : Option Bool := some (decide ((a0.kept.length : Int) > 0))
theorem reorder_Order_Gap.calls {a0 : reorder_Order} {R : As} {w0 w : World} {b0 : Nat} {b3_p0 : Nat} {k3_p0 : List (Int × Value)} {a4_p0 : Option Addr} {c4_p0 : Nat} {d4_p0 : List Value} {r : Bool} (H : reorder_Order_Gap.f a0 = some r) (HS : Sep.St [blk b0 (#[Value.int .i64 a0.m, Value.int .i64 a0.window, Value.int .i64 a0.next, Value.map (some b3_p0), Value.slice a4_p0 a0.ready.length c4_p0]) 197, mblk b3_p0 k3_p0, tieM (El.sl (El.int .u8)) k3_p0 a0.kept, row 32 1 (.slice a4_p0 a0.ready.length c4_p0) a0.ready.length d4_p0, tie (El.sl (El.int .u8)) d4_p0 a0.ready, R] w0 w)  : Calls Tryz.prog 256 #[Value.pointer (some ⟨b0, 0, none⟩)] w (Ret fun u w => u = Value.bool r ∧ Sep.St [blk b0 (#[Value.int .i64 a0.m, Value.int .i64 a0.window, Value.int .i64 a0.next, Value.map (some b3_p0), Value.slice a4_p0 a0.ready.length c4_p0]) 197, mblk b3_p0 k3_p0, tieM (El.sl (El.int .u8)) k3_p0 a0.kept, row 32 1 (.slice a4_p0 a0.ready.length c4_p0) a0.ready.length d4_p0, tie (El.sl (El.int .u8)) d4_p0 a0.ready, R] w0 w) := by
 unfold reorder_Order_Gap.f at H
 refine calls_enter Tryz.func256 rfl rfl ?_
 have H : _ = some r := H
 refine V.seq (V.region (W.as rfl (W.nx (V.seq (V.region (W.mv rfl (W.nc rfl (W.fa fo197_3 rfl (W.ld 0 HS Tryz.underlying195 rfl rfl rfl rfl (W.r (X.lenMap (m := a0.kept) 1 Tryz.underlying195 HS rfl (St.tieM_len 2 HS rfl) rfl) rfl (W.r (X.cmp (decide ((a0.kept.length : Int) > 0)) rfl rfl rfl rfl) rfl (W.as rfl (W.nx (V.ret ?_))))))))))))))
 cases H
 exact At.ret1 rfl rfl ⟨_, rfl, rfl, HS⟩
mutual
def arq_Arq_come.j2 (k : Nat)  (x10 : arq_Arq) (x11 : api_Ctl) : Option arq_Arq := ((arq_Arq_tell.f k x10 x11).bind fun t15 => some t15)
def arq_Arq_come.j3 (k : Nat) (x4 : arq_Arq) (x7 : api_Ctl) (x17 : Bool) : Option arq_Arq := (if x17 = true then (arq_Arq_come.j2 k ({ x4 with rejected := true } : arq_Arq) ({ x7 with Kind := 2, Poll := false } : api_Ctl)) else (arq_Arq_come.j2 k x4 x7))
def arq_Arq_come.j1 (k : Nat) (x4 : arq_Arq) (x7 : api_Ctl) : Option arq_Arq := ((reorder_Order_Gap.f x4.order).bind fun t28 => (if t28 = true then (arq_Arq_come.j3 k x4 x7 (!x4.rejected)) else (arq_Arq_come.j3 k x4 x7 false)))
def arq_Arq_come.j0 (k : Nat) (a1 : api_Ctl) (x4 : arq_Arq) : Option arq_Arq := ((reorder_Order_Next.f x4.order).bind fun t37 => (arq_Arq_come.j1 k x4 ({ Kind := 1, Ns := 0, Nr := t37, Poll := a1.Poll } : api_Ctl)))
end
def arq_Arq_come.f (k : Nat) (a0 : arq_Arq) (a1 : api_Ctl) (a2 : List Int) : Option arq_Arq := ((reorder_Order_Put.f k a0.order a1.Ns a2).bind fun t47 => (if t47.1 > 0 then (arq_Arq_come.j0 k a1 ({ a0 with rejected := false, order := t47.2 } : arq_Arq)) else (arq_Arq_come.j0 k a1 ({ a0 with order := t47.2 } : arq_Arq))))
theorem arq_Arq_come.calls {k : Nat} {a0 : arq_Arq} {a1 : api_Ctl} {a2 : List Int} {R : As} {w0 w : World} {b0 : Nat} {sa2 : Option Addr} {sc2 : Nat} {r : arq_Arq} (H : arq_Arq_come.f k a0 a1 a2 = some r) (HS : Sep.St [arq_Arq.at b0 a0, R] w0 w) (hr2 : rdC R 1 (.slice sa2 a2.length sc2) a2.length (a2.map (Value.int .u8))) : Calls Tryz.prog 235 #[Value.pointer (some ⟨b0, 0, none⟩), Value.agg #[Value.int .i64 a1.Kind, Value.int .i64 a1.Ns, Value.int .i64 a1.Nr, Value.bool a1.Poll], Value.slice sa2 a2.length sc2] w (Ret fun u w => u = Value.tuple #[] ∧ Sep.St [arq_Arq.at b0 r, R] w0 w) := by
 unfold arq_Arq_come.f at H
 refine calls_enter Tryz.func235 rfl rfl ?_
 have H : _ = some r := H
 refine V.seq (V.region (W.e (Y.box HS rfl) rfl ?_))
 rintro _ w ⟨nb1, rfl, HS⟩
 refine W.nx (V.meet (σ := arq_Arq) (fun st w => match st with | x4 => Sep.St [api_Ctl.at nb1 a1, arq_Arq.at b0 x4, R] w0 w ∧ ∃ kf5, kf5 ≤ k ∧ arq_Arq_come.j0 kf5 a1 x4 = some r) (fun st => match st with | x4 => [(0, Value.pointer (some ⟨b0, 0, none⟩)), (4, Value.pointer (some ⟨nb1, 0, none⟩))]) ?_ ?_)
 ·refine V.seq ?_
  replace HS := HS.fr 1
  obtain ⟨b8_45, b9_45, b10_45, a11_45, c11_45, d11_45, a12_45, c12_45, hi46, HS⟩ := arq_Arq.open HS
  refine V.dr [7] [8] [(7, Value.pointer (some ⟨b0, 0, none⟩)), (8, Value.pointer (some ⟨b0, 0, none⟩)), (9, Value.pointer (some ⟨b0, 0 + 9, none⟩)), (10, Value.pointer (some ⟨b9_45, 0, none⟩)), (11, Value.pointer (some ⟨nb1, 0 + 1, none⟩)), (12, Value.int .i64 a1.Ns), (13, Value.slice sa2 a2.length sc2)] mo HS ?_
  refine T.ev [(10, _), (12, _), (13, _)] [] [0, 1, 2, 3, 4, 5, 6] ⟨rfl, rfl, rfl, trivial⟩ ⟨.mv 0, .nc 7, .fa 8 fo136_9, .ld 9 0 Tryz.underlying131, .fa 4 fo188_1, .ld 11 7 Tryz.underlying3, .mv 2, trivial⟩ rfl (fun w HS => ?_)
  obtain ⟨t47, A48, H⟩ := bind_s H
  replace HS := HS.pm [2, 0, 1, 3, 4, 5, 6, 7, 8]
  refine ⟨_, Y.cl Tryz.func255 (reorder_Order_Put.calls A48 HS.j1 (rdC.part 7 hr2 rfl)), ?_⟩
  rintro _ w ⟨rfl, HS⟩
  replace HS := HS.o1
  refine T.nm [(14, Value.int .i64 t47.1), (15, Value.bool (decide (t47.1 > 0)))] HS ⟨.inl ⟨rfl, rfl⟩, ⟨.inr ⟨by decide, rfl⟩, trivial⟩⟩ ?_
  refine T.fn [(0, _), (4, _), (15, _)] ⟨rfl, rfl, rfl, trivial⟩ ⟨.n1 14 rfl rfl (fun w HS => X.cmp (decide (t47.1 > 0)) rfl rfl rfl rfl), trivial⟩ (fun w HS => ?_)
  refine At.next ?_
  by_cases c49 : t47.1 > 0
  ·replace H := ite_t c49 H
   refine V.condT (sb (decide_eq_true c49)) (V.region (W.mv rfl (W.nc rfl (W.fa fo136_7 rfl (W.st 1 7 HS inf4 rfl rfl rfl rfl rfl rfl fun w HS => ?_)))))
   refine W.nil ?_
   replace HS := HS.pm [7, 0, 1, 2, 3, 4, 5, 6, 8]
   replace HS := api_Ctl.close trivial HS
   replace HS := HS.pm [2, 3, 1, 4, 5, 6, 7, 0, 8]
   replace HS := arq_Arq.close trivial HS
   replace HS := HS.pk [1, 0, 2] []
   exact At.meet ({ a0 with rejected := false, order := t47.2 } : arq_Arq) ⟨rfl, rfl, trivial⟩ ⟨HS, k, by omega, H⟩
  ·replace H := ite_f c49 H
   refine V.condF (sb (decide_eq_false c49)) (V.skip ?_)
   replace HS := HS.pm [7, 0, 1, 2, 3, 4, 5, 6, 8]
   replace HS := api_Ctl.close trivial HS
   replace HS := HS.pm [2, 3, 1, 4, 5, 6, 7, 0, 8]
   replace HS := arq_Arq.close trivial HS
   replace HS := HS.pk [1, 0, 2] []
   exact At.meet ({ a0 with order := t47.2 } : arq_Arq) ⟨rfl, rfl, trivial⟩ ⟨HS, k, by omega, H⟩
 ·rintro x4 w ⟨HS, kf5, hkkf5, H⟩
  unfold arq_Arq_come.j0 at H
  refine V.meet (σ := Nat × api_Ctl) (fun st w => match st with | (nb6, x7) => Sep.St [api_Ctl.at nb6 x7, api_Ctl.at nb1 a1, arq_Arq.at b0 x4, R] w0 w ∧ ∃ kf8, kf8 ≤ kf5 ∧ arq_Arq_come.j1 kf8 x4 x7 = some r) (fun st => match st with | (nb6, x7) => [(0, Value.pointer (some ⟨b0, 0, none⟩)), (6, Value.pointer (some ⟨nb6, 0, none⟩))]) ?_ ?_
  ·replace HS := HS.fr 1
   obtain ⟨b8_31, b9_31, b10_31, a11_31, c11_31, d11_31, a12_31, c12_31, hi32, HS⟩ := arq_Arq.open HS
   replace HS := HS.fr 7
   obtain ⟨hi34, HS⟩ := api_Ctl.open HS
   refine V.dr [4, 8, 9] [7] [(19, Value.pointer (some ⟨b0, 0, none⟩)), (20, Value.pointer (some ⟨b0, 0, none⟩)), (21, Value.pointer (some ⟨b0, 0 + 9, none⟩)), (22, Value.pointer (some ⟨b9_31, 0, none⟩)), (24, Value.pointer (some ⟨nb1, 0 + 3, none⟩)), (25, Value.bool a1.Poll)] mo HS ?_
   refine T.two rfl rfl ⟨.mv 0, .nc 19, .fa 20 fo136_9, .ld 21 1 Tryz.underlying131, .fa 4 fo188_3, .ld 24 0 Tryz.underlying4, trivial⟩ (T.step (es := [8, 9]) _ [(22, Value.pointer (some ⟨b9_31, 0, none⟩))] rfl ⟨.inr ⟨rfl, rfl⟩, trivial⟩ (Or.inl rfl) (by intro d hd; cases hd; exact ⟨by decide, rfl, rfl⟩) [] [0, 1, 2, 3] rfl rfl rfl rfl rfl (fun w HS => ?_)) (T.step (es := [4, 9]) _ [] rfl trivial (Or.inl rfl) (by intro d hd; cases hd; exact ⟨by decide, rfl, rfl⟩) [7] [] rfl rfl rfl rfl rfl (fun w HS => ?_))
   ·have HS : Sep.St [blk nb1 (#[Value.int .i64 a1.Kind, Value.int .i64 a1.Ns, Value.int .i64 a1.Nr, Value.bool a1.Poll]) 188, blk b0 (#[Value.int .i64 x4.m, Value.int .i64 x4.t1, Value.int .i64 x4.n2, Value.int .i64 x4.size, Value.int .i64 x4.state, Value.int .i64 x4.tag, Value.int .i64 x4.tries, Value.bool x4.rejected, Value.pointer (some ⟨b8_31, 0, none⟩), Value.pointer (some ⟨b9_31, 0, none⟩), Value.pointer (some ⟨b10_31, 0, none⟩), Value.slice a11_31 x4.out.length c11_31, Value.slice a12_31 x4.inds.length c12_31, Value.int .i64 x4.sent, Value.int .i64 x4.acked, Value.int .i64 x4.lost]) 136, backlog_Log.at b8_31 x4.log, reorder_Order.at b9_31 x4.order, clock_Set.at b10_31 x4.timers, row 32 1 (.slice a11_31 x4.out.length c11_31) x4.out.length d11_31, tie (El.sl (El.int .u8)) d11_31 x4.out, row 3 1 (.slice a12_31 x4.inds.length c12_31) x4.inds.length (x4.inds.map (Value.int .i64)), R] w0 w := HS
    replace HS := HS.fr 3
    obtain ⟨b3_35, k3_35, a4_35, c4_35, d4_35, hi36, HS⟩ := reorder_Order.open HS
    obtain ⟨t37, A38, H⟩ := bind_s H
    refine ⟨_, Y.cl Tryz.func236 (reorder_Order_Next.calls A38 HS.j5), ?_⟩
    rintro _ w ⟨rfl, HS⟩
    replace HS := HS.o5
    refine T.nm [(23, Value.int .i64 t37), (26, Value.agg #[Value.int .i64 (1), Value.int .i64 (0), Value.int .i64 t37, Value.bool a1.Poll])] HS ⟨.inl ⟨rfl, rfl⟩, ⟨.inr ⟨by decide, rfl⟩, trivial⟩⟩ ?_
    refine T.ev [] [] [] trivial ⟨.fa 4 fo188_3, .ld 24 5 Tryz.underlying4, .n2 23 25 rfl rfl rfl (fun w HS => X.bd (Value.agg #[Value.int .i64 (1), Value.int .i64 (0), Value.int .i64 t37, Value.bool a1.Poll]) rfl (fun _ => by kernel_rfl)), trivial⟩ rfl (fun w HS => ?_)
    refine ⟨_, Y.alloc (z := Value.agg (#[Value.int .i64 (0), Value.int .i64 (0), Value.int .i64 (0), Value.bool false])) HS ze188, ?_⟩
    rintro _ w ⟨nb39, rfl, HS⟩
    refine T.nw HS ?_
    refine T.ev [(6, _), (26, _)] [] [5, 6, 7] ⟨rfl, rfl, trivial⟩ ⟨.fa 4 fo188_3, .ld 24 6 Tryz.underlying4, .n2 23 25 rfl rfl rfl (fun w HS => X.bd (Value.agg #[Value.int .i64 (1), Value.int .i64 (0), Value.int .i64 t37, Value.bool a1.Poll]) rfl (fun _ => by kernel_rfl)), trivial⟩ rfl (fun w HS => ?_)
    refine ⟨_, Y.storeSt (c' := #[Value.int .i64 (1), Value.int .i64 (0), Value.int .i64 t37, Value.bool a1.Poll]) 0 [Value.int .i64 (1), Value.int .i64 (0), Value.int .i64 t37, Value.bool a1.Poll] HS rfl inf188 rfl rfl rfl rfl rfl rfl, ?_⟩
    rintro _ w HS
    refine T.nn HS ?_
    refine T.fn [(0, _), (6, _)] ⟨rfl, rfl, trivial⟩ trivial (fun w HS => ?_)
    replace HS := api_Ctl.close trivial HS
    replace HS := HS.pm [6, 0, 1, 2, 3, 4, 5, 7, 8, 9, 10, 11, 12, 13]
    replace HS := api_Ctl.close trivial HS
    replace HS := HS.pm [2, 3, 4, 5, 6, 0, 1, 7, 8, 9, 10, 11, 12, 13]
    replace HS := reorder_Order.close trivial HS
    replace HS := HS.pm [3, 4, 0, 5, 6, 7, 8, 1, 2, 9]
    replace HS := arq_Arq.close trivial HS
    replace HS := HS.pk [2, 1, 0, 3] []
    exact At.meet (nb39, ({ Kind := 1, Ns := 0, Nr := t37, Poll := a1.Poll } : api_Ctl)) ⟨rfl, rfl, trivial⟩ ⟨HS, kf5, by omega, H⟩
   ·have HS : Sep.St [blk nb1 (#[Value.int .i64 a1.Kind, Value.int .i64 a1.Ns, Value.int .i64 a1.Nr, Value.bool a1.Poll]) 188, blk b0 (#[Value.int .i64 x4.m, Value.int .i64 x4.t1, Value.int .i64 x4.n2, Value.int .i64 x4.size, Value.int .i64 x4.state, Value.int .i64 x4.tag, Value.int .i64 x4.tries, Value.bool x4.rejected, Value.pointer (some ⟨b8_31, 0, none⟩), Value.pointer (some ⟨b9_31, 0, none⟩), Value.pointer (some ⟨b10_31, 0, none⟩), Value.slice a11_31 x4.out.length c11_31, Value.slice a12_31 x4.inds.length c12_31, Value.int .i64 x4.sent, Value.int .i64 x4.acked, Value.int .i64 x4.lost]) 136, backlog_Log.at b8_31 x4.log, reorder_Order.at b9_31 x4.order, clock_Set.at b10_31 x4.timers, row 32 1 (.slice a11_31 x4.out.length c11_31) x4.out.length d11_31, tie (El.sl (El.int .u8)) d11_31 x4.out, row 3 1 (.slice a12_31 x4.inds.length c12_31) x4.inds.length (x4.inds.map (Value.int .i64)), R] w0 w := HS
    refine ⟨_, Y.alloc (z := Value.agg (#[Value.int .i64 (0), Value.int .i64 (0), Value.int .i64 (0), Value.bool false])) HS ze188, ?_⟩
    rintro _ w ⟨nb40, rfl, HS⟩
    refine T.nw HS ?_
    refine T.ev [(22, _)] [] [0, 1, 2, 3] ⟨rfl, trivial⟩ ⟨.mv 0, .nc 19, .fa 20 fo136_9, .ld 21 2 Tryz.underlying131, .fa 4 fo188_3, .ld 24 1 Tryz.underlying4, trivial⟩ rfl (fun w HS => ?_)
    replace HS := HS.fr 4
    obtain ⟨b3_41, k3_41, a4_41, c4_41, d4_41, hi42, HS⟩ := reorder_Order.open HS
    obtain ⟨t43, A44, H⟩ := bind_s H
    refine ⟨_, Y.cl Tryz.func236 (reorder_Order_Next.calls A44 HS.j5), ?_⟩
    rintro _ w ⟨rfl, HS⟩
    replace HS := HS.o5
    refine T.nm [(23, Value.int .i64 t43), (26, Value.agg #[Value.int .i64 (1), Value.int .i64 (0), Value.int .i64 t43, Value.bool a1.Poll])] HS ⟨.inl ⟨rfl, rfl⟩, ⟨.inr ⟨by decide, rfl⟩, trivial⟩⟩ ?_
    refine T.ev [(6, _), (26, _)] [] [5, 6, 7] ⟨rfl, rfl, trivial⟩ ⟨.fa 4 fo188_3, .ld 24 6 Tryz.underlying4, .n2 23 25 rfl rfl rfl (fun w HS => X.bd (Value.agg #[Value.int .i64 (1), Value.int .i64 (0), Value.int .i64 t43, Value.bool a1.Poll]) rfl (fun _ => by kernel_rfl)), trivial⟩ rfl (fun w HS => ?_)
    refine ⟨_, Y.storeSt (c' := #[Value.int .i64 (1), Value.int .i64 (0), Value.int .i64 t43, Value.bool a1.Poll]) 5 [Value.int .i64 (1), Value.int .i64 (0), Value.int .i64 t43, Value.bool a1.Poll] HS rfl inf188 rfl rfl rfl rfl rfl rfl, ?_⟩
    rintro _ w HS
    refine T.nn HS ?_
    refine T.fn [(0, _), (6, _)] ⟨rfl, rfl, trivial⟩ trivial (fun w HS => ?_)
    replace HS := HS.pm [5, 0, 1, 2, 3, 4, 6, 7, 8, 9, 10, 11, 12, 13]
    replace HS := api_Ctl.close trivial HS
    replace HS := HS.pm [6, 0, 1, 2, 3, 4, 5, 7, 8, 9, 10, 11, 12, 13]
    replace HS := api_Ctl.close trivial HS
    replace HS := HS.pm [2, 3, 4, 5, 6, 0, 1, 7, 8, 9, 10, 11, 12, 13]
    replace HS := reorder_Order.close trivial HS
    replace HS := HS.pm [3, 4, 0, 5, 6, 7, 8, 1, 2, 9]
    replace HS := arq_Arq.close trivial HS
    replace HS := HS.pk [2, 1, 0, 3] []
    exact At.meet (nb40, ({ Kind := 1, Ns := 0, Nr := t43, Poll := a1.Poll } : api_Ctl)) ⟨rfl, rfl, trivial⟩ ⟨HS, kf5, by omega, H⟩
  ·rintro ⟨nb6, x7⟩ w ⟨HS, kf8, hkkf8, H⟩
   unfold arq_Arq_come.j1 at H
   refine V.meet (σ := arq_Arq × api_Ctl) (fun st w => match st with | (x10, x11) => Sep.St [api_Ctl.at nb6 x11, api_Ctl.at nb1 a1, arq_Arq.at b0 x10, R] w0 w ∧ ∃ kf12, kf12 ≤ kf8 ∧ arq_Arq_come.j2 kf12 x10 x11 = some r) (fun st => match st with | (x10, x11) => [(0, Value.pointer (some ⟨b0, 0, none⟩)), (6, Value.pointer (some ⟨nb6, 0, none⟩))]) ?_ ?_
   ·refine V.meet (σ := Bool) (fun st w => match st with | x17 => Sep.St [api_Ctl.at nb6 x7, api_Ctl.at nb1 a1, arq_Arq.at b0 x4, R] w0 w ∧ ∃ kf18, kf18 ≤ kf8 ∧ arq_Arq_come.j3 kf18 x4 x7 x17 = some r) (fun st => match st with | x17 => [(0, Value.pointer (some ⟨b0, 0, none⟩)), (6, Value.pointer (some ⟨nb6, 0, none⟩)), (38, Value.bool x17)]) ?_ ?_
    ·refine V.region (W.mv rfl (W.nc rfl ?_))
     replace HS := HS.fr 2
     obtain ⟨b8_24, b9_24, b10_24, a11_24, c11_24, d11_24, a12_24, c12_24, hi25, HS⟩ := arq_Arq.open HS
     refine W.fa fo136_9 rfl (W.ld 0 HS Tryz.underlying131 rfl rfl rfl rfl ?_)
     replace HS := HS.fr 2
     obtain ⟨b3_26, k3_26, a4_26, c4_26, d4_26, hi27, HS⟩ := reorder_Order.open HS
     obtain ⟨t28, A29, H⟩ := bind_s H
     refine W.e (Y.cl Tryz.func256 (reorder_Order_Gap.calls A29 HS.j5)) rfl ?_
     rintro _ w ⟨rfl, HS⟩
     replace HS := HS.o5
     refine W.mv rfl ?_
     by_cases c30 : t28 = true
     ·replace H := ite_t c30 H
      refine W.want 32 rfl (sb c30) (W.mv rfl (W.want 32 rfl (sb c30) (W.nc rfl (W.want 32 rfl (sb c30) (W.fa fo136_7 rfl (W.want 32 rfl (sb c30) (W.ld 5 HS Tryz.underlying4 rfl rfl rfl rfl (W.want 32 rfl (sb c30) (W.r (X.not rfl) rfl (W.r (X.pickT (sb c30) rfl) rfl (W.nil ?_)))))))))))
      replace HS := reorder_Order.close trivial HS
      replace HS := HS.pm [1, 2, 0, 3, 4, 5, 6, 7, 8, 9]
      replace HS := arq_Arq.close trivial HS
      replace HS := HS.pk [1, 2, 0, 3] []
      exact At.meet (!x4.rejected) ⟨rfl, rfl, rfl, trivial⟩ ⟨HS, kf8, by omega, H⟩
     ·replace H := ite_f c30 H
      refine W.pass 32 rfl (sb (b_f c30)) rfl rfl (W.pass 32 rfl (sb (b_f c30)) rfl rfl (W.pass 32 rfl (sb (b_f c30)) rfl rfl (W.pass 32 rfl (sb (b_f c30)) rfl rfl (W.pass 32 rfl (sb (b_f c30)) rfl rfl (W.r (X.pickF (sb (b_f c30)) rfl) rfl (W.nil ?_))))))
      replace HS := reorder_Order.close trivial HS
      replace HS := HS.pm [1, 2, 0, 3, 4, 5, 6, 7, 8, 9]
      replace HS := arq_Arq.close trivial HS
      replace HS := HS.pk [1, 2, 0, 3] []
      exact At.meet false ⟨rfl, rfl, rfl, trivial⟩ ⟨HS, kf8, by omega, H⟩
    ·rintro x17 w ⟨HS, kf18, hkkf18, H⟩
     unfold arq_Arq_come.j3 at H
     by_cases c19 : x17 = true
     ·replace H := ite_t c19 H
      refine V.condT (sb c19) (V.seq (V.region (W.mv rfl (W.nc rfl ?_))))
      replace HS := HS.fr 2
      obtain ⟨b8_20, b9_20, b10_20, a11_20, c11_20, d11_20, a12_20, c12_20, hi21, HS⟩ := arq_Arq.open HS
      refine W.fa fo136_7 rfl (W.st 0 7 HS inf4 rfl rfl rfl rfl rfl rfl fun w HS => ?_)
      refine W.nx (V.region ?_)
      replace HS := HS.fr 7
      obtain ⟨hi23, HS⟩ := api_Ctl.open HS
      refine W.fa fo188_0 rfl (W.st 0 0 HS inf3 rfl rfl rfl rfl rfl rfl fun w HS => ?_)
      refine W.fa fo188_3 rfl (W.st 0 3 HS inf4 rfl rfl rfl rfl rfl rfl fun w HS => ?_)
      refine W.nil ?_
      replace HS := api_Ctl.close trivial HS
      replace HS := HS.pm [1, 2, 3, 4, 5, 6, 7, 0, 8, 9]
      replace HS := arq_Arq.close trivial HS
      replace HS := HS.pk [1, 2, 0, 3] []
      exact At.meet (({ x4 with rejected := true } : arq_Arq), ({ x7 with Kind := 2, Poll := false } : api_Ctl)) ⟨rfl, rfl, trivial⟩ ⟨HS, kf18, by omega, H⟩
     ·replace H := ite_f c19 H
      refine V.condF (sb (b_f c19)) (V.skip ?_)
      exact At.meet (x4, x7) ⟨rfl, rfl, trivial⟩ ⟨HS, kf18, by omega, H⟩
   ·rintro ⟨x10, x11⟩ w ⟨HS, kf12, hkkf12, H⟩
    unfold arq_Arq_come.j2 at H
    refine V.region (W.mv rfl ?_)
    obtain ⟨hi14, HS⟩ := api_Ctl.open HS
    refine W.r (X.loadSt 0 [Value.int .i64 x11.Kind, Value.int .i64 x11.Ns, Value.int .i64 x11.Nr, Value.bool x11.Poll] HS rfl Tryz.underlying188 rfl inf188 rfl rfl) rfl ?_
    obtain ⟨t15, A16, H⟩ := bind_s H
    replace HS := HS.pm [2, 0, 1, 3]
    refine W.e (Y.cl Tryz.func153 (arq_Arq_tell.calls A16 HS.j1)) rfl ?_
    rintro _ w ⟨rfl, HS⟩
    replace HS := HS.o1
    refine W.nil ?_
    replace HS := HS.pk [0, 3] [1, 2]
    cases H
    exact At.end0 rfl ⟨_, rfl, rfl, HS⟩
mutual
def arq_Arq_numbered.j3 (k : Nat)  (x27 : arq_Arq) : Option arq_Arq := ((arq_Arq_pump.f k x27).bind fun t29 => some t29)
def arq_Arq_numbered.j2 (k : Nat) (a2 : api_Ctl) (a3 : List Int) (x25 : arq_Arq) : Option arq_Arq := (if a2.Kind = 0 then ((arq_Arq_come.f k x25 a2 a3).bind fun t34 => (arq_Arq_numbered.j3 k t34)) else (arq_Arq_numbered.j3 k x25))
def arq_Arq_numbered.j4 (k : Nat) (a2 : api_Ctl) (a3 : List Int) (x36 : arq_Arq) (x37 : Bool) : Option arq_Arq := (if x37 = true then ((arq_Arq_resend.f k x36).bind fun t40 => (arq_Arq_numbered.j2 k a2 a3 t40)) else (arq_Arq_numbered.j2 k a2 a3 x36))
def arq_Arq_numbered.j1 (k : Nat) (a0 : arq_Arq) (a2 : api_Ctl) (a3 : List Int) (x18 : Bool) : Option arq_Arq := (if x18 = true then ((arq_Arq_tell.f k a0 ({ Kind := 7, Ns := 0, Nr := 0, Poll := false } : api_Ctl)).bind fun t21 => ((arq_Arq_end.f t21).bind fun t23 => some t23)) else ((arq_Arq_acknowledged.f k a0 a2.Nr).bind fun t44 => (if t44.1 = true then (arq_Arq_numbered.j4 k a2 a3 t44.2 (decide (a2.Kind = 2))) else (arq_Arq_numbered.j4 k a2 a3 t44.2 false))))
def arq_Arq_numbered.j0 (k : Nat) (a0 : arq_Arq) (a2 : api_Ctl) (a3 : List Int) (x15 : Bool) : Option arq_Arq := (if x15 = true then some a0 else (if a2.Kind = 0 then (arq_Arq_numbered.j1 k a0 a2 a3 (decide ((a3.length : Int) > a0.size))) else (arq_Arq_numbered.j1 k a0 a2 a3 false)))
end
def arq_Arq_numbered.f (k : Nat) (a0 : arq_Arq) (a1 : Int) (a2 : api_Ctl) (a3 : List Int) : Option arq_Arq := (if a0.state = 0 then ((arq_Arq_put.f k a0 a1 ({ Kind := 6, Ns := 0, Nr := 0, Poll := false } : api_Ctl) ([] : List Int)).bind fun t7 => some t7) else (if a0.state = 2 then (arq_Arq_numbered.j0 k a0 a2 a3 (!(decide (a1 = a0.tag)))) else (arq_Arq_numbered.j0 k a0 a2 a3 true)))
theorem arq_Arq_numbered.calls {k : Nat} {a0 : arq_Arq} {a1 : Int} {a2 : api_Ctl} {a3 : List Int} {R : As} {w0 w : World} {b0 : Nat} {sa3 : Option Addr} {sc3 : Nat} {r : arq_Arq} (H : arq_Arq_numbered.f k a0 a1 a2 a3 = some r) (HS : Sep.St [arq_Arq.at b0 a0, R] w0 w) (hr3 : rdC R 1 (.slice sa3 a3.length sc3) a3.length (a3.map (Value.int .u8))) : Calls Tryz.prog 199 #[Value.pointer (some ⟨b0, 0, none⟩), Value.int .i64 a1, Value.agg #[Value.int .i64 a2.Kind, Value.int .i64 a2.Ns, Value.int .i64 a2.Nr, Value.bool a2.Poll], Value.slice sa3 a3.length sc3] w (Ret fun u w => u = Value.tuple #[] ∧ Sep.St [arq_Arq.at b0 r, R] w0 w) := by
 unfold arq_Arq_numbered.f at H
 refine calls_enter Tryz.func199 rfl rfl ?_
 have H : _ = some r := H
 refine V.seq (V.region (W.e (Y.box HS rfl) rfl ?_))
 rintro _ w ⟨nb1, rfl, HS⟩
 refine W.nx (V.seq (V.block (V.seq (V.region (W.mv rfl (W.nc rfl ?_))))))
 replace HS := HS.fr 1
 obtain ⟨b8_4, b9_4, b10_4, a11_4, c11_4, d11_4, a12_4, c12_4, hi5, HS⟩ := arq_Arq.open HS
 refine W.fa fo136_4 rfl (W.ld 0 HS Tryz.underlying3 rfl rfl rfl rfl (W.r (X.cmp (decide (a0.state = 0)) rfl rfl rfl rfl) rfl (W.as rfl (W.nx ?_))))
 by_cases c6 : a0.state = 0
 ·replace H := ite_t c6 H
  refine V.condT (sb (decide_eq_true c6)) (V.seq (V.region (W.mv rfl (W.mv rfl (W.r (X.bd (Value.agg #[Value.int .i64 (6), Value.int .i64 (0), Value.int .i64 (0), Value.bool false]) rfl (fun _ => by kernel_rfl)) rfl ?_)))))
  replace HS := arq_Arq.close trivial HS
  replace HS := row_nilF (Value.int .u8) 5 1 HS
  replace HS := St.row_freeze HS
  replace HS := HS.more 0 rfl (fun _ t => t) fsl.pers
  obtain ⟨t7, A8, H⟩ := bind_s H
  replace HS := HS.pm [2, 0, 1, 3, 4]
  refine W.e (Y.cl Tryz.func206 (arq_Arq_put.calls A8 HS.j2)) rfl ?_
  rintro _ w ⟨rfl, HS⟩
  replace HS := HS.o1
  refine W.nx (V.ret (At.blockRet (At.thenRet ?_)))
  replace HS := HS.pk [0, 3] [1, 2]
  cases H
  exact At.ret0 rfl ⟨_, rfl, rfl, HS⟩
 ·replace H := ite_f c6 H
  refine V.condF (sb (decide_eq_false c6)) (V.meet (σ := Bool) (fun st w => match st with | x15 => Sep.St [api_Ctl.at nb1 a2, arq_Arq.at b0 a0, R] w0 w ∧ ∃ kf16, kf16 ≤ k ∧ arq_Arq_numbered.j0 kf16 a0 a2 a3 x15 = some r) (fun st => match st with | x15 => [(0, Value.pointer (some ⟨b0, 0, none⟩)), (3, Value.slice sa3 a3.length sc3), (6, Value.pointer (some ⟨nb1, 0, none⟩)), (18, Value.bool x15)]) ?_ ?_)
  ·refine V.region (W.mv rfl (W.nc rfl (W.fa fo136_4 rfl (W.ld 0 HS Tryz.underlying3 rfl rfl rfl rfl (W.r (X.cmp (!(decide (a0.state = 2))) rfl rfl rfl rfl) rfl (W.mv rfl ?_))))))
   by_cases c52 : a0.state = 2
   ·replace H := ite_t c52 H
    refine W.want 24 rfl (sb (n_t (decide_eq_true c52))) (W.mv rfl (W.want 24 rfl (sb (n_t (decide_eq_true c52))) (W.mv rfl (W.want 24 rfl (sb (n_t (decide_eq_true c52))) (W.nc rfl (W.want 24 rfl (sb (n_t (decide_eq_true c52))) (W.fa fo136_5 rfl (W.want 24 rfl (sb (n_t (decide_eq_true c52))) (W.ld 0 HS Tryz.underlying3 rfl rfl rfl rfl (W.want 24 rfl (sb (n_t (decide_eq_true c52))) (W.r (X.cmp (!(decide (a1 = a0.tag))) rfl rfl rfl rfl) rfl (W.r (X.pickF (sb (n_t (decide_eq_true c52))) rfl) rfl (W.as rfl (W.nil ?_))))))))))))))
    replace HS := HS.pm [7, 0, 1, 2, 3, 4, 5, 6, 8]
    replace HS := api_Ctl.close trivial HS
    replace HS := HS.pm [1, 2, 3, 4, 5, 6, 7, 0, 8]
    replace HS := arq_Arq.close trivial HS
    replace HS := HS.pk [1, 0, 2] []
    exact At.meet (!(decide (a1 = a0.tag))) ⟨rfl, rfl, rfl, rfl, trivial⟩ ⟨HS, k, by omega, H⟩
   ·replace H := ite_f c52 H
    refine W.pass 24 rfl (sb (n_f (decide_eq_false c52))) rfl rfl (W.pass 24 rfl (sb (n_f (decide_eq_false c52))) rfl rfl (W.pass 24 rfl (sb (n_f (decide_eq_false c52))) rfl rfl (W.pass 24 rfl (sb (n_f (decide_eq_false c52))) rfl rfl (W.pass 24 rfl (sb (n_f (decide_eq_false c52))) rfl rfl (W.pass 24 rfl (sb (n_f (decide_eq_false c52))) rfl rfl (W.r (X.pickT (sb (n_f (decide_eq_false c52))) rfl) rfl (W.as rfl (W.nil ?_))))))))
    replace HS := HS.pm [7, 0, 1, 2, 3, 4, 5, 6, 8]
    replace HS := api_Ctl.close trivial HS
    replace HS := HS.pm [1, 2, 3, 4, 5, 6, 7, 0, 8]
    replace HS := arq_Arq.close trivial HS
    replace HS := HS.pk [1, 0, 2] []
    exact At.meet true ⟨rfl, rfl, rfl, rfl, trivial⟩ ⟨HS, k, by omega, H⟩
  ·rintro x15 w ⟨HS, kf16, hkkf16, H⟩
   unfold arq_Arq_numbered.j0 at H
   by_cases c17 : x15 = true
   ·replace H := ite_t c17 H
    refine V.condT (sb c17) (V.ret (At.blockRet (At.thenRet ?_)))
    replace HS := HS.pk [1, 2] [0]
    cases H
    exact At.ret0 rfl ⟨_, rfl, rfl, HS⟩
   ·replace H := ite_f c17 H
    refine V.condF (sb (b_f c17)) (V.meet (σ := Bool) (fun st w => match st with | x18 => Sep.St [api_Ctl.at nb1 a2, arq_Arq.at b0 a0, R] w0 w ∧ ∃ kf19, kf19 ≤ kf16 ∧ arq_Arq_numbered.j1 kf19 a0 a2 a3 x18 = some r) (fun st => match st with | x18 => [(0, Value.pointer (some ⟨b0, 0, none⟩)), (3, Value.slice sa3 a3.length sc3), (6, Value.pointer (some ⟨nb1, 0, none⟩)), (32, Value.bool x18)]) ?_ ?_)
    ·refine V.region ?_
     obtain ⟨hi48, HS⟩ := api_Ctl.open HS
     refine W.fa fo188_0 rfl (W.ld 0 HS Tryz.underlying3 rfl rfl rfl rfl (W.r (X.cmp (decide (a2.Kind = 0)) rfl rfl rfl rfl) rfl (W.mv rfl ?_)))
     by_cases c49 : a2.Kind = 0
     ·replace H := ite_t c49 H
      refine W.want 36 rfl (sb (decide_eq_true c49)) (W.mv rfl (W.want 36 rfl (sb (decide_eq_true c49)) (W.r (X.lenSl Tryz.underlying32 rfl) rfl (W.want 36 rfl (sb (decide_eq_true c49)) (W.mv rfl (W.want 36 rfl (sb (decide_eq_true c49)) (W.nc rfl (W.want 36 rfl (sb (decide_eq_true c49)) ?_))))))))
      replace HS := HS.fr 1
      obtain ⟨b8_50, b9_50, b10_50, a11_50, c11_50, d11_50, a12_50, c12_50, hi51, HS⟩ := arq_Arq.open HS
      refine W.fa fo136_3 rfl (W.want 36 rfl (sb (decide_eq_true c49)) (W.ld 0 HS Tryz.underlying3 rfl rfl rfl rfl (W.want 36 rfl (sb (decide_eq_true c49)) (W.r (X.cmp (decide ((a3.length : Int) > a0.size)) rfl rfl rfl rfl) rfl (W.r (X.pickT (sb (decide_eq_true c49)) rfl) rfl (W.as rfl (W.nil ?_)))))))
      replace HS := HS.pm [7, 0, 1, 2, 3, 4, 5, 6, 8]
      replace HS := api_Ctl.close trivial HS
      replace HS := HS.pm [1, 2, 3, 4, 5, 6, 7, 0, 8]
      replace HS := arq_Arq.close trivial HS
      replace HS := HS.pk [1, 0, 2] []
      exact At.meet (decide ((a3.length : Int) > a0.size)) ⟨rfl, rfl, rfl, rfl, trivial⟩ ⟨HS, kf16, by omega, H⟩
     ·replace H := ite_f c49 H
      refine W.pass 36 rfl (sb (decide_eq_false c49)) rfl rfl (W.pass 36 rfl (sb (decide_eq_false c49)) rfl rfl (W.pass 36 rfl (sb (decide_eq_false c49)) rfl rfl (W.pass 36 rfl (sb (decide_eq_false c49)) rfl rfl (W.pass 36 rfl (sb (decide_eq_false c49)) rfl rfl (W.pass 36 rfl (sb (decide_eq_false c49)) rfl rfl (W.pass 36 rfl (sb (decide_eq_false c49)) rfl rfl (W.r (X.pickF (sb (decide_eq_false c49)) rfl) rfl (W.as rfl (W.nil ?_)))))))))
      replace HS := api_Ctl.close trivial HS
      exact At.meet false ⟨rfl, rfl, rfl, rfl, trivial⟩ ⟨HS, kf16, by omega, H⟩
    ·rintro x18 w ⟨HS, kf19, hkkf19, H⟩
     unfold arq_Arq_numbered.j1 at H
     by_cases c20 : x18 = true
     ·replace H := ite_t c20 H
      refine V.condT (sb c20) (V.seq (V.region (W.mv rfl (W.r (X.bd (Value.agg #[Value.int .i64 (7), Value.int .i64 (0), Value.int .i64 (0), Value.bool false]) rfl (fun _ => by kernel_rfl)) rfl ?_))))
      obtain ⟨t21, A22, H⟩ := bind_s H
      replace HS := HS.pm [1, 0, 2]
      refine W.e (Y.cl Tryz.func153 (arq_Arq_tell.calls A22 HS.j1)) rfl ?_
      rintro _ w ⟨rfl, HS⟩
      replace HS := HS.o1
      refine W.nx (V.seq (V.region (W.mv rfl ?_)))
      obtain ⟨t23, A24, H⟩ := bind_s H
      refine W.e (Y.cl Tryz.func186 (arq_Arq_end.calls A24 HS.j1)) rfl ?_
      rintro _ w ⟨rfl, HS⟩
      replace HS := HS.o1
      refine W.nx (V.ret (At.blockRet (At.thenRet ?_)))
      replace HS := HS.pk [0, 2] [1]
      cases H
      exact At.ret0 rfl ⟨_, rfl, rfl, HS⟩
     ·replace H := ite_f c20 H
      refine V.condF (sb (b_f c20)) (V.skip (At.blockEnd (At.next (V.meet (σ := arq_Arq) (fun st w => match st with | x25 => Sep.St [api_Ctl.at nb1 a2, arq_Arq.at b0 x25, R] w0 w ∧ ∃ kf26, kf26 ≤ kf19 ∧ arq_Arq_numbered.j2 kf26 a2 a3 x25 = some r) (fun st => match st with | x25 => [(0, Value.pointer (some ⟨b0, 0, none⟩)), (3, Value.slice sa3 a3.length sc3), (6, Value.pointer (some ⟨nb1, 0, none⟩))]) ?_ ?_))))
      ·refine V.meet (σ := arq_Arq × Bool) (fun st w => match st with | (x36, x37) => Sep.St [api_Ctl.at nb1 a2, arq_Arq.at b0 x36, R] w0 w ∧ ∃ kf38, kf38 ≤ kf19 ∧ arq_Arq_numbered.j4 kf38 a2 a3 x36 x37 = some r) (fun st => match st with | (x36, x37) => [(0, Value.pointer (some ⟨b0, 0, none⟩)), (3, Value.slice sa3 a3.length sc3), (6, Value.pointer (some ⟨nb1, 0, none⟩)), (58, Value.bool x37)]) ?_ ?_
       ·refine V.region (W.mv rfl ?_)
        obtain ⟨hi43, HS⟩ := api_Ctl.open HS
        refine W.fa fo188_2 rfl (W.ld 0 HS Tryz.underlying3 rfl rfl rfl rfl ?_)
        obtain ⟨t44, A45, H⟩ := bind_s H
        replace HS := HS.pm [1, 0, 2]
        refine W.e (Y.cl Tryz.func234 (arq_Arq_acknowledged.calls A45 HS.j1)) rfl ?_
        rintro _ w ⟨rfl, HS⟩
        replace HS := HS.o1
        refine W.mv rfl ?_
        by_cases c46 : t44.1 = true
        ·replace H := ite_t c46 H
         refine W.want 54 rfl (sb c46) (W.fa fo188_0 rfl (W.want 54 rfl (sb c46) (W.ld 1 HS Tryz.underlying3 rfl rfl rfl rfl (W.want 54 rfl (sb c46) (W.r (X.cmp (decide (a2.Kind = 2)) rfl rfl rfl rfl) rfl (W.r (X.pickT (sb c46) rfl) rfl (W.nil ?_)))))))
         replace HS := HS.pm [1, 0, 2]
         replace HS := api_Ctl.close trivial HS
         exact At.meet (t44.2, decide (a2.Kind = 2)) ⟨rfl, rfl, rfl, rfl, trivial⟩ ⟨HS, kf19, by omega, H⟩
        ·replace H := ite_f c46 H
         refine W.pass 54 rfl (sb (b_f c46)) rfl rfl (W.pass 54 rfl (sb (b_f c46)) rfl rfl (W.pass 54 rfl (sb (b_f c46)) rfl rfl (W.r (X.pickF (sb (b_f c46)) rfl) rfl (W.nil ?_))))
         replace HS := HS.pm [1, 0, 2]
         replace HS := api_Ctl.close trivial HS
         exact At.meet (t44.2, false) ⟨rfl, rfl, rfl, rfl, trivial⟩ ⟨HS, kf19, by omega, H⟩
       ·rintro ⟨x36, x37⟩ w ⟨HS, kf38, hkkf38, H⟩
        unfold arq_Arq_numbered.j4 at H
        by_cases c39 : x37 = true
        ·replace H := ite_t c39 H
         refine V.condT (sb c39) (V.region (W.mv rfl ?_))
         obtain ⟨t40, A41, H⟩ := bind_s H
         replace HS := HS.pm [1, 0, 2]
         refine W.e (Y.cl Tryz.func123 (arq_Arq_resend.calls A41 HS.j1)) rfl ?_
         rintro _ w ⟨rfl, HS⟩
         replace HS := HS.o1
         refine W.nil ?_
         replace HS := HS.pk [1, 0, 2] []
         exact At.meet t40 ⟨rfl, rfl, rfl, trivial⟩ ⟨HS, kf38, by omega, H⟩
        ·replace H := ite_f c39 H
         refine V.condF (sb (b_f c39)) (V.skip ?_)
         exact At.meet x36 ⟨rfl, rfl, rfl, trivial⟩ ⟨HS, kf38, by omega, H⟩
      ·rintro x25 w ⟨HS, kf26, hkkf26, H⟩
       unfold arq_Arq_numbered.j2 at H
       refine V.meet (σ := arq_Arq) (fun st w => match st with | x27 => Sep.St [api_Ctl.at nb1 a2, arq_Arq.at b0 x27, R] w0 w ∧ ∃ kf28, kf28 ≤ kf26 ∧ arq_Arq_numbered.j3 kf28 x27 = some r) (fun st => match st with | x27 => [(0, Value.pointer (some ⟨b0, 0, none⟩))]) ?_ ?_
       ·refine V.seq (V.region ?_)
        obtain ⟨hi32, HS⟩ := api_Ctl.open HS
        refine W.fa fo188_0 rfl (W.ld 0 HS Tryz.underlying3 rfl rfl rfl rfl (W.r (X.cmp (decide (a2.Kind = 0)) rfl rfl rfl rfl) rfl (W.nx ?_)))
        by_cases c33 : a2.Kind = 0
        ·replace H := ite_t c33 H
         refine V.condT (sb (decide_eq_true c33)) (V.region (W.mv rfl (W.r (X.loadSt 0 [Value.int .i64 a2.Kind, Value.int .i64 a2.Ns, Value.int .i64 a2.Nr, Value.bool a2.Poll] HS rfl Tryz.underlying188 rfl inf188 rfl rfl) rfl (W.mv rfl ?_))))
         obtain ⟨t34, A35, H⟩ := bind_s H
         replace HS := HS.pm [1, 0, 2]
         refine W.e (Y.cl Tryz.func235 (arq_Arq_come.calls A35 HS.j1 (rdC.part 1 hr3 rfl))) rfl ?_
         rintro _ w ⟨rfl, HS⟩
         replace HS := HS.o1
         refine W.nil ?_
         replace HS := HS.pm [1, 0, 2]
         replace HS := api_Ctl.close trivial HS
         exact At.meet t34 ⟨rfl, trivial⟩ ⟨HS, kf26, by omega, H⟩
        ·replace H := ite_f c33 H
         refine V.condF (sb (decide_eq_false c33)) (V.skip ?_)
         replace HS := api_Ctl.close trivial HS
         exact At.meet x25 ⟨rfl, trivial⟩ ⟨HS, kf26, by omega, H⟩
       ·rintro x27 w ⟨HS, kf28, hkkf28, H⟩
        unfold arq_Arq_numbered.j3 at H
        refine V.region (W.mv rfl ?_)
        obtain ⟨t29, A30, H⟩ := bind_s H
        replace HS := HS.pm [1, 0, 2]
        refine W.e (Y.cl Tryz.func146 (arq_Arq_pump.calls A30 HS.j1)) rfl ?_
        rintro _ w ⟨rfl, HS⟩
        replace HS := HS.o1
        refine W.nil ?_
        replace HS := HS.pk [0, 2] [1]
        cases H
        exact At.end0 rfl ⟨_, rfl, rfl, HS⟩
mutual
def arq_Arq_Input.j1 (a0 : arq_Arq) (x32 : Bool) : Option arq_Arq := (if x32 = true then ((arq_Arq_end.f a0).bind fun t35 => some t35) else some a0)
def arq_Arq_Input.j0 (k : Nat) (a0 : arq_Arq) (a1 : List Int) (x8 : api_Ctl) (x9 : Int) (x10 : Int) : Option arq_Arq := (if x10 = 0 then (if x8.Kind = 3 then ((arq_Arq_asked.f k a0 (ior .i64 (w64 ((w64 (a1.getD (0 : Int).toNat 0)) * 2 ^ (min (8 : Int).toNat IntKind.i64.bits))) (w64 (a1.getD (1 : Int).toNat 0))) x8.Poll).bind fun t17 => some t17) else (if x8.Kind = 4 then (if (ior .i64 (w64 ((w64 (a1.getD (0 : Int).toNat 0)) * 2 ^ (min (8 : Int).toNat IntKind.i64.bits))) (w64 (a1.getD (1 : Int).toNat 0))) = a0.tag then ((arq_Arq_accepted.f k a0).bind fun t23 => some t23) else some a0) else (if x8.Kind = 5 then ((arq_Arq_closed.f k a0 (ior .i64 (w64 ((w64 (a1.getD (0 : Int).toNat 0)) * 2 ^ (min (8 : Int).toNat IntKind.i64.bits))) (w64 (a1.getD (1 : Int).toNat 0))) x8.Poll).bind fun t26 => some t26) else (if x8.Kind = 6 then ((arq_Arq_refused.f a0 (ior .i64 (w64 ((w64 (a1.getD (0 : Int).toNat 0)) * 2 ^ (min (8 : Int).toNat IntKind.i64.bits))) (w64 (a1.getD (1 : Int).toNat 0)))).bind fun t29 => some t29) else (if x8.Kind = 7 then (if (ior .i64 (w64 ((w64 (a1.getD (0 : Int).toNat 0)) * 2 ^ (min (8 : Int).toNat IntKind.i64.bits))) (w64 (a1.getD (1 : Int).toNat 0))) = a0.tag then (arq_Arq_Input.j1 a0 (decide (a0.state = 2))) else (arq_Arq_Input.j1 a0 false)) else (if 0 ≤ w64 (2 + x9) ∧ w64 (2 + x9) ≤ (a1.length : Int) ∧ (a1.length : Int) ≤ (a1.length : Int) then ((arq_Arq_numbered.f k a0 (ior .i64 (w64 ((w64 (a1.getD (0 : Int).toNat 0)) * 2 ^ (min (8 : Int).toNat IntKind.i64.bits))) (w64 (a1.getD (1 : Int).toNat 0))) x8 (cut a1 (w64 (2 + x9)) (a1.length : Int))).bind fun t41 => some t41) else none)))))) else some a0)
end
def arq_Arq_Input.f (k : Nat) (a0 : arq_Arq) (a1 : List Int) : Option arq_Arq := (if (a1.length : Int) < 2 then some a0 else (if 0 ≤ (0 : Int) ∧ (0 : Int) < (a1.length : Int) then (if 0 ≤ (1 : Int) ∧ (1 : Int) < (a1.length : Int) then (if 0 ≤ (2 : Int) ∧ (2 : Int) ≤ (a1.length : Int) ∧ (a1.length : Int) ≤ (a1.length : Int) then ((control_Read.f k (cut a1 (2 : Int) (a1.length : Int)) a0.m).bind fun t46 => (arq_Arq_Input.j0 k a0 a1 t46.1 t46.2.1 t46.2.2)) else none) else none) else none))
theorem arq_Arq_Input.calls {k : Nat} {a0 : arq_Arq} {a1 : List Int} {R : As} {w0 w : World} {b0 : Nat} {sa1 : Option Addr} {sc1 : Nat} {r : arq_Arq} (H : arq_Arq_Input.f k a0 a1 = some r) (HS : Sep.St [arq_Arq.at b0 a0, R] w0 w) (hr1 : rdC R 1 (.slice sa1 a1.length sc1) a1.length (a1.map (Value.int .u8))) : Calls Tryz.prog 139 #[Value.pointer (some ⟨b0, 0, none⟩), Value.slice sa1 a1.length sc1] w (Ret fun u w => u = Value.tuple #[] ∧ Sep.St [arq_Arq.at b0 r, R] w0 w) := by
 unfold arq_Arq_Input.f at H
 refine calls_enter Tryz.func139 rfl rfl ?_
 have H : _ = some r := H
 refine V.seq (V.seq (V.region (W.mv rfl (W.r (X.lenSl Tryz.underlying32 rfl) rfl (W.r (X.cmp (decide ((a1.length : Int) < 2)) rfl rfl rfl rfl) rfl (W.nx ?_))))))
 by_cases c2 : (a1.length : Int) < 2
 ·replace H := ite_t c2 H
  refine V.condT (sb (decide_eq_true c2)) (V.ret (At.thenRet ?_))
  cases H
  exact At.ret0 rfl ⟨_, rfl, rfl, HS⟩
 ·replace H := ite_f c2 H
  refine V.condF (sb (decide_eq_false c2)) (V.skip (At.next (V.seq ?_)))
  obtain ⟨c3, H⟩ := ite_n H
  obtain ⟨eb4, eo5, hh⟩ := (rdC.at 1 hr1 HS rfl).some (by decide) c3.1 c3.2; subst hh
  obtain ⟨c6, H⟩ := ite_n H
  refine V.dr [] [] [(11, Value.slice (some ⟨eb4, eo5, none⟩) a1.length sc1), (12, Value.pointer (some ⟨eb4, eo5 + (0 : Int).toNat * 1, none⟩)), (13, Value.int .u8 (a1.getD (0 : Int).toNat 0)), (14, Value.int .i64 (w64 (a1.getD (0 : Int).toNat 0))), (15, Value.int .i64 (w64 ((w64 (a1.getD (0 : Int).toNat 0)) * 2 ^ (min (8 : Int).toNat IntKind.i64.bits)))), (16, Value.slice (some ⟨eb4, eo5, none⟩) a1.length sc1), (17, Value.pointer (some ⟨eb4, eo5 + (1 : Int).toNat * 1, none⟩)), (18, Value.int .u8 (a1.getD (1 : Int).toNat 0)), (19, Value.int .i64 (w64 (a1.getD (1 : Int).toNat 0))), (20, Value.int .i64 (ior .i64 (w64 ((w64 (a1.getD (0 : Int).toNat 0)) * 2 ^ (min (8 : Int).toNat IntKind.i64.bits))) (w64 (a1.getD (1 : Int).toNat 0)))), (4, Value.int .i64 (ior .i64 (w64 ((w64 (a1.getD (0 : Int).toNat 0)) * 2 ^ (min (8 : Int).toNat IntKind.i64.bits))) (w64 (a1.getD (1 : Int).toNat 0))))] mo HS ?_
  refine T.fn [(0, _), (1, _), (4, _)] ⟨rfl, rfl, rfl, trivial⟩ ⟨.mv 1, .n1 11 rfl rfl (fun w HS => X.indexSl Tryz.underlying32 inf5 rfl rfl c3.1 c3.2), .n1 12 rfl rfl (fun w HS => X.load Tryz.underlying5 rfl rfl ((rdC.at 1 hr1 HS rfl).cellI c3.1 c3.2)), .n1 13 rfl rfl (fun w HS => X.conv Tryz.underlying5 Tryz.underlying3 rfl), .n1 14 rfl rfl (fun w HS => X.shl rfl rfl (by decide)), .mv 1, .n1 16 rfl rfl (fun w HS => X.indexSl Tryz.underlying32 inf5 rfl rfl c6.1 c6.2), .n1 17 rfl rfl (fun w HS => X.load Tryz.underlying5 rfl rfl ((rdC.at 1 hr1 HS rfl).cellI c6.1 c6.2)), .n1 18 rfl rfl (fun w HS => X.conv Tryz.underlying5 Tryz.underlying3 rfl), .n2 15 19 rfl rfl rfl (fun w HS => X.or rfl rfl), .as 20, trivial⟩ (fun w HS => ?_)
  refine At.next (V.meet (σ := Nat × api_Ctl × Int × Int) (fun st w => match st with | (nb7, x8, x9, x10) => Sep.St [api_Ctl.at nb7 x8, arq_Arq.at b0 a0, R] w0 w ∧ ∃ kf11, kf11 ≤ k ∧ arq_Arq_Input.j0 kf11 a0 a1 x8 x9 x10 = some r) (fun st => match st with | (nb7, x8, x9, x10) => [(0, Value.pointer (some ⟨b0, 0, none⟩)), (1, Value.slice (some ⟨eb4, eo5, none⟩) a1.length sc1), (4, Value.int .i64 (ior .i64 (w64 ((w64 (a1.getD (0 : Int).toNat 0)) * 2 ^ (min (8 : Int).toNat IntKind.i64.bits))) (w64 (a1.getD (1 : Int).toNat 0)))), (5, Value.pointer (some ⟨nb7, 0, none⟩)), (6, Value.int .i64 x9), (7, Value.int .i64 x10)]) ?_ ?_)
  ·obtain ⟨c43, H⟩ := ite_n H
   obtain ⟨b8_44, b9_44, b10_44, a11_44, c11_44, d11_44, a12_44, c12_44, hi45, HS⟩ := arq_Arq.open HS
   refine V.dr [6, 11, 12] [7, 8, 9, 10, 13, 14] [(22, Value.slice (some ⟨eb4, eo5, none⟩) a1.length sc1), (23, Value.slice (vaddr (some ⟨eb4, eo5, none⟩) sc1 (2 : Int).toNat 1) (cut a1 (2 : Int) (a1.length : Int)).length (sc1 - (2 : Int).toNat)), (24, Value.pointer (some ⟨b0, 0, none⟩)), (25, Value.pointer (some ⟨b0, 0, none⟩)), (26, Value.pointer (some ⟨b0, 0 + 0, none⟩)), (27, Value.int .i64 a0.m)] mo HS ?_
   refine T.two rfl rfl ⟨.mv 1, .n1 22 rfl rfl (fun w HS => X.slL Tryz.underlying32 inf5 rfl rfl c43), .mv 0, .nc 24, .fa 25 fo136_0, .ld 26 0 Tryz.underlying3, trivial⟩ (T.step (es := [11, 12]) _ [(23, Value.slice (vaddr (some ⟨eb4, eo5, none⟩) sc1 (2 : Int).toNat 1) (cut a1 (2 : Int) (a1.length : Int)).length (sc1 - (2 : Int).toNat)), (27, Value.int .i64 a0.m)] rfl ⟨.inr ⟨rfl, rfl⟩, ⟨.inr ⟨rfl, rfl⟩, trivial⟩⟩ (Or.inl rfl) (by intro d hd; cases hd; exact ⟨by decide, rfl, rfl⟩) [13, 14] [0, 1, 2, 3, 4, 5] rfl rfl rfl rfl rfl (fun w HS => ?_)) (T.step (es := [6, 12]) _ [] rfl trivial (Or.inl rfl) (by intro d hd; cases hd; exact ⟨by decide, rfl, rfl⟩) [7, 8, 9, 10, 13, 14] [] rfl rfl rfl rfl rfl (fun w HS => ?_))
   ·have HS : Sep.St [blk b0 (#[Value.int .i64 a0.m, Value.int .i64 a0.t1, Value.int .i64 a0.n2, Value.int .i64 a0.size, Value.int .i64 a0.state, Value.int .i64 a0.tag, Value.int .i64 a0.tries, Value.bool a0.rejected, Value.pointer (some ⟨b8_44, 0, none⟩), Value.pointer (some ⟨b9_44, 0, none⟩), Value.pointer (some ⟨b10_44, 0, none⟩), Value.slice a11_44 a0.out.length c11_44, Value.slice a12_44 a0.inds.length c12_44, Value.int .i64 a0.sent, Value.int .i64 a0.acked, Value.int .i64 a0.lost]) 136, backlog_Log.at b8_44 a0.log, reorder_Order.at b9_44 a0.order, clock_Set.at b10_44 a0.timers, row 32 1 (.slice a11_44 a0.out.length c11_44) a0.out.length d11_44, tie (El.sl (El.int .u8)) d11_44 a0.out, row 3 1 (.slice a12_44 a0.inds.length c12_44) a0.inds.length (a0.inds.map (Value.int .i64)), R] w0 w := HS
    obtain ⟨t46, A47, H⟩ := bind_s H
    refine ⟨_, Y.cl Tryz.func194 (control_Read.calls A47 HS.j0 (rdC.part 7 (rdC.subM hr1 c43) rfl)), ?_⟩
    rintro _ w ⟨rfl, HS⟩
    replace HS := HS.o0
    refine T.nm [(28, Value.tuple #[Value.agg #[Value.int .i64 t46.1.Kind, Value.int .i64 t46.1.Ns, Value.int .i64 t46.1.Nr, Value.bool t46.1.Poll], Value.int .i64 t46.2.1, Value.int .i64 t46.2.2]), (21, Value.tuple #[Value.agg #[Value.int .i64 t46.1.Kind, Value.int .i64 t46.1.Ns, Value.int .i64 t46.1.Nr, Value.bool t46.1.Poll], Value.int .i64 t46.2.1, Value.int .i64 t46.2.2]), (29, Value.agg #[Value.int .i64 t46.1.Kind, Value.int .i64 t46.1.Ns, Value.int .i64 t46.1.Nr, Value.bool t46.1.Poll]), (30, Value.int .i64 t46.2.1), (31, Value.int .i64 t46.2.2)] HS ⟨.inl ⟨rfl, rfl⟩, ⟨.inr ⟨by decide, rfl⟩, ⟨.inr ⟨by decide, rfl⟩, ⟨.inr ⟨by decide, rfl⟩, ⟨.inr ⟨by decide, rfl⟩, trivial⟩⟩⟩⟩⟩ ?_
    refine T.ev [] [13, 14] [] trivial ⟨.mv 28, .n1 21 rfl rfl (fun w HS => X.extract rfl rfl), .n1 21 rfl rfl (fun w HS => X.extract rfl rfl), .n1 21 rfl rfl (fun w HS => X.extract rfl rfl), trivial⟩ rfl (fun w HS => ?_)
    refine ⟨_, Y.alloc (z := Value.agg (#[Value.int .i64 (0), Value.int .i64 (0), Value.int .i64 (0), Value.bool false])) HS ze188, ?_⟩
    rintro _ w ⟨nb48, rfl, HS⟩
    refine T.nw HS ?_
    refine T.ev [(5, _), (29, _)] [] [7, 8] ⟨rfl, rfl, trivial⟩ ⟨.mv 28, .n1 21 rfl rfl (fun w HS => X.extract rfl rfl), .n1 21 rfl rfl (fun w HS => X.extract rfl rfl), .n1 21 rfl rfl (fun w HS => X.extract rfl rfl), trivial⟩ rfl (fun w HS => ?_)
    refine ⟨_, Y.storeSt (c' := #[Value.int .i64 t46.1.Kind, Value.int .i64 t46.1.Ns, Value.int .i64 t46.1.Nr, Value.bool t46.1.Poll]) 0 [Value.int .i64 t46.1.Kind, Value.int .i64 t46.1.Ns, Value.int .i64 t46.1.Nr, Value.bool t46.1.Poll] HS rfl inf188 rfl rfl rfl rfl rfl rfl, ?_⟩
    rintro _ w HS
    refine T.nm [(6, Value.int .i64 t46.2.1), (7, Value.int .i64 t46.2.2)] HS ⟨.inr ⟨by decide, rfl⟩, ⟨.inr ⟨by decide, rfl⟩, trivial⟩⟩ ?_
    refine T.fn [(0, _), (1, _), (4, _), (5, _), (6, _), (7, _)] ⟨rfl, rfl, rfl, rfl, rfl, rfl, trivial⟩ ⟨.n1 21 rfl rfl (fun w HS => X.extract rfl rfl), .n1 21 rfl rfl (fun w HS => X.extract rfl rfl), .as 30, .as 31, trivial⟩ (fun w HS => ?_)
    replace HS := api_Ctl.close trivial HS
    replace HS := HS.pm [1, 2, 3, 4, 5, 6, 7, 0, 8]
    replace HS := arq_Arq.close trivial HS
    replace HS := HS.pk [1, 0, 2] []
    exact At.meet (nb48, t46.1, t46.2.1, t46.2.2) ⟨rfl, rfl, rfl, rfl, rfl, rfl, trivial⟩ ⟨HS, k, by omega, H⟩
   ·have HS : Sep.St [blk b0 (#[Value.int .i64 a0.m, Value.int .i64 a0.t1, Value.int .i64 a0.n2, Value.int .i64 a0.size, Value.int .i64 a0.state, Value.int .i64 a0.tag, Value.int .i64 a0.tries, Value.bool a0.rejected, Value.pointer (some ⟨b8_44, 0, none⟩), Value.pointer (some ⟨b9_44, 0, none⟩), Value.pointer (some ⟨b10_44, 0, none⟩), Value.slice a11_44 a0.out.length c11_44, Value.slice a12_44 a0.inds.length c12_44, Value.int .i64 a0.sent, Value.int .i64 a0.acked, Value.int .i64 a0.lost]) 136, backlog_Log.at b8_44 a0.log, reorder_Order.at b9_44 a0.order, clock_Set.at b10_44 a0.timers, row 32 1 (.slice a11_44 a0.out.length c11_44) a0.out.length d11_44, tie (El.sl (El.int .u8)) d11_44 a0.out, row 3 1 (.slice a12_44 a0.inds.length c12_44) a0.inds.length (a0.inds.map (Value.int .i64)), R] w0 w := HS
    refine ⟨_, Y.alloc (z := Value.agg (#[Value.int .i64 (0), Value.int .i64 (0), Value.int .i64 (0), Value.bool false])) HS ze188, ?_⟩
    rintro _ w ⟨nb49, rfl, HS⟩
    refine T.nw HS ?_
    refine T.ev [(23, _), (27, _)] [13, 14] [0, 1, 2, 3, 4, 5] ⟨rfl, rfl, trivial⟩ ⟨.mv 1, .n1 22 rfl rfl (fun w HS => X.slL Tryz.underlying32 inf5 rfl rfl c43), .mv 0, .nc 24, .fa 25 fo136_0, .ld 26 1 Tryz.underlying3, trivial⟩ rfl (fun w HS => ?_)
    obtain ⟨t50, A51, H⟩ := bind_s H
    refine ⟨_, Y.cl Tryz.func194 (control_Read.calls A51 HS.j0 (rdC.part 8 (rdC.subM hr1 c43) rfl)), ?_⟩
    rintro _ w ⟨rfl, HS⟩
    replace HS := HS.o0
    refine T.nm [(28, Value.tuple #[Value.agg #[Value.int .i64 t50.1.Kind, Value.int .i64 t50.1.Ns, Value.int .i64 t50.1.Nr, Value.bool t50.1.Poll], Value.int .i64 t50.2.1, Value.int .i64 t50.2.2]), (21, Value.tuple #[Value.agg #[Value.int .i64 t50.1.Kind, Value.int .i64 t50.1.Ns, Value.int .i64 t50.1.Nr, Value.bool t50.1.Poll], Value.int .i64 t50.2.1, Value.int .i64 t50.2.2]), (29, Value.agg #[Value.int .i64 t50.1.Kind, Value.int .i64 t50.1.Ns, Value.int .i64 t50.1.Nr, Value.bool t50.1.Poll]), (30, Value.int .i64 t50.2.1), (31, Value.int .i64 t50.2.2)] HS ⟨.inl ⟨rfl, rfl⟩, ⟨.inr ⟨by decide, rfl⟩, ⟨.inr ⟨by decide, rfl⟩, ⟨.inr ⟨by decide, rfl⟩, ⟨.inr ⟨by decide, rfl⟩, trivial⟩⟩⟩⟩⟩ ?_
    refine T.ev [(5, _), (29, _)] [] [7, 8] ⟨rfl, rfl, trivial⟩ ⟨.mv 28, .n1 21 rfl rfl (fun w HS => X.extract rfl rfl), .n1 21 rfl rfl (fun w HS => X.extract rfl rfl), .n1 21 rfl rfl (fun w HS => X.extract rfl rfl), trivial⟩ rfl (fun w HS => ?_)
    refine ⟨_, Y.storeSt (c' := #[Value.int .i64 t50.1.Kind, Value.int .i64 t50.1.Ns, Value.int .i64 t50.1.Nr, Value.bool t50.1.Poll]) 0 [Value.int .i64 t50.1.Kind, Value.int .i64 t50.1.Ns, Value.int .i64 t50.1.Nr, Value.bool t50.1.Poll] HS rfl inf188 rfl rfl rfl rfl rfl rfl, ?_⟩
    rintro _ w HS
    refine T.nm [(6, Value.int .i64 t50.2.1), (7, Value.int .i64 t50.2.2)] HS ⟨.inr ⟨by decide, rfl⟩, ⟨.inr ⟨by decide, rfl⟩, trivial⟩⟩ ?_
    refine T.fn [(0, _), (1, _), (4, _), (5, _), (6, _), (7, _)] ⟨rfl, rfl, rfl, rfl, rfl, rfl, trivial⟩ ⟨.n1 21 rfl rfl (fun w HS => X.extract rfl rfl), .n1 21 rfl rfl (fun w HS => X.extract rfl rfl), .as 30, .as 31, trivial⟩ (fun w HS => ?_)
    replace HS := api_Ctl.close trivial HS
    replace HS := HS.pm [1, 2, 3, 4, 5, 6, 7, 0, 8]
    replace HS := arq_Arq.close trivial HS
    replace HS := HS.pk [1, 0, 2] []
    exact At.meet (nb49, t50.1, t50.2.1, t50.2.2) ⟨rfl, rfl, rfl, rfl, rfl, rfl, trivial⟩ ⟨HS, k, by omega, H⟩
  ·rintro ⟨nb7, x8, x9, x10⟩ w ⟨HS, kf11, hkkf11, H⟩
   unfold arq_Arq_Input.j0 at H
   refine V.seq (V.seq (V.region (W.mv rfl (W.r (X.cmp (!(decide (x10 = 0))) rfl rfl rfl rfl) rfl (W.nx ?_)))))
   by_cases c13 : x10 = 0
   ·replace H := ite_t c13 H
    refine V.condF (sb (n_t (decide_eq_true c13))) (V.skip (At.next (V.seq (V.region ?_))))
    obtain ⟨hi15, HS⟩ := api_Ctl.open HS
    refine W.fa fo188_0 rfl (W.ld 0 HS Tryz.underlying3 rfl rfl rfl rfl (W.nx (V.block (V.seq (V.region (W.r (X.cmp (decide (x8.Kind = 3)) rfl rfl rfl rfl) rfl (W.as rfl (W.nx ?_))))))))
    by_cases c16 : x8.Kind = 3
    ·replace H := ite_t c16 H
     refine V.condT (sb (decide_eq_true c16)) (V.region (W.mv rfl (W.mv rfl (W.fa fo188_3 rfl (W.ld 0 HS Tryz.underlying4 rfl rfl rfl rfl ?_)))))
     obtain ⟨t17, A18, H⟩ := bind_s H
     replace HS := HS.pm [1, 0, 2]
     refine W.e (Y.cl Tryz.func195 (arq_Arq_asked.calls A18 HS.j1)) rfl ?_
     rintro _ w ⟨rfl, HS⟩
     replace HS := HS.o1
     refine W.nil (At.blockEnd ?_)
     replace HS := HS.pk [0, 2] [1]
     cases H
     exact At.end0 rfl ⟨_, rfl, rfl, HS⟩
    ·replace H := ite_f c16 H
     refine V.condF (sb (decide_eq_false c16)) (V.seq (V.region (W.r (X.cmp (decide (x8.Kind = 4)) rfl rfl rfl rfl) rfl (W.as rfl (W.nx ?_)))))
     by_cases c19 : x8.Kind = 4
     ·replace H := ite_t c19 H
      refine V.condT (sb (decide_eq_true c19)) (V.seq (V.region (W.mv rfl (W.mv rfl (W.nc rfl ?_)))))
      replace HS := HS.fr 1
      obtain ⟨b8_20, b9_20, b10_20, a11_20, c11_20, d11_20, a12_20, c12_20, hi21, HS⟩ := arq_Arq.open HS
      refine W.fa fo136_5 rfl (W.ld 0 HS Tryz.underlying3 rfl rfl rfl rfl (W.r (X.cmp (decide ((ior .i64 (w64 ((w64 (a1.getD (0 : Int).toNat 0)) * 2 ^ (min (8 : Int).toNat IntKind.i64.bits))) (w64 (a1.getD (1 : Int).toNat 0))) = a0.tag)) rfl rfl rfl rfl) rfl (W.nx ?_)))
      by_cases c22 : (ior .i64 (w64 ((w64 (a1.getD (0 : Int).toNat 0)) * 2 ^ (min (8 : Int).toNat IntKind.i64.bits))) (w64 (a1.getD (1 : Int).toNat 0))) = a0.tag
      ·replace H := ite_t c22 H
       refine V.condT (sb (decide_eq_true c22)) (V.region (W.mv rfl ?_))
       replace HS := arq_Arq.close trivial HS
       obtain ⟨t23, A24, H⟩ := bind_s H
       refine W.e (Y.cl Tryz.func196 (arq_Arq_accepted.calls A24 HS.j1)) rfl ?_
       rintro _ w ⟨rfl, HS⟩
       replace HS := HS.o1
       refine W.nil (At.blockEnd ?_)
       replace HS := HS.pk [0, 2] [1]
       cases H
       exact At.end0 rfl ⟨_, rfl, rfl, HS⟩
      ·replace H := ite_f c22 H
       refine V.condF (sb (decide_eq_false c22)) (V.skip (At.blockEnd ?_))
       replace HS := arq_Arq.close trivial HS
       replace HS := HS.pk [0, 2] [1]
       cases H
       exact At.end0 rfl ⟨_, rfl, rfl, HS⟩
     ·replace H := ite_f c19 H
      refine V.condF (sb (decide_eq_false c19)) (V.seq (V.region (W.r (X.cmp (decide (x8.Kind = 5)) rfl rfl rfl rfl) rfl (W.as rfl (W.nx ?_)))))
      by_cases c25 : x8.Kind = 5
      ·replace H := ite_t c25 H
       refine V.condT (sb (decide_eq_true c25)) (V.region (W.mv rfl (W.mv rfl (W.fa fo188_3 rfl (W.ld 0 HS Tryz.underlying4 rfl rfl rfl rfl ?_)))))
       obtain ⟨t26, A27, H⟩ := bind_s H
       replace HS := HS.pm [1, 0, 2]
       refine W.e (Y.cl Tryz.func197 (arq_Arq_closed.calls A27 HS.j1)) rfl ?_
       rintro _ w ⟨rfl, HS⟩
       replace HS := HS.o1
       refine W.nil (At.blockEnd ?_)
       replace HS := HS.pk [0, 2] [1]
       cases H
       exact At.end0 rfl ⟨_, rfl, rfl, HS⟩
      ·replace H := ite_f c25 H
       refine V.condF (sb (decide_eq_false c25)) (V.seq (V.region (W.r (X.cmp (decide (x8.Kind = 6)) rfl rfl rfl rfl) rfl (W.as rfl (W.nx ?_)))))
       by_cases c28 : x8.Kind = 6
       ·replace H := ite_t c28 H
        refine V.condT (sb (decide_eq_true c28)) (V.region (W.mv rfl (W.mv rfl ?_)))
        obtain ⟨t29, A30, H⟩ := bind_s H
        replace HS := HS.pm [1, 0, 2]
        refine W.e (Y.cl Tryz.func198 (arq_Arq_refused.calls A30 HS.j1)) rfl ?_
        rintro _ w ⟨rfl, HS⟩
        replace HS := HS.o1
        refine W.nil (At.blockEnd ?_)
        replace HS := HS.pk [0, 2] [1]
        cases H
        exact At.end0 rfl ⟨_, rfl, rfl, HS⟩
       ·replace H := ite_f c28 H
        refine V.condF (sb (decide_eq_false c28)) (V.seq (V.region (W.r (X.cmp (decide (x8.Kind = 7)) rfl rfl rfl rfl) rfl (W.as rfl (W.nx ?_)))))
        by_cases c31 : x8.Kind = 7
        ·replace H := ite_t c31 H
         refine V.condT (sb (decide_eq_true c31)) (V.meet (σ := Bool) (fun st w => match st with | x32 => Sep.St [api_Ctl.at nb7 x8, arq_Arq.at b0 a0, R] w0 w ∧ arq_Arq_Input.j1 a0 x32 = some r) (fun st => match st with | x32 => [(0, Value.pointer (some ⟨b0, 0, none⟩)), (87, Value.bool x32)]) ?_ ?_)
         ·refine V.region (W.mv rfl (W.mv rfl (W.nc rfl ?_)))
          replace HS := HS.fr 1
          obtain ⟨b8_37, b9_37, b10_37, a11_37, c11_37, d11_37, a12_37, c12_37, hi38, HS⟩ := arq_Arq.open HS
          refine W.fa fo136_5 rfl (W.ld 0 HS Tryz.underlying3 rfl rfl rfl rfl (W.r (X.cmp (decide ((ior .i64 (w64 ((w64 (a1.getD (0 : Int).toNat 0)) * 2 ^ (min (8 : Int).toNat IntKind.i64.bits))) (w64 (a1.getD (1 : Int).toNat 0))) = a0.tag)) rfl rfl rfl rfl) rfl (W.mv rfl ?_)))
          by_cases c39 : (ior .i64 (w64 ((w64 (a1.getD (0 : Int).toNat 0)) * 2 ^ (min (8 : Int).toNat IntKind.i64.bits))) (w64 (a1.getD (1 : Int).toNat 0))) = a0.tag
          ·replace H := ite_t c39 H
           refine W.want 81 rfl (sb (decide_eq_true c39)) (W.mv rfl (W.want 81 rfl (sb (decide_eq_true c39)) (W.nc rfl (W.want 81 rfl (sb (decide_eq_true c39)) (W.fa fo136_4 rfl (W.want 81 rfl (sb (decide_eq_true c39)) (W.ld 0 HS Tryz.underlying3 rfl rfl rfl rfl (W.want 81 rfl (sb (decide_eq_true c39)) (W.r (X.cmp (decide (a0.state = 2)) rfl rfl rfl rfl) rfl (W.r (X.pickT (sb (decide_eq_true c39)) rfl) rfl (W.nil ?_)))))))))))
           replace HS := HS.pm [7, 0, 1, 2, 3, 4, 5, 6, 8]
           replace HS := api_Ctl.close trivial HS
           replace HS := HS.pm [1, 2, 3, 4, 5, 6, 7, 0, 8]
           replace HS := arq_Arq.close trivial HS
           replace HS := HS.pk [1, 0, 2] []
           exact At.meet (decide (a0.state = 2)) ⟨rfl, rfl, trivial⟩ ⟨HS, H⟩
          ·replace H := ite_f c39 H
           refine W.pass 81 rfl (sb (decide_eq_false c39)) rfl rfl (W.pass 81 rfl (sb (decide_eq_false c39)) rfl rfl (W.pass 81 rfl (sb (decide_eq_false c39)) rfl rfl (W.pass 81 rfl (sb (decide_eq_false c39)) rfl rfl (W.pass 81 rfl (sb (decide_eq_false c39)) rfl rfl (W.r (X.pickF (sb (decide_eq_false c39)) rfl) rfl (W.nil ?_))))))
           replace HS := HS.pm [7, 0, 1, 2, 3, 4, 5, 6, 8]
           replace HS := api_Ctl.close trivial HS
           replace HS := HS.pm [1, 2, 3, 4, 5, 6, 7, 0, 8]
           replace HS := arq_Arq.close trivial HS
           replace HS := HS.pk [1, 0, 2] []
           exact At.meet false ⟨rfl, rfl, trivial⟩ ⟨HS, H⟩
         ·rintro x32 w ⟨HS, H⟩
          unfold arq_Arq_Input.j1 at H
          by_cases c34 : x32 = true
          ·replace H := ite_t c34 H
           refine V.condT (sb c34) (V.region (W.mv rfl ?_))
           obtain ⟨t35, A36, H⟩ := bind_s H
           replace HS := HS.pm [1, 0, 2]
           refine W.e (Y.cl Tryz.func186 (arq_Arq_end.calls A36 HS.j1)) rfl ?_
           rintro _ w ⟨rfl, HS⟩
           replace HS := HS.o1
           refine W.nil (At.blockEnd ?_)
           replace HS := HS.pk [0, 2] [1]
           cases H
           exact At.end0 rfl ⟨_, rfl, rfl, HS⟩
          ·replace H := ite_f c34 H
           refine V.condF (sb (b_f c34)) (V.skip (At.blockEnd ?_))
           replace HS := HS.pk [1, 2] [0]
           cases H
           exact At.end0 rfl ⟨_, rfl, rfl, HS⟩
        ·replace H := ite_f c31 H
         refine V.condF (sb (decide_eq_false c31)) ?_
         obtain ⟨c40, H⟩ := ite_n H
         refine V.dr [7] [] [(36, Value.pointer (some ⟨b0, 0, none⟩)), (37, Value.int .i64 (ior .i64 (w64 ((w64 (a1.getD (0 : Int).toNat 0)) * 2 ^ (min (8 : Int).toNat IntKind.i64.bits))) (w64 (a1.getD (1 : Int).toNat 0)))), (38, Value.agg #[Value.int .i64 x8.Kind, Value.int .i64 x8.Ns, Value.int .i64 x8.Nr, Value.bool x8.Poll]), (39, Value.slice (some ⟨eb4, eo5, none⟩) a1.length sc1), (40, Value.int .i64 x9), (41, Value.int .i64 (w64 (2 + x9))), (42, Value.slice (vaddr (some ⟨eb4, eo5, none⟩) sc1 (w64 (2 + x9)).toNat 1) (cut a1 (w64 (2 + x9)) (a1.length : Int)).length (sc1 - (w64 (2 + x9)).toNat))] mo HS ?_
         refine T.ev [(36, _), (37, _), (38, _), (42, _)] [] [0, 1, 2, 3, 4, 5, 6] ⟨rfl, rfl, rfl, rfl, trivial⟩ ⟨.mv 0, .mv 4, .n1 5 rfl rfl (fun w HS => X.loadSt 0 [Value.int .i64 x8.Kind, Value.int .i64 x8.Ns, Value.int .i64 x8.Nr, Value.bool x8.Poll] HS rfl Tryz.underlying188 rfl inf188 rfl rfl), .mv 1, .mv 6, .n1 40 rfl rfl (fun w HS => X.add rfl rfl), .n2 39 41 rfl rfl rfl (fun w HS => X.slL Tryz.underlying32 inf5 rfl rfl c40), trivial⟩ rfl (fun w HS => ?_)
         obtain ⟨t41, A42, H⟩ := bind_s H
         replace HS := HS.pm [1, 0, 2]
         refine ⟨_, Y.cl Tryz.func199 (arq_Arq_numbered.calls A42 HS.j1 (rdC.part 1 (rdC.subM hr1 c40) rfl)), ?_⟩
         rintro _ w ⟨rfl, HS⟩
         replace HS := HS.o1
         refine T.nw HS ?_
         refine T.fn [] trivial trivial (fun w HS => ?_)
         refine At.blockEnd ?_
         replace HS := HS.pk [0, 2] [1]
         cases H
         exact At.end0 rfl ⟨_, rfl, rfl, HS⟩
   ·replace H := ite_f c13 H
    refine V.condT (sb (n_f (decide_eq_false c13))) (V.ret (At.thenRet ?_))
    replace HS := HS.pk [1, 2] [0]
    cases H
    exact At.ret0 rfl ⟨_, rfl, rfl, HS⟩
mutual
def kcode_Read.j0 (a0 : List Int) (x5 : Bool) : Option (Int × Int × Int) := (if x5 = true then some (0, 0, 2) else some (w64 ((w64 (a0.getD (0 : Int).toNat 0)).tdiv (16)), (w64 (a0.getD (0 : Int).toNat 0)).tmod (16), 0))
end
def kcode_Read.f (a0 : List Int) : Option (Int × Int × Int) := (if (a0.length : Int) < 2 then some (0, 0, 3) else (if 0 ≤ (0 : Int) ∧ (0 : Int) < (a0.length : Int) then (if (a0.length : Int) > 2 then (kcode_Read.j0 a0 true) else (if 0 ≤ (1 : Int) ∧ (1 : Int) < (a0.length : Int) then (if (a0.getD (1 : Int).toNat 0) = (icom .u8 (a0.getD (0 : Int).toNat 0)) then (if (w64 ((w64 (a0.getD (0 : Int).toNat 0)).tdiv (16))) > 8 then (kcode_Read.j0 a0 true) else (kcode_Read.j0 a0 (decide (((w64 (a0.getD (0 : Int).toNat 0)).tmod (16)) > 1)))) else (kcode_Read.j0 a0 true)) else none)) else none))
theorem kcode_Read.calls {a0 : List Int} {R : As} {w0 w : World} {sa0 : Option Addr} {sc0 : Nat} {r : Int × Int × Int} (H : kcode_Read.f a0 = some r) (HS : Sep.St [R] w0 w) (hr0 : rdC R 1 (.slice sa0 a0.length sc0) a0.length (a0.map (Value.int .u8))) : Calls Tryz.prog 140 #[Value.slice sa0 a0.length sc0] w (Ret fun u w => u = Value.tuple #[Value.int .i64 r.1, Value.int .i64 r.2.1, Value.int .i64 r.2.2] ∧ Sep.St [R] w0 w) := by
 unfold kcode_Read.f at H
 refine calls_enter Tryz.func140 rfl rfl ?_
 have H : _ = some r := H
 refine V.seq (V.region (W.as rfl (W.as rfl (W.as rfl (W.nx (V.seq (V.seq (V.region (W.mv rfl (W.r (X.lenSl Tryz.underlying32 rfl) rfl (W.r (X.cmp (decide ((a0.length : Int) < 2)) rfl rfl rfl rfl) rfl (W.nx ?_))))))))))))
 by_cases c1 : (a0.length : Int) < 2
 ·replace H := ite_t c1 H
  refine V.condT (sb (decide_eq_true c1)) (V.seq (V.region (W.as rfl (W.as rfl (W.as rfl (W.nx (V.ret (At.thenRet ?_))))))))
  cases H
  exact At.ret3 rfl rfl rfl rfl ⟨_, rfl, rfl, HS⟩
 ·replace H := ite_f c1 H
  refine V.condF (sb (decide_eq_false c1)) (V.skip (At.next (V.seq ?_)))
  obtain ⟨c2, H⟩ := ite_n H
  obtain ⟨eb3, eo4, hh⟩ := (rdC.at 0 hr0 HS rfl).some (by decide) c2.1 c2.2; subst hh
  refine V.dr [] [] [(10, Value.slice (some ⟨eb3, eo4, none⟩) a0.length sc0), (11, Value.pointer (some ⟨eb3, eo4 + (0 : Int).toNat * 1, none⟩)), (12, Value.int .u8 (a0.getD (0 : Int).toNat 0)), (13, Value.int .i64 (w64 (a0.getD (0 : Int).toNat 0))), (14, Value.int .i64 (w64 ((w64 (a0.getD (0 : Int).toNat 0)).tdiv (16)))), (15, Value.slice (some ⟨eb3, eo4, none⟩) a0.length sc0), (16, Value.pointer (some ⟨eb3, eo4 + (0 : Int).toNat * 1, none⟩)), (17, Value.int .u8 (a0.getD (0 : Int).toNat 0)), (18, Value.int .i64 (w64 (a0.getD (0 : Int).toNat 0))), (19, Value.int .i64 ((w64 (a0.getD (0 : Int).toNat 0)).tmod (16))), (5, Value.int .i64 (w64 ((w64 (a0.getD (0 : Int).toNat 0)).tdiv (16)))), (6, Value.int .i64 ((w64 (a0.getD (0 : Int).toNat 0)).tmod (16)))] mo HS ?_
  refine T.fn [(0, _), (5, _), (6, _)] ⟨rfl, rfl, rfl, trivial⟩ ⟨.mv 0, .n1 10 rfl rfl (fun w HS => X.indexSl Tryz.underlying32 inf5 rfl rfl c2.1 c2.2), .n1 11 rfl rfl (fun w HS => X.load Tryz.underlying5 rfl rfl ((rdC.at 0 hr0 HS rfl).cellI c2.1 c2.2)), .n1 12 rfl rfl (fun w HS => X.conv Tryz.underlying5 Tryz.underlying3 rfl), .n1 13 rfl rfl (fun w HS => X.quo rfl rfl (by decide)), .mv 0, .n1 15 rfl rfl (fun w HS => X.indexSl Tryz.underlying32 inf5 rfl rfl c2.1 c2.2), .n1 16 rfl rfl (fun w HS => X.load Tryz.underlying5 rfl rfl ((rdC.at 0 hr0 HS rfl).cellI c2.1 c2.2)), .n1 17 rfl rfl (fun w HS => X.conv Tryz.underlying5 Tryz.underlying3 rfl), .n1 18 rfl rfl (fun w HS => X.rem rfl rfl (by decide)), .as 14, .as 19, trivial⟩ (fun w HS => ?_)
  refine At.next (V.seq (V.meet (σ := Bool) (fun st w => match st with | x5 => Sep.St [R] w0 w ∧ kcode_Read.j0 a0 x5 = some r) (fun st => match st with | x5 => [(5, Value.int .i64 (w64 ((w64 (a0.getD (0 : Int).toNat 0)).tdiv (16)))), (6, Value.int .i64 ((w64 (a0.getD (0 : Int).toNat 0)).tmod (16))), (40, Value.bool x5)]) ?_ ?_))
  ·by_cases c8 : (a0.length : Int) > 2
   ·replace H := ite_t c8 H
    refine V.dr [] [] [(20, Value.slice (some ⟨eb3, eo4, none⟩) a0.length sc0), (21, Value.int .i64 (a0.length : Int)), (22, Value.bool (decide ((a0.length : Int) > 2))), (23, Value.bool (decide ((a0.length : Int) > 2))), (24, undef), (25, undef), (26, undef), (27, undef), (28, undef), (29, undef), (30, undef), (31, undef), (32, Value.bool true), (33, Value.bool true), (34, undef), (35, undef), (36, Value.bool true), (37, Value.bool true), (38, undef), (39, undef), (40, Value.bool true)] mo HS ?_
    refine T.fn [(5, _), (6, _), (40, _)] ⟨rfl, rfl, rfl, trivial⟩ ⟨.mv 0, .n1 20 rfl rfl (fun w HS => X.lenSl Tryz.underlying32 rfl), .n1 21 rfl rfl (fun w HS => X.cmp (decide ((a0.length : Int) > 2)) rfl rfl rfl rfl), .mv 22, .gp 3 false true 23 rfl rfl (Option.some.inj (sb (decide_eq_true c8))) rfl, .gp 3 false true 23 rfl rfl (Option.some.inj (sb (decide_eq_true c8))) rfl, .gp 3 false true 23 rfl rfl (Option.some.inj (sb (decide_eq_true c8))) rfl, .gp 3 false true 23 rfl rfl (Option.some.inj (sb (decide_eq_true c8))) rfl, .gp 3 false true 23 rfl rfl (Option.some.inj (sb (decide_eq_true c8))) rfl, .gp 3 false true 23 rfl rfl (Option.some.inj (sb (decide_eq_true c8))) rfl, .gp 3 false true 23 rfl rfl (Option.some.inj (sb (decide_eq_true c8))) rfl, .gp 3 false true 23 rfl rfl (Option.some.inj (sb (decide_eq_true c8))) rfl, .n2 23 31 rfl rfl rfl (fun w HS => X.pickT (sb (decide_eq_true c8)) rfl), .mv 32, .gp 13 false true 33 rfl rfl rfl rfl, .gp 13 false true 33 rfl rfl rfl rfl, .n2 33 35 rfl rfl rfl (fun w HS => X.pickT rfl rfl), .mv 36, .gp 17 false true 37 rfl rfl rfl rfl, .gp 17 false true 37 rfl rfl rfl rfl, .n2 37 39 rfl rfl rfl (fun w HS => X.pickT rfl rfl), trivial⟩ (fun w HS => ?_)
    exact At.meet true ⟨rfl, rfl, rfl, trivial⟩ ⟨HS, H⟩
   ·replace H := ite_f c8 H
    obtain ⟨c9, H⟩ := ite_n H
    by_cases c10 : (a0.getD (1 : Int).toNat 0) = (icom .u8 (a0.getD (0 : Int).toNat 0))
    ·replace H := ite_t c10 H
     by_cases c11 : (w64 ((w64 (a0.getD (0 : Int).toNat 0)).tdiv (16))) > 8
     ·replace H := ite_t c11 H
      refine V.dr [] [] [(20, Value.slice (some ⟨eb3, eo4, none⟩) a0.length sc0), (21, Value.int .i64 (a0.length : Int)), (22, Value.bool (decide ((a0.length : Int) > 2))), (23, Value.bool (decide ((a0.length : Int) > 2))), (24, Value.slice (some ⟨eb3, eo4, none⟩) a0.length sc0), (25, Value.pointer (some ⟨eb3, eo4 + (1 : Int).toNat * 1, none⟩)), (26, Value.int .u8 (a0.getD (1 : Int).toNat 0)), (27, Value.slice (some ⟨eb3, eo4, none⟩) a0.length sc0), (28, Value.pointer (some ⟨eb3, eo4 + (0 : Int).toNat * 1, none⟩)), (29, Value.int .u8 (a0.getD (0 : Int).toNat 0)), (30, Value.int .u8 (icom .u8 (a0.getD (0 : Int).toNat 0))), (31, Value.bool (!(decide ((a0.getD (1 : Int).toNat 0) = (icom .u8 (a0.getD (0 : Int).toNat 0)))))), (32, Value.bool (!(decide ((a0.getD (1 : Int).toNat 0) = (icom .u8 (a0.getD (0 : Int).toNat 0)))))), (33, Value.bool (!(decide ((a0.getD (1 : Int).toNat 0) = (icom .u8 (a0.getD (0 : Int).toNat 0)))))), (34, Value.int .i64 (w64 ((w64 (a0.getD (0 : Int).toNat 0)).tdiv (16)))), (35, Value.bool (decide ((w64 ((w64 (a0.getD (0 : Int).toNat 0)).tdiv (16))) > 8))), (36, Value.bool (decide ((w64 ((w64 (a0.getD (0 : Int).toNat 0)).tdiv (16))) > 8))), (37, Value.bool (decide ((w64 ((w64 (a0.getD (0 : Int).toNat 0)).tdiv (16))) > 8))), (38, undef), (39, undef), (40, Value.bool true)] mo HS ?_
      refine T.fn [(5, _), (6, _), (40, _)] ⟨rfl, rfl, rfl, trivial⟩ ⟨.mv 0, .n1 20 rfl rfl (fun w HS => X.lenSl Tryz.underlying32 rfl), .n1 21 rfl rfl (fun w HS => X.cmp (decide ((a0.length : Int) > 2)) rfl rfl rfl rfl), .mv 22, .gw [(0, _), (23, _)] 3 false 23 ⟨rfl, rfl, trivial⟩ rfl (sb (decide_eq_false c8)) (fun w HS => X.move rfl), .gw [(24, _), (23, _)] 3 false 23 ⟨rfl, rfl, trivial⟩ rfl (sb (decide_eq_false c8)) (fun w HS => X.indexSl Tryz.underlying32 inf5 rfl rfl c9.1 c9.2), .gw [(25, _), (23, _)] 3 false 23 ⟨rfl, rfl, trivial⟩ rfl (sb (decide_eq_false c8)) (fun w HS => X.load Tryz.underlying5 rfl rfl ((rdC.at 0 hr0 HS rfl).cellI c9.1 c9.2)), .gw [(0, _), (23, _)] 3 false 23 ⟨rfl, rfl, trivial⟩ rfl (sb (decide_eq_false c8)) (fun w HS => X.move rfl), .gw [(27, _), (23, _)] 3 false 23 ⟨rfl, rfl, trivial⟩ rfl (sb (decide_eq_false c8)) (fun w HS => X.indexSl Tryz.underlying32 inf5 rfl rfl c2.1 c2.2), .gw [(28, _), (23, _)] 3 false 23 ⟨rfl, rfl, trivial⟩ rfl (sb (decide_eq_false c8)) (fun w HS => X.load Tryz.underlying5 rfl rfl ((rdC.at 0 hr0 HS rfl).cellI c2.1 c2.2)), .gw [(29, _), (23, _)] 3 false 23 ⟨rfl, rfl, trivial⟩ rfl (sb (decide_eq_false c8)) (fun w HS => X.com rfl), .gw [(26, _), (30, _), (23, _)] 3 false 23 ⟨rfl, rfl, rfl, trivial⟩ rfl (sb (decide_eq_false c8)) (fun w HS => X.cmp (!(decide ((a0.getD (1 : Int).toNat 0) = (icom .u8 (a0.getD (0 : Int).toNat 0))))) rfl rfl rfl rfl), .n2 23 31 rfl rfl rfl (fun w HS => X.pickF (sb (decide_eq_false c8)) rfl), .mv 32, .gw [(5, _), (33, _)] 13 false 33 ⟨rfl, rfl, trivial⟩ rfl (sb (n_t (decide_eq_true c10))) (fun w HS => X.move rfl), .gw [(34, _), (33, _)] 13 false 33 ⟨rfl, rfl, trivial⟩ rfl (sb (n_t (decide_eq_true c10))) (fun w HS => X.cmp (decide ((w64 ((w64 (a0.getD (0 : Int).toNat 0)).tdiv (16))) > 8)) rfl rfl rfl rfl), .n2 33 35 rfl rfl rfl (fun w HS => X.pickF (sb (n_t (decide_eq_true c10))) rfl), .mv 36, .gp 17 false true 37 rfl rfl (Option.some.inj (sb (decide_eq_true c11))) rfl, .gp 17 false true 37 rfl rfl (Option.some.inj (sb (decide_eq_true c11))) rfl, .n2 37 39 rfl rfl rfl (fun w HS => X.pickT (sb (decide_eq_true c11)) rfl), trivial⟩ (fun w HS => ?_)
      exact At.meet true ⟨rfl, rfl, rfl, trivial⟩ ⟨HS, H⟩
     ·replace H := ite_f c11 H
      refine V.dr [] [] [(20, Value.slice (some ⟨eb3, eo4, none⟩) a0.length sc0), (21, Value.int .i64 (a0.length : Int)), (22, Value.bool (decide ((a0.length : Int) > 2))), (23, Value.bool (decide ((a0.length : Int) > 2))), (24, Value.slice (some ⟨eb3, eo4, none⟩) a0.length sc0), (25, Value.pointer (some ⟨eb3, eo4 + (1 : Int).toNat * 1, none⟩)), (26, Value.int .u8 (a0.getD (1 : Int).toNat 0)), (27, Value.slice (some ⟨eb3, eo4, none⟩) a0.length sc0), (28, Value.pointer (some ⟨eb3, eo4 + (0 : Int).toNat * 1, none⟩)), (29, Value.int .u8 (a0.getD (0 : Int).toNat 0)), (30, Value.int .u8 (icom .u8 (a0.getD (0 : Int).toNat 0))), (31, Value.bool (!(decide ((a0.getD (1 : Int).toNat 0) = (icom .u8 (a0.getD (0 : Int).toNat 0)))))), (32, Value.bool (!(decide ((a0.getD (1 : Int).toNat 0) = (icom .u8 (a0.getD (0 : Int).toNat 0)))))), (33, Value.bool (!(decide ((a0.getD (1 : Int).toNat 0) = (icom .u8 (a0.getD (0 : Int).toNat 0)))))), (34, Value.int .i64 (w64 ((w64 (a0.getD (0 : Int).toNat 0)).tdiv (16)))), (35, Value.bool (decide ((w64 ((w64 (a0.getD (0 : Int).toNat 0)).tdiv (16))) > 8))), (36, Value.bool (decide ((w64 ((w64 (a0.getD (0 : Int).toNat 0)).tdiv (16))) > 8))), (37, Value.bool (decide ((w64 ((w64 (a0.getD (0 : Int).toNat 0)).tdiv (16))) > 8))), (38, Value.int .i64 ((w64 (a0.getD (0 : Int).toNat 0)).tmod (16))), (39, Value.bool (decide (((w64 (a0.getD (0 : Int).toNat 0)).tmod (16)) > 1))), (40, Value.bool (decide (((w64 (a0.getD (0 : Int).toNat 0)).tmod (16)) > 1)))] mo HS ?_
      refine T.fn [(5, _), (6, _), (40, _)] ⟨rfl, rfl, rfl, trivial⟩ ⟨.mv 0, .n1 20 rfl rfl (fun w HS => X.lenSl Tryz.underlying32 rfl), .n1 21 rfl rfl (fun w HS => X.cmp (decide ((a0.length : Int) > 2)) rfl rfl rfl rfl), .mv 22, .gw [(0, _), (23, _)] 3 false 23 ⟨rfl, rfl, trivial⟩ rfl (sb (decide_eq_false c8)) (fun w HS => X.move rfl), .gw [(24, _), (23, _)] 3 false 23 ⟨rfl, rfl, trivial⟩ rfl (sb (decide_eq_false c8)) (fun w HS => X.indexSl Tryz.underlying32 inf5 rfl rfl c9.1 c9.2), .gw [(25, _), (23, _)] 3 false 23 ⟨rfl, rfl, trivial⟩ rfl (sb (decide_eq_false c8)) (fun w HS => X.load Tryz.underlying5 rfl rfl ((rdC.at 0 hr0 HS rfl).cellI c9.1 c9.2)), .gw [(0, _), (23, _)] 3 false 23 ⟨rfl, rfl, trivial⟩ rfl (sb (decide_eq_false c8)) (fun w HS => X.move rfl), .gw [(27, _), (23, _)] 3 false 23 ⟨rfl, rfl, trivial⟩ rfl (sb (decide_eq_false c8)) (fun w HS => X.indexSl Tryz.underlying32 inf5 rfl rfl c2.1 c2.2), .gw [(28, _), (23, _)] 3 false 23 ⟨rfl, rfl, trivial⟩ rfl (sb (decide_eq_false c8)) (fun w HS => X.load Tryz.underlying5 rfl rfl ((rdC.at 0 hr0 HS rfl).cellI c2.1 c2.2)), .gw [(29, _), (23, _)] 3 false 23 ⟨rfl, rfl, trivial⟩ rfl (sb (decide_eq_false c8)) (fun w HS => X.com rfl), .gw [(26, _), (30, _), (23, _)] 3 false 23 ⟨rfl, rfl, rfl, trivial⟩ rfl (sb (decide_eq_false c8)) (fun w HS => X.cmp (!(decide ((a0.getD (1 : Int).toNat 0) = (icom .u8 (a0.getD (0 : Int).toNat 0))))) rfl rfl rfl rfl), .n2 23 31 rfl rfl rfl (fun w HS => X.pickF (sb (decide_eq_false c8)) rfl), .mv 32, .gw [(5, _), (33, _)] 13 false 33 ⟨rfl, rfl, trivial⟩ rfl (sb (n_t (decide_eq_true c10))) (fun w HS => X.move rfl), .gw [(34, _), (33, _)] 13 false 33 ⟨rfl, rfl, trivial⟩ rfl (sb (n_t (decide_eq_true c10))) (fun w HS => X.cmp (decide ((w64 ((w64 (a0.getD (0 : Int).toNat 0)).tdiv (16))) > 8)) rfl rfl rfl rfl), .n2 33 35 rfl rfl rfl (fun w HS => X.pickF (sb (n_t (decide_eq_true c10))) rfl), .mv 36, .gw [(6, _), (37, _)] 17 false 37 ⟨rfl, rfl, trivial⟩ rfl (sb (decide_eq_false c11)) (fun w HS => X.move rfl), .gw [(38, _), (37, _)] 17 false 37 ⟨rfl, rfl, trivial⟩ rfl (sb (decide_eq_false c11)) (fun w HS => X.cmp (decide (((w64 (a0.getD (0 : Int).toNat 0)).tmod (16)) > 1)) rfl rfl rfl rfl), .n2 37 39 rfl rfl rfl (fun w HS => X.pickF (sb (decide_eq_false c11)) rfl), trivial⟩ (fun w HS => ?_)
      exact At.meet (decide (((w64 (a0.getD (0 : Int).toNat 0)).tmod (16)) > 1)) ⟨rfl, rfl, rfl, trivial⟩ ⟨HS, H⟩
    ·replace H := ite_f c10 H
     refine V.dr [] [] [(20, Value.slice (some ⟨eb3, eo4, none⟩) a0.length sc0), (21, Value.int .i64 (a0.length : Int)), (22, Value.bool (decide ((a0.length : Int) > 2))), (23, Value.bool (decide ((a0.length : Int) > 2))), (24, Value.slice (some ⟨eb3, eo4, none⟩) a0.length sc0), (25, Value.pointer (some ⟨eb3, eo4 + (1 : Int).toNat * 1, none⟩)), (26, Value.int .u8 (a0.getD (1 : Int).toNat 0)), (27, Value.slice (some ⟨eb3, eo4, none⟩) a0.length sc0), (28, Value.pointer (some ⟨eb3, eo4 + (0 : Int).toNat * 1, none⟩)), (29, Value.int .u8 (a0.getD (0 : Int).toNat 0)), (30, Value.int .u8 (icom .u8 (a0.getD (0 : Int).toNat 0))), (31, Value.bool (!(decide ((a0.getD (1 : Int).toNat 0) = (icom .u8 (a0.getD (0 : Int).toNat 0)))))), (32, Value.bool (!(decide ((a0.getD (1 : Int).toNat 0) = (icom .u8 (a0.getD (0 : Int).toNat 0)))))), (33, Value.bool (!(decide ((a0.getD (1 : Int).toNat 0) = (icom .u8 (a0.getD (0 : Int).toNat 0)))))), (34, undef), (35, undef), (36, Value.bool true), (37, Value.bool true), (38, undef), (39, undef), (40, Value.bool true)] mo HS ?_
     refine T.fn [(5, _), (6, _), (40, _)] ⟨rfl, rfl, rfl, trivial⟩ ⟨.mv 0, .n1 20 rfl rfl (fun w HS => X.lenSl Tryz.underlying32 rfl), .n1 21 rfl rfl (fun w HS => X.cmp (decide ((a0.length : Int) > 2)) rfl rfl rfl rfl), .mv 22, .gw [(0, _), (23, _)] 3 false 23 ⟨rfl, rfl, trivial⟩ rfl (sb (decide_eq_false c8)) (fun w HS => X.move rfl), .gw [(24, _), (23, _)] 3 false 23 ⟨rfl, rfl, trivial⟩ rfl (sb (decide_eq_false c8)) (fun w HS => X.indexSl Tryz.underlying32 inf5 rfl rfl c9.1 c9.2), .gw [(25, _), (23, _)] 3 false 23 ⟨rfl, rfl, trivial⟩ rfl (sb (decide_eq_false c8)) (fun w HS => X.load Tryz.underlying5 rfl rfl ((rdC.at 0 hr0 HS rfl).cellI c9.1 c9.2)), .gw [(0, _), (23, _)] 3 false 23 ⟨rfl, rfl, trivial⟩ rfl (sb (decide_eq_false c8)) (fun w HS => X.move rfl), .gw [(27, _), (23, _)] 3 false 23 ⟨rfl, rfl, trivial⟩ rfl (sb (decide_eq_false c8)) (fun w HS => X.indexSl Tryz.underlying32 inf5 rfl rfl c2.1 c2.2), .gw [(28, _), (23, _)] 3 false 23 ⟨rfl, rfl, trivial⟩ rfl (sb (decide_eq_false c8)) (fun w HS => X.load Tryz.underlying5 rfl rfl ((rdC.at 0 hr0 HS rfl).cellI c2.1 c2.2)), .gw [(29, _), (23, _)] 3 false 23 ⟨rfl, rfl, trivial⟩ rfl (sb (decide_eq_false c8)) (fun w HS => X.com rfl), .gw [(26, _), (30, _), (23, _)] 3 false 23 ⟨rfl, rfl, rfl, trivial⟩ rfl (sb (decide_eq_false c8)) (fun w HS => X.cmp (!(decide ((a0.getD (1 : Int).toNat 0) = (icom .u8 (a0.getD (0 : Int).toNat 0))))) rfl rfl rfl rfl), .n2 23 31 rfl rfl rfl (fun w HS => X.pickF (sb (decide_eq_false c8)) rfl), .mv 32, .gp 13 false true 33 rfl rfl (Option.some.inj (sb (n_f (decide_eq_false c10)))) rfl, .gp 13 false true 33 rfl rfl (Option.some.inj (sb (n_f (decide_eq_false c10)))) rfl, .n2 33 35 rfl rfl rfl (fun w HS => X.pickT (sb (n_f (decide_eq_false c10))) rfl), .mv 36, .gp 17 false true 37 rfl rfl rfl rfl, .gp 17 false true 37 rfl rfl rfl rfl, .n2 37 39 rfl rfl rfl (fun w HS => X.pickT rfl rfl), trivial⟩ (fun w HS => ?_)
     exact At.meet true ⟨rfl, rfl, rfl, trivial⟩ ⟨HS, H⟩
  ·rintro x5 w ⟨HS, H⟩
   unfold kcode_Read.j0 at H
   by_cases c7 : x5 = true
   ·replace H := ite_t c7 H
    refine V.condT (sb c7) (V.seq (V.region (W.as rfl (W.as rfl (W.as rfl (W.nx (V.ret (At.thenRet ?_))))))))
    cases H
    exact At.ret3 rfl rfl rfl rfl ⟨_, rfl, rfl, HS⟩
   ·replace H := ite_f c7 H
    refine V.condF (sb (b_f c7)) (V.skip (At.next (V.seq (V.region (W.mv rfl (W.mv rfl (W.as rfl (W.as rfl (W.as rfl (W.nx (V.ret ?_)))))))))))
    cases H
    exact At.ret3 rfl rfl rfl rfl ⟨_, rfl, rfl, HS⟩
def aps_Aps_Remote.f (a0 : aps_Aps) (a1 : Int) : Option aps_Aps := ((request_Of.f a1).bind fun t1 => some ({ a0 with remote := t1 } : aps_Aps))
theorem aps_Aps_Remote.calls {a0 : aps_Aps} {a1 : Int} {R : As} {w0 w : World} {b0 : Nat} {r : aps_Aps} (H : aps_Aps_Remote.f a0 a1 = some r) (HS : Sep.St [aps_Aps.at b0 a0, R] w0 w)  : Calls Tryz.prog 141 #[Value.pointer (some ⟨b0, 0, none⟩), Value.int .i64 a1] w (Ret fun u w => u = Value.tuple #[] ∧ Sep.St [aps_Aps.at b0 r, R] w0 w) := by
 unfold aps_Aps_Remote.f at H
 refine calls_enter Tryz.func141 rfl rfl ?_
 have H : _ = some r := H
 refine V.region (W.mv rfl (W.mv rfl ?_))
 obtain ⟨t1, A2, H⟩ := bind_s H
 refine W.e (Y.cl Tryz.func131 (request_Of.calls A2 HS.j0)) rfl ?_
 rintro _ w ⟨rfl, HS⟩
 replace HS := HS.o0
 refine W.nc rfl ?_
 obtain ⟨hi4, HS⟩ := aps_Aps.open HS
 refine W.fa fo138_4 rfl (W.st 0 4 HS inf3 rfl rfl rfl rfl rfl rfl fun w HS => ?_)
 refine W.nil ?_
 replace HS := aps_Aps.close trivial HS
 cases H
 exact At.end0 rfl ⟨_, rfl, rfl, HS⟩
end Go.Proofs.YtodbopebbmplaaaGreat

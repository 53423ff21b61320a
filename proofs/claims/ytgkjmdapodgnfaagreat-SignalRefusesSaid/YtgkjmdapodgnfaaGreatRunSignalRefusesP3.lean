/- SignalRefuses: the functions that its law reaches, as plain functions, and that the machine's calls come to what these say. Conditions: those that stand at each. -/
import Derived.Test.YtgkjmdapodgnfaaGreatRunSignalRefusesP2
set_option linter.all false
set_option maxRecDepth 100000
set_option maxHeartbeats 4000000
set_option synthInstance.maxSize 100000
set_option synthInstance.maxHeartbeats 1000000
namespace Go.Proofs.YtgkjmdapodgnfaaGreat
open Go.RowKit Go.Proofs.YtgkjmdapodgnfaaGreat.Sep Go.Proofs.YtgkjmdapodgnfaaGreat.Walk Go.Proofs.Tryz
attribute [local irreducible] V W At T Code.rounds RdO RdOk
def backlog_Log_Clear.f (a0 : backlog_Log) : Option (Int × backlog_Log) := some ((a0.l.length : Int), ({ a0 with first := 0, out := 0, l := ([] : List (List Int)) } : backlog_Log))
theorem backlog_Log_Clear.calls {a0 : backlog_Log} {R : As} {w0 w : World} {b0 : Nat} {r : Int × backlog_Log} (H : backlog_Log_Clear.f a0 = some r) (HS : Sep.St [backlog_Log.at b0 a0, R] w0 w)  : Calls Tryz.prog 238 #[pt b0] w (Ret fun u w => u = vi r.1 ∧ Sep.St [backlog_Log.at b0 r.2, R] w0 w) := by
 refine calls_enter func238 rfl rfl ?_
 refine go ?_
 obtain ⟨_, _, _, _, HS⟩ := backlog_Log.open HS
 refine go ?_
 refine W.sr 5 HS rfl rfl rfl fun w HS => ?_
 refine go ?_
 refine W.sr 4 HS rfl rfl rfl fun w HS => ?_
 refine go ?_
 refine W.sr 3 HS rfl rfl rfl fun w HS => ?_
 refine go ?_
 have HS := (backlog_Log.close (l5 := ([] : List (List Int))) tv ((row_nilE (El.sl (El.int .u8)) 27 1 HS).b [2])).ke [0, 2]
 exact rt
def reorder_Order_Clear.f (a0 : reorder_Order) : Option reorder_Order := some (({ a0 with next := 0, kept := ([] : List (Int × (List Int))) } : reorder_Order))
theorem reorder_Order_Clear.calls {a0 : reorder_Order} {R : As} {w0 w : World} {b0 : Nat} {r : reorder_Order} (H : reorder_Order_Clear.f a0 = some r) (HS : Sep.St [reorder_Order.at b0 a0, R] w0 w)  : Calls Tryz.prog 239 #[pt b0] w (Ret fun u w => u = Value.tuple #[] ∧ Sep.St [reorder_Order.at b0 r, R] w0 w) := by
 refine calls_enter func239 rfl rfl ?_
 refine go ?_
 obtain ⟨_, _, _, _, _, _, HS⟩ := reorder_Order.open HS
 refine go ?_
 have HS := (HS.fr 2).mono (B := tieM (El.sl (El.int .u8)) [] ([] : List (Int × (List Int)))) fun _ _ => tv
 refine W.en (Y.clearMap 2 underlying246 HS rfl rfl) rfl ?_
 rintro _ w HS
 refine go ?_
 refine W.sr 2 HS rfl rfl rfl fun w HS => ?_
 refine go ?_
 have HS := reorder_Order.close tv (HS.b [1, 1])
 exact rt
def clock_Set_Stop.f (a0 : clock_Set) (a1 : Int) : Option (Bool × clock_Set) := ((clock_Set_Left.f a0 a1).bind fun t3 => (if t3.2 = true then (if 0 ≤ a1 ∧ a1 < 32 then some (t3.2, ({ now := a0.now, left := a0.left.set a1.toNat (0) } : clock_Set)) else none) else some (t3.2, a0)))
theorem clock_Set_Stop.calls {a0 : clock_Set} {a1 : Int} {R : As} {w0 w : World} {b0 : Nat} {r : Bool × clock_Set} (H : clock_Set_Stop.f a0 a1 = some r) (HS : Sep.St [clock_Set.at b0 a0, R] w0 w)  : Calls Tryz.prog 240 #[pt b0, vi a1] w (Ret fun u w => u = vb r.1 ∧ Sep.St [clock_Set.at b0 r.2, R] w0 w) := by
 refine calls_enter func240 rfl rfl ?_
 refine go ?_
 obtain ⟨hi2, HS⟩ := clock_Set.open HS
 refine W.kl H func223 (fun _ h => clock_Set_Left.calls h HS.j1 (by first | exact hi2 | (simp only [List.length_set]; exact hi2))) ?_
 rintro _ _ w H ⟨rfl, HS⟩
 have HS := HS.o1
 refine go ?_
 refine V.cv H rfl (fun _ H => ?_) (fun _ H => ?_)
 ·refine go ?_
  obtain ⟨c6, H⟩ := ite_n H
  refine go ?_
  refine W.en (Y.storeArr 0 HS rfl rfl inf3 rfl rfl c6.1 c6.2 (by first | exact hi2 | (simp only [List.length_set]; exact hi2))) rfl ?_
  rintro _ w HS
  refine go ?_
  have HS := clock_Set.close (by first | exact hi2 | (simp only [List.length_set]; exact hi2)) HS
  exact rt
 ·refine go ?_
  have HS := clock_Set.close (by first | exact hi2 | (simp only [List.length_set]; exact hi2)) HS
  exact rt
def arq_Arq_fresh.f (a0 : arq_Arq) (a1 : Int) : Option arq_Arq := ((backlog_Log_Clear.f a0.log).bind fun t3 => ((reorder_Order_Clear.f a0.order).bind fun t5 => ((clock_Set_Stop.f a0.timers 0).bind fun t7 => some (({ a0 with state := a1, tries := 0, rejected := false, log := t3.2, order := t5, timers := t7.2, lost := w64 (a0.lost + t3.1) } : arq_Arq)))))
theorem arq_Arq_fresh.calls {a0 : arq_Arq} {a1 : Int} {R : As} {w0 w : World} {b0 : Nat} {r : arq_Arq} (H : arq_Arq_fresh.f a0 a1 = some r) (HS : Sep.St [arq_Arq.at b0 a0, R] w0 w)  : Calls Tryz.prog 196 #[pt b0, vi a1] w (Ret fun u w => u = Value.tuple #[] ∧ Sep.St [arq_Arq.at b0 r, R] w0 w) := by
 refine calls_enter func196 rfl rfl ?_
 refine go ?_
 obtain ⟨_, _, _, _, _, _, _, _, _, HS⟩ := arq_Arq.open HS
 refine go ?_
 refine W.sr 4 HS rfl rfl rfl fun w HS => ?_
 refine go ?_
 refine W.sr 6 HS rfl rfl rfl fun w HS => ?_
 refine go ?_
 refine W.sr 7 HS rfl rfl rfl fun w HS => ?_
 refine go ?_
 apply V.da [8, 12] [9, 10, 11] [(14, _), (15, _), (16, _), (17, _), (18, _), (19, _), (20, _), (21, _)] mo HS
 rfl
 refine T.e [21] [] [4, 5, 6, 7] fun w HS => ?_
 have HS := HS.b [1]
 refine Y.kl H func238 (fun _ h => backlog_Log_Clear.calls h HS.j1) ?_
 rintro _ _ w H ⟨rfl, HS⟩
 have HS := HS.o1
 apply T.na [(22, _), (23, _), (24, _), (25, _)] HS
 exact nmk
 refine T.e [23, 25] [] [0, 1, 2, 3, 9, 10, 11] fun w HS => ?_
 refine Y.sr 15 HS rfl rfl rfl fun _ w HS => ?_
 refine T.nn HS ?_
 refine T.ff [0] fun w HS => ?_
 refine go ?_
 have HS := HS.b [2]
 refine W.kl H func239 (fun _ h => reorder_Order_Clear.calls h HS.j1) ?_
 rintro _ _ w H ⟨rfl, HS⟩
 have HS := HS.o1
 refine go ?_
 have HS := HS.b [3]
 refine W.kl H func240 (fun _ h => clock_Set_Stop.calls h HS.j1) ?_
 rintro _ _ w H ⟨rfl, HS⟩
 have HS := HS.o1
 refine go ?_
 have HS := arq_Arq.close tv (HS.b [3, 2, 1])
 exact rt
def arq_Arq_end.f (a0 : arq_Arq) : Option arq_Arq := ((arq_Arq_fresh.f a0 0).bind fun t1 => (if (t1.inds.length : Int) + ([2] : List Int).length ≤ 1099511627776 then some (({ t1 with inds := t1.inds ++ ([2] : List Int) } : arq_Arq)) else none))
theorem arq_Arq_end.calls {a0 : arq_Arq} {R : As} {w0 w : World} {b0 : Nat} {r : arq_Arq} (H : arq_Arq_end.f a0 = some r) (HS : Sep.St [arq_Arq.at b0 a0, R] w0 w)  : Calls Tryz.prog 265 #[pt b0] w (Ret fun u w => u = Value.tuple #[] ∧ Sep.St [arq_Arq.at b0 r, R] w0 w) := by
 refine calls_enter func265 rfl rfl ?_
 refine go ?_
 refine W.kl H func196 (fun _ h => arq_Arq_fresh.calls h HS.j1) ?_
 rintro _ _ w H ⟨rfl, HS⟩
 have HS := HS.o1
 refine go ?_
 obtain ⟨_, _, _, _, _, _, _, _, _, HS⟩ := arq_Arq.open HS
 refine go ?_
 refine W.e (Y.ls (e := 3) (Value.int .i64) ([2] : List Int) HS rfl rfl (fun _ => by kernel_rfl)) rfl ?_
 rintro _ w ⟨_, rfl, HS⟩
 obtain ⟨_, H⟩ := ite_n H
 refine W.e (Y.appF (Value.int .i64) (fun _ => rfl) 7 underlying48 ap3 rfl HS rfl rfl rfl (rdC.at 0 row_rd HS rfl) (by omega) (by omega)) rfl ?_
 rintro _ w ⟨_, _, rfl, HS⟩
 refine go ?_
 refine W.sr 12 HS rfl rfl rfl fun w HS => ?_
 refine go ?_
 have HS := (arq_Arq.close tv (HS.b [1, 1, 1, 1, 1, 1, 1])).ke [0, 1]
 exact rt
def arq_Arq_tell.f (k : Nat) (a0 : arq_Arq) (a1 : api_Ctl) : Option arq_Arq := ((arq_Arq_put.f k a0 a0.tag a1 ([] : List Int)).bind fun t4 => some t4)
theorem arq_Arq_tell.calls {k : Nat} {a0 : arq_Arq} {a1 : api_Ctl} {R : As} {w0 w : World} {b0 : Nat} {r : arq_Arq} (H : arq_Arq_tell.f k a0 a1 = some r) (HS : Sep.St [arq_Arq.at b0 a0, R] w0 w)  : Calls Tryz.prog 194 #[pt b0, Value.agg #[vi a1.Kind, vi a1.Ns, vi a1.Nr, vb a1.Poll]] w (Ret fun u w => u = Value.tuple #[] ∧ Sep.St [arq_Arq.at b0 r, R] w0 w) := by
 refine calls_enter func194 rfl rfl ?_
 refine go ?_
 refine W.e (Y.box HS rfl) rfl ?_
 rintro _ w ⟨_, rfl, HS⟩
 refine go ?_
 have HS := HS.fr 1
 obtain ⟨_, _, _, _, _, _, _, _, _, HS⟩ := arq_Arq.open HS
 apply V.da [6] [] [(4, _), (5, _), (6, _), (7, _), (8, _), (9, _)] mo HS
 rfl
 refine T.e [4, 8, 9] [] [0, 1, 2, 3, 4, 5] fun w HS => ?_
 have HS := ((St.row_freeze (row_nilF (Value.int .u8) 5 1 (arq_Arq.close tv HS))).more 0 rfl (fun _ t => t) fsl.pers).b [2]
 refine Y.kl H func236 (fun _ h => arq_Arq_put.calls h HS.j2) ?_
 rintro _ _ w H ⟨rfl, HS⟩
 have HS := HS.o1
 refine T.nw HS ?_
 refine T.ff [] fun w HS => ?_
 have HS := HS.ke [0, 2]
 exact rt
def arq_Arq_late.f (k : Nat) (a0 : arq_Arq) : Option arq_Arq := (if (w64 (a0.tries + 1)) > a0.n2 then ((arq_Arq_end.f ({ a0 with tries := w64 (a0.tries + 1) } : arq_Arq)).bind fun t11 => some t11) else ((arq_Arq_start.f ({ a0 with tries := w64 (a0.tries + 1) } : arq_Arq)).bind fun t13 => (if t13.state = 1 then ((arq_Arq_tell.f k t13 ({ Kind := 3, Ns := 0, Nr := 0, Poll := true } : api_Ctl)).bind fun t18 => some t18) else (if t13.state = 3 then ((arq_Arq_tell.f k t13 ({ Kind := 5, Ns := 0, Nr := 0, Poll := true } : api_Ctl)).bind fun t21 => some t21) else (if t13.state = 2 then ((backlog_Log_Out.f k t13.log).bind fun t26 => (if (t26.length : Int) > 0 then (if 0 ≤ (0 : Int) ∧ (0 : Int) < (t26.length : Int) then ((arq_Arq_repeat.f k t13 (t26.getD (0 : Int).toNat 0) true).bind fun t32 => some t32) else none) else some t13)) else some t13)))))
theorem arq_Arq_late.calls {k : Nat} {a0 : arq_Arq} {R : As} {w0 w : World} {b0 : Nat} {r : arq_Arq} (H : arq_Arq_late.f k a0 = some r) (HS : Sep.St [arq_Arq.at b0 a0, R] w0 w)  : Calls Tryz.prog 225 #[pt b0] w (Ret fun u w => u = Value.tuple #[] ∧ Sep.St [arq_Arq.at b0 r, R] w0 w) := by
 refine calls_enter func225 rfl rfl ?_
 refine go ?_
 obtain ⟨_, _, _, _, _, _, _, _, _, HS⟩ := arq_Arq.open HS
 refine go ?_
 refine W.sr 6 HS rfl rfl rfl fun w HS => ?_
 refine go ?_
 apply V.da [] [] [(10, _), (11, _), (12, _), (13, _), (14, _), (15, _), (16, _), (17, _), (18, _)] mo HS
 rfl
 refine T.ff [0, 18] fun w HS => ?_
 refine go ?_
 refine V.cd H rfl (fun _ H => ?_) (fun _ H => ?_)
 ·refine go ?_
  have HS := arq_Arq.close tv HS
  refine W.kl H func265 (fun _ h => arq_Arq_end.calls h HS.j1) ?_
  rintro _ _ w H ⟨rfl, HS⟩
  have HS := HS.o1
  refine go ?_
  exact rt
 ·refine go ?_
  have HS := arq_Arq.close tv HS
  refine W.kl H func195 (fun _ h => arq_Arq_start.calls h HS.j1) ?_
  rintro _ _ w H ⟨rfl, HS⟩
  have HS := HS.o1
  refine go ?_
  obtain ⟨_, _, _, _, _, _, _, _, _, HS⟩ := arq_Arq.open HS
  refine go ?_
  refine V.cd H rfl (fun _ H => ?_) (fun _ H => ?_)
  ·refine go ?_
   refine W.r (X.bd (Value.agg #[vi (3), vi (0), vi (0), vb true]) rfl (fun _ => by kernel_rfl)) rfl ?_
   have HS := arq_Arq.close tv HS
   refine W.kl H func194 (fun _ h => arq_Arq_tell.calls h HS.j1) ?_
   rintro _ _ w H ⟨rfl, HS⟩
   have HS := HS.o1
   refine go ?_
   exact rt
  ·refine go ?_
   refine V.cd H rfl (fun _ H => ?_) (fun _ H => ?_)
   ·refine go ?_
    refine W.r (X.bd (Value.agg #[vi (5), vi (0), vi (0), vb true]) rfl (fun _ => by kernel_rfl)) rfl ?_
    have HS := arq_Arq.close tv HS
    refine W.kl H func194 (fun _ h => arq_Arq_tell.calls h HS.j1) ?_
    rintro _ _ w H ⟨rfl, HS⟩
    have HS := HS.o1
    refine go ?_
    exact rt
   ·refine go ?_
    refine V.cd H rfl (fun _ H => ?_) (fun _ H => ?_)
    ·refine go ?_
     have HS := HS.fr 1
     obtain ⟨_, _, _, _, HS⟩ := backlog_Log.open HS
     refine W.kl H func260 (fun _ h => backlog_Log_Out.calls h HS.j3) ?_
     rintro _ _ w H ⟨_, _, rfl, HS⟩
     have HS := HS.o4
     refine go ?_
     refine V.cd H rfl (fun _ H => ?_) (fun _ H => ?_)
     ·refine go ?_
      obtain ⟨c29, H⟩ := ite_n H
      obtain ⟨_, _, hh⟩ := (rdC.at 0 row_rd HS rfl).some (by decide) c29.1 c29.2; subst hh
      refine go ?_
      refine W.r (X.load underlying3 rfl rfl ((rdC.at 0 row_rd HS rfl).cellI c29.1 c29.2)) rfl ?_
      have HS := arq_Arq.close tv ((backlog_Log.close tv (HS.b [1, 1, 1])).b [2, 0, 1, 1, 1, 1, 1])
      refine W.kl H func261 (fun _ h => arq_Arq_repeat.calls h HS.j1) ?_
      rintro _ _ w H ⟨rfl, HS⟩
      have HS := HS.o1
      refine go ?_
      have HS := HS.ke [0, 1]
      exact rt
     ·refine go ?_
      have HS := (arq_Arq.close tv ((backlog_Log.close tv (HS.b [1, 1, 1])).b [2, 0, 1, 1, 1, 1, 1])).ke [0, 1]
      exact rt
    ·refine go ?_
     have HS := arq_Arq.close tv HS
     exact rt
mutual
def arq_Arq_Pass.l0 : Nat → Int → Int → Int → Bool → arq_Arq → Option arq_Arq
 | 0, _, _, _, _, _ => none
 | k + 1, t1, x16, x17, x18, x19 => (if x18 = true then (arq_Arq_Pass.j1 k t1 x16 x17 x19 (arq_Arq_Pass.l0 k t1) (decide (x17 ≤ x16))) else (arq_Arq_Pass.j1 k t1 x16 x17 x19 (arq_Arq_Pass.l0 k t1) false))
def arq_Arq_Pass.j1 (k : Nat) (t1 : Int) (x16 : Int) (x17 : Int) (x19 : arq_Arq) (Lq24 : Int → Int → Bool → arq_Arq → Option arq_Arq) (x22 : Bool) : Option arq_Arq := (if x22 = true then ((clock_Set_Pass.f k x19.timers x17).bind fun t29 => ((arq_Arq_late.f k ({ x19 with timers := t29.2 } : arq_Arq)).bind fun t31 => ((clock_Set_Left.f t31.timers 0).bind fun t37 => (Lq24 (w64 (x16 - x17)) t37.1 t37.2 t31)))) else ((clock_Set_Pass.f k x19.timers x16).bind fun t41 => some ({ x19 with timers := t41.2 } : arq_Arq)))
end
def arq_Arq_Pass.f (k : Nat) (a0 : arq_Arq) (a1 : Int) : Option arq_Arq := ((arq_cut.f a1 0 1048576).bind fun t1 => ((clock_Set_Left.f a0.timers 0).bind fun t8 => (arq_Arq_Pass.l0 k t1 t1 t8.1 t8.2 a0)))
theorem arq_Arq_Pass.calls {k : Nat} {a0 : arq_Arq} {a1 : Int} {R : As} {w0 w : World} {b0 : Nat} {r : arq_Arq} (H : arq_Arq_Pass.f k a0 a1 = some r) (HS : Sep.St [arq_Arq.at b0 a0, R] w0 w)  : Calls Tryz.prog 179 #[pt b0, vi a1] w (Ret fun u w => u = Value.tuple #[] ∧ Sep.St [arq_Arq.at b0 r, R] w0 w) := by
 refine calls_enter func179 rfl rfl ?_
 refine go ?_
 refine W.kl H func126 (fun _ h => arq_cut.calls h HS.j0) ?_
 rintro t1 _ w H ⟨rfl, HS⟩
 have HS := HS.o0
 refine go ?_
 obtain ⟨_, _, _, _, _, _, _, _, _, HS⟩ := arq_Arq.open HS
 refine go ?_
 have HS := HS.fr 3
 obtain ⟨hi7, HS⟩ := clock_Set.open HS
 refine W.kl H func223 (fun _ h => clock_Set_Left.calls h HS.j1 (by first | exact hi7 | (simp only [List.length_set]; exact hi7))) ?_
 rintro _ _ w H ⟨rfl, HS⟩
 have HS := HS.o1
 refine go ?_
 have HS := arq_Arq.close tv ((clock_Set.close (by first | exact hi7 | (simp only [List.length_set]; exact hi7)) HS).b [1, 1, 1])
 refine V.lp (σ := Int × Int × Bool × arq_Arq) (fun kq (x16, x17, x18, x19) w => Sep.St [arq_Arq.at b0 x19, R] w0 w ∧ arq_Arq_Pass.l0 kq t1 x16 x17 x18 x19 = some r ∧ kq ≤ k) (fun (x16, x17, x18, x19) => [(0, pt b0), (1, vi x16), (4, vi x17), (5, vb x18)]) (_, _, _, _) ⟨HS, H, Nat.le_refl _⟩ ?_
 rintro kq20 ⟨x16, x17, x18, x19⟩ w ⟨HS, H, _⟩
 cases kq20 with
 | zero => exact absurd H (by simp [arq_Arq_Pass.l0])
 | succ kq20 =>
  simp only [arq_Arq_Pass.l0] at H
  refine V.seq ?_
  refine V.meet (σ := Bool) (fun x22 w => Sep.St [arq_Arq.at b0 x19, R] w0 w ∧ ∃ kf23 kl25, kf23 ≤ kq20 ∧ kl25 ≤ kq20 ∧ arq_Arq_Pass.j1 kf23 t1 x16 x17 x19 (arq_Arq_Pass.l0 kl25 t1) x22 = some r) (fun x22 => [(0, pt b0), (1, vi x16), (4, vi x17), (21, vb x22)]) ?_ ?_
  ·refine go ?_
   refine W.cv 17 H rfl (fun _ H => ?_) (fun _ H => ?_)
   ·refine go ?_
    exact At.mt _ ⟨HS, kq20, kq20, by omega, by omega, H⟩
   ·refine go ?_
    exact At.mt _ ⟨HS, kq20, kq20, by omega, by omega, H⟩
  ·rintro x22 w ⟨HS, kf23, kl25, _, _, H⟩
   refine V.cv H rfl (fun _ H => ?_) (fun _ H => ?_)
   ·refine go ?_
    obtain ⟨_, _, _, _, _, _, _, _, _, HS⟩ := arq_Arq.open HS
    refine go ?_
    have HS := HS.b [3]
    refine W.kl H func224 (fun _ h => clock_Set_Pass.calls h HS.j1) ?_
    rintro _ _ w H ⟨_, _, rfl, HS⟩
    have HS := HS.o2
    refine go ?_
    have HS := arq_Arq.close tv (HS.b [2, 2, 2, 1, 1, 1, 1])
    refine W.kl H func225 (fun _ h => arq_Arq_late.calls h HS.j1) ?_
    rintro _ _ w H ⟨rfl, HS⟩
    have HS := HS.o1
    refine go ?_
    obtain ⟨_, _, _, _, _, _, _, _, _, HS⟩ := arq_Arq.open HS
    refine go ?_
    have HS := HS.fr 3
    obtain ⟨hi36, HS⟩ := clock_Set.open HS
    refine W.kl H func223 (fun _ h => clock_Set_Left.calls h HS.j1 (by first | exact hi36 | (simp only [List.length_set]; exact hi36))) ?_
    rintro _ _ w H ⟨rfl, HS⟩
    have HS := HS.o1
    refine go ?_
    have HS := (arq_Arq.close tv ((clock_Set.close (by first | exact hi36 | (simp only [List.length_set]; exact hi36)) HS).b [1, 1, 1])).ke [0, 1]
    exact At.rn (_, _, _, _) ⟨HS, H, by omega⟩
   ·refine go ?_
    obtain ⟨_, _, _, _, _, _, _, _, _, HS⟩ := arq_Arq.open HS
    refine go ?_
    have HS := HS.b [3]
    refine W.kl H func224 (fun _ h => clock_Set_Pass.calls h HS.j1) ?_
    rintro _ _ w H ⟨_, _, rfl, HS⟩
    have HS := HS.o2
    refine go ?_
    have HS := (arq_Arq.close tv (HS.b [2, 2, 2, 1, 1, 1, 1])).ke [0, 1]
    exact rt
def arq_Arq_Output.f (a0 : arq_Arq) : Option (List (List Int) × arq_Arq) := some (a0.out, ({ a0 with out := ([] : List (List Int)) } : arq_Arq))
theorem arq_Arq_Output.calls {a0 : arq_Arq} {R : As} {w0 w : World} {b0 : Nat} {r : List (List Int) × arq_Arq} (H : arq_Arq_Output.f a0 = some r) (HS : Sep.St [arq_Arq.at b0 a0, R] w0 w)  : Calls Tryz.prog 180 #[pt b0] w (Ret fun u w => ∃ (aq0 : Option Addr) (cq0 : Nat) (dq0 : List Value), u = vs aq0 r.1.length cq0 ∧ Sep.St [row 27 1 (.slice aq0 r.1.length cq0) r.1.length dq0, tie (El.sl (El.int .u8)) dq0 r.1, arq_Arq.at b0 r.2, R] w0 w) := by
 refine calls_enter func180 rfl rfl ?_
 refine go ?_
 obtain ⟨_, _, _, _, _, _, _, _, _, HS⟩ := arq_Arq.open HS
 refine go ?_
 refine W.sr 11 HS rfl rfl rfl fun w HS => ?_
 refine go ?_
 have HS := (arq_Arq.close (l11 := ([] : List (List Int))) tv ((row_nilE (El.sl (El.int .u8)) 27 1 HS).b [2, 2, 2, 2, 0, 0, 2])).b [1, 1]
 exact rt
def station_Station_piece.f (k : Nat) (a0 : station_Station) (a1 : List Int) : Option (List Int × station_Station) := ((slices_Concat_Sbytebyte.f k ([([0, IntKind.u8.wrap (a0.number.fdiv (2 ^ (min (24 : Int).toNat IntKind.u32.bits))), IntKind.u8.wrap (a0.number.fdiv (2 ^ (min (16 : Int).toNat IntKind.u32.bits))), IntKind.u8.wrap (a0.number.fdiv (2 ^ (min (8 : Int).toNat IntKind.u32.bits))), IntKind.u8.wrap a0.number] : List Int), a1] : List (List Int))).bind fun t9 => some (t9, ({ a0 with number := IntKind.u32.wrap (a0.number + 1) } : station_Station)))
theorem station_Station_piece.calls {k : Nat} {a0 : station_Station} {a1 : List Int} {R : As} {w0 w : World} {b0 : Nat} {sa1 : Option Addr} {sc1 : Nat} {r : List Int × station_Station} (H : station_Station_piece.f k a0 a1 = some r) (HS : Sep.St [station_Station.at b0 a0, fsl 1 (.slice sa1 a1.length sc1) a1.length (a1.map (Value.int .u8)), R] w0 w)  : Calls Tryz.prog 181 #[pt b0, vs sa1 a1.length sc1] w (Ret fun u w => ∃ (aq0 : Option Addr) (cq0 : Nat), u = vs aq0 r.1.length cq0 ∧ Sep.St [row 5 1 (.slice aq0 r.1.length cq0) r.1.length (r.1.map (Value.int .u8)), station_Station.at b0 r.2, R] w0 w) := by
 refine calls_enter func181 rfl rfl ?_
 refine go ?_
 obtain ⟨_, _, _, _, _, _, _, _, _, _, HS⟩ := station_Station.open HS
 refine go ?_
 refine W.sr 19 HS rfl rfl rfl fun w HS => ?_
 refine go ?_
 refine W.r (X.shr rfl rfl (by decide)) rfl ?_
 refine go ?_
 refine W.r (X.shr rfl rfl (by decide)) rfl ?_
 refine go ?_
 refine W.r (X.shr rfl rfl (by decide)) rfl ?_
 refine go ?_
 refine W.e (Y.ls (e := 5) (Value.int .u8) ([0, IntKind.u8.wrap (a0.number.fdiv (2 ^ (min (24 : Int).toNat IntKind.u32.bits))), IntKind.u8.wrap (a0.number.fdiv (2 ^ (min (16 : Int).toNat IntKind.u32.bits))), IntKind.u8.wrap (a0.number.fdiv (2 ^ (min (8 : Int).toNat IntKind.u32.bits))), IntKind.u8.wrap a0.number] : List Int) HS rfl rfl (fun _ => by kernel_rfl)) rfl ?_
 rintro _ w ⟨lb5, rfl, HS⟩
 refine go ?_
 have HS := St.row_freeze HS
 refine W.e (Y.lc (e := 27) (sz := 1) [vs (some ⟨lb5, 0, none⟩) (([0, IntKind.u8.wrap (a0.number.fdiv (2 ^ (min (24 : Int).toNat IntKind.u32.bits))), IntKind.u8.wrap (a0.number.fdiv (2 ^ (min (16 : Int).toNat IntKind.u32.bits))), IntKind.u8.wrap (a0.number.fdiv (2 ^ (min (8 : Int).toNat IntKind.u32.bits))), IntKind.u8.wrap a0.number] : List Int)).length 5, vs sa1 a1.length sc1] HS rfl rfl (fun _ => by kernel_rfl)) rfl ?_
 rintro _ w ⟨_, rfl, HS⟩
 have HS := St.tie_cons (((St.sl_close (E := (El.int .u8)) (St.swap (St.put (A := tie (El.int .u8) ((([0, IntKind.u8.wrap (a0.number.fdiv (2 ^ (min (24 : Int).toNat IntKind.u32.bits))), IntKind.u8.wrap (a0.number.fdiv (2 ^ (min (16 : Int).toNat IntKind.u32.bits))), IntKind.u8.wrap (a0.number.fdiv (2 ^ (min (8 : Int).toNat IntKind.u32.bits))), IntKind.u8.wrap a0.number] : List Int)).map (Value.int .u8)) (([0, IntKind.u8.wrap (a0.number.fdiv (2 ^ (min (24 : Int).toNat IntKind.u32.bits))), IntKind.u8.wrap (a0.number.fdiv (2 ^ (min (16 : Int).toNat IntKind.u32.bits))), IntKind.u8.wrap (a0.number.fdiv (2 ^ (min (8 : Int).toNat IntKind.u32.bits))), IntKind.u8.wrap a0.number] : List Int))) (fun _ => int_tie) ((St.tie_cons (((St.sl_close (E := (El.int .u8)) (St.swap (St.put (A := tie (El.int .u8) (a1.map (Value.int .u8)) a1) (fun _ => int_tie) ((St.put (A := tie (El.sl (El.int .u8)) ([]) (([] : List (List Int)))) (fun _ => tie.nil) HS).more 13 rfl (fun _ t => t) fsl.pers)))).fr 1).fr 1)).more 2 rfl (fun _ t => t) fsl.pers)))).fr 1).fr 1)
 refine W.kl H func215 (fun _ h => slices_Concat_Sbytebyte.calls h HS.j0 (rdC.part 1 row_rd rfl) (fun h hh => let ⟨_, l, t⟩ := Sp.has 0 hh rfl; tie.mono t l)) ?_
 rintro _ _ w H ⟨_, _, rfl, HS⟩
 have HS := HS.o1
 refine go ?_
 have HS := (station_Station.close tv (HS.b [4, 4, 4, 4, 4, 4, 4, 4, 4, 4])).ke [1, 0, 4]
 exact rt
mutual
def octets_Stuff.l0 : Nat → (List Int) → Int → (List Int) → Option (List Int)
 | 0, _, _, _ => none
 | k + 1, a0, x2, x5 => (if x2 < (a0.length : Int) then (if 0 ≤ x2 ∧ x2 < (a0.length : Int) then (if (a0.getD x2.toNat 0) = 126 then (octets_Stuff.j2 a0 x2 x5 (octets_Stuff.l0 k a0) true) else (octets_Stuff.j2 a0 x2 x5 (octets_Stuff.l0 k a0) (decide ((a0.getD x2.toNat 0) = 125)))) else none) else some x5)
def octets_Stuff.j1 (x2 : Int) (Lq17 : Int → (List Int) → Option (List Int)) (x14 : List Int) (x15 : Int) : Option (List Int) := (if (x14.length : Int) + ([x15] : List Int).length ≤ 1099511627776 then (Lq17 (w64 (x2 + 1)) (x14 ++ ([x15] : List Int))) else none)
def octets_Stuff.j2 (a0 : List Int) (x2 : Int) (x5 : List Int) (Lq27 : Int → (List Int) → Option (List Int)) (x25 : Bool) : Option (List Int) := (if x25 = true then (if (x5.length : Int) + ([125] : List Int).length ≤ 1099511627776 then (octets_Stuff.j1 x2 Lq27 (x5 ++ ([125] : List Int)) (ixor .u8 (a0.getD x2.toNat 0) (32))) else none) else (octets_Stuff.j1 x2 Lq27 x5 (a0.getD x2.toNat 0)))
end
def octets_Stuff.f (k : Nat) (a0 : List Int) : Option (List Int) := (octets_Stuff.l0 k a0 0 ([] : List Int))
theorem octets_Stuff.calls {k : Nat} {a0 : List Int} {R : As} {w0 w : World} {sa0 : Option Addr} {sc0 : Nat} {r : List Int} (H : octets_Stuff.f k a0 = some r) (HS : Sep.St [R] w0 w) (hr0 : rdC R 1 (.slice sa0 a0.length sc0) a0.length (a0.map (Value.int .u8))) : Calls Tryz.prog 266 #[vs sa0 a0.length sc0] w (Ret fun u w => ∃ (aq0 : Option Addr) (cq0 : Nat), u = vs aq0 r.length cq0 ∧ Sep.St [row 5 1 (.slice aq0 r.length cq0) r.length (r.map (Value.int .u8)), R] w0 w) := by
 refine calls_enter func266 rfl rfl ?_
 refine go ?_
 have HS := row_nilF (Value.int .u8) 5 1 HS
 refine V.lp (σ := Int × Option Addr × Nat × List Int) (fun kq (x2, ra3, rc4, x5) w => Sep.St [row 5 1 (.slice ra3 x5.length rc4) x5.length (x5.map (Value.int .u8)), R] w0 w ∧ octets_Stuff.l0 kq a0 x2 x5 = some r ∧ kq ≤ k) (fun (x2, ra3, rc4, x5) => [(3, vs ra3 x5.length rc4), (6, vs sa0 a0.length sc0), (7, vi (a0.length : Int)), (8, vi x2)]) (_, _, _, _) ⟨HS, H, Nat.le_refl _⟩ ?_
 rintro kq6 ⟨x2, ra3, rc4, x5⟩ w ⟨HS, H, _⟩
 cases kq6 with
 | zero => exact absurd H (by simp [octets_Stuff.l0])
 | succ kq6 =>
  simp only [octets_Stuff.l0] at H
  refine go ?_
  refine V.cd H rfl (fun _ H => ?_) (fun _ H => ?_)
  ·refine go ?_
   obtain ⟨c9, H⟩ := ite_n H
   obtain ⟨eb10, eo11, hh⟩ := (rdC.at 1 hr0 HS rfl).some (by decide) c9.1 c9.2; subst hh
   refine go ?_
   refine W.r (X.load underlying5 rfl rfl ((rdC.at 1 hr0 HS rfl).cellI c9.1 c9.2)) rfl ?_
   refine gs ?_
   refine V.meet (σ := Option Addr × Nat × List Int × Int) (fun (ra12, rc13, x14, x15) w => Sep.St [row 5 1 (.slice ra12 x14.length rc13) x14.length (x14.map (Value.int .u8)), R] w0 w ∧ ∃ kl18, kl18 ≤ kq6 ∧ octets_Stuff.j1 x2 (octets_Stuff.l0 kl18 a0) x14 x15 = some r) (fun (ra12, rc13, x14, x15) => [(3, vs ra12 x14.length rc13), (5, Value.int .u8 x15), (6, vs (some ⟨eb10, eo11, none⟩) a0.length sc0), (7, vi (a0.length : Int)), (8, vi x2)]) ?_ ?_
   ·refine V.meet (σ := Bool) (fun x25 w => Sep.St [row 5 1 (.slice ra3 x5.length rc4) x5.length (x5.map (Value.int .u8)), R] w0 w ∧ ∃ kl28, kl28 ≤ kq6 ∧ octets_Stuff.j2 a0 x2 x5 (octets_Stuff.l0 kl28 a0) x25 = some r) (fun x25 => [(3, vs ra3 x5.length rc4), (5, Value.int .u8 (a0.getD x2.toNat 0)), (6, vs (some ⟨eb10, eo11, none⟩) a0.length sc0), (7, vi (a0.length : Int)), (8, vi x2), (17, vb x25)]) ?_ ?_
    ·refine go ?_
     refine W.cd 14 H rfl (fun _ H => ?_) (fun _ H => ?_)
     ·refine go ?_
      exact At.mt _ ⟨HS, kq6, by omega, H⟩
     ·refine go ?_
      exact At.mt _ ⟨HS, kq6, by omega, H⟩
    ·rintro x25 w ⟨HS, kl28, _, H⟩
     refine V.cv H rfl (fun _ H => ?_) (fun _ H => ?_)
     ·refine go ?_
      refine W.e (Y.ls (e := 5) (Value.int .u8) ([125] : List Int) HS rfl rfl (fun _ => by kernel_rfl)) rfl ?_
      rintro _ w ⟨_, rfl, HS⟩
      obtain ⟨_, H⟩ := ite_n H
      refine W.e (Y.appF (Value.int .u8) (fun _ => rfl) 1 underlying27 ap5 rfl HS rfl rfl rfl (rdC.at 0 row_rd HS rfl) (by omega) (by omega)) rfl ?_
      rintro _ w ⟨_, _, rfl, HS⟩
      refine go ?_
      refine W.r (X.xor rfl rfl) rfl ?_
      refine go ?_
      have HS := HS.ke [1, 1]
      exact At.mt (_, _, _, _) ⟨HS, kl28, by omega, H⟩
     ·refine go ?_
      exact At.mt (_, _, _, _) ⟨HS, kl28, by omega, H⟩
   ·rintro ⟨ra12, rc13, x14, x15⟩ w ⟨HS, kl18, _, H⟩
    refine go ?_
    refine W.e (Y.ls (e := 5) (Value.int .u8) ([x15] : List Int) HS rfl rfl (fun _ => by kernel_rfl)) rfl ?_
    rintro _ w ⟨_, rfl, HS⟩
    obtain ⟨_, H⟩ := ite_n H
    refine W.e (Y.appF (Value.int .u8) (fun _ => rfl) 1 underlying27 ap5 rfl HS rfl rfl rfl (rdC.at 0 row_rd HS rfl) (by omega) (by omega)) rfl ?_
    rintro _ w ⟨_, _, rfl, HS⟩
    refine go ?_
    have HS := HS.ke [1, 1]
    exact At.rn (_, _, _, _) ⟨HS, H, by omega⟩
  ·refine go ?_
   exact rt
def frame_Put.f (k : Nat) (a0 : List Int) (a1 : Bool) : Option (List Int) := ((fcs_Put.f k a0 a1).bind fun t4 => ((octets_Stuff.f k t4).bind fun t6 => ((slices_Concat_Sbytebyte.f k ([([126] : List Int), t6, ([126] : List Int)] : List (List Int))).bind fun t14 => some t14)))
theorem frame_Put.calls {k : Nat} {a0 : List Int} {a1 : Bool} {R : As} {w0 w : World} {sa0 : Option Addr} {sc0 : Nat} {r : List Int} (H : frame_Put.f k a0 a1 = some r) (HS : Sep.St [fsl 1 (.slice sa0 a0.length sc0) a0.length (a0.map (Value.int .u8)), R] w0 w)  : Calls Tryz.prog 227 #[vs sa0 a0.length sc0, vb a1] w (Ret fun u w => ∃ (aq0 : Option Addr) (cq0 : Nat), u = vs aq0 r.length cq0 ∧ Sep.St [row 5 1 (.slice aq0 r.length cq0) r.length (r.map (Value.int .u8)), R] w0 w) := by
 refine calls_enter func227 rfl rfl ?_
 refine go ?_
 refine W.e (Y.ls (e := 5) (Value.int .u8) ([126] : List Int) HS rfl rfl (fun _ => by kernel_rfl)) rfl ?_
 rintro _ w ⟨lb3, rfl, HS⟩
 refine go ?_
 have HS := HS.more 1 rfl (fun _ t => t) fsl.pers
 refine W.kl H func174 (fun _ h => fcs_Put.calls h HS.j1) ?_
 rintro _ _ w H ⟨_, _, rfl, HS⟩
 have HS := HS.o1
 refine W.kl H func266 (fun _ h => octets_Stuff.calls h HS.j0 (rdC.part 0 row_rd rfl)) ?_
 rintro t6 _ w H ⟨at6_0, ct6_0, rfl, HS⟩
 have HS := HS.o1
 refine W.e (Y.ls (e := 5) (Value.int .u8) ([126] : List Int) HS rfl rfl (fun _ => by kernel_rfl)) rfl ?_
 rintro _ w ⟨lb10, rfl, HS⟩
 have HS := St.row_freeze ((St.row_freeze ((St.row_freeze (HS.fr 3)).fr 2)).fr 2)
 refine W.e (Y.lc (e := 27) (sz := 1) [vs (some ⟨lb3, 0, none⟩) ([126] : List Int).length 1, vs at6_0 t6.length ct6_0, vs (some ⟨lb10, 0, none⟩) ([126] : List Int).length 1] HS rfl rfl (fun _ => by kernel_rfl)) rfl ?_
 rintro _ w ⟨_, rfl, HS⟩
 have HS := St.tie_cons (((St.sl_close (E := (El.int .u8)) (St.swap (St.put (A := tie (El.int .u8) (([126] : List Int).map (Value.int .u8)) ([126] : List Int)) (fun _ => int_tie) ((St.tie_cons (((St.sl_close (E := (El.int .u8)) (St.swap (St.put (A := tie (El.int .u8) (t6.map (Value.int .u8)) t6) (fun _ => int_tie) ((St.tie_cons (((St.sl_close (E := (El.int .u8)) (St.swap (St.put (A := tie (El.int .u8) (([126] : List Int).map (Value.int .u8)) ([126] : List Int)) (fun _ => int_tie) ((St.put (A := tie (El.sl (El.int .u8)) ([]) (([] : List (List Int)))) (fun _ => tie.nil) HS).more 2 rfl (fun _ t => t) fsl.pers)))).fr 1).fr 1)).more 3 rfl (fun _ t => t) fsl.pers)))).fr 1).fr 1)).more 4 rfl (fun _ t => t) fsl.pers)))).fr 1).fr 1)
 refine W.kl H func215 (fun _ h => slices_Concat_Sbytebyte.calls h HS.j0 (rdC.part 1 row_rd rfl) (fun h hh => let ⟨_, l, t⟩ := Sp.has 0 hh rfl; tie.mono t l)) ?_
 rintro _ _ w H ⟨_, _, rfl, HS⟩
 have HS := HS.o1
 refine go ?_
 have HS := HS.ke [0, 7]
 exact rt
def ring_Ring_Add.f (a0 : ring_Ring) (a1 : List Int) : Option (Bool × ring_Ring) := (if (a1.length : Int) > (w64 (a0.room - (a0.b.length : Int))) then some (false, ({ a0 with dropped := imin (w64 (a0.dropped + 1)) (4294967295) } : ring_Ring)) else (if (a0.b.length : Int) + a1.length ≤ 1099511627776 then (if (a0.pieces.length : Int) + (([(a1.length : Int)] : List Int)).length ≤ 1099511627776 then some (true, ({ a0 with b := a0.b ++ a1, pieces := a0.pieces ++ ([(a1.length : Int)] : List Int) } : ring_Ring)) else none) else none))
theorem ring_Ring_Add.calls {a0 : ring_Ring} {a1 : List Int} {R : As} {w0 w : World} {b0 : Nat} {sa1 : Option Addr} {sc1 : Nat} {r : Bool × ring_Ring} (H : ring_Ring_Add.f a0 a1 = some r) (HS : Sep.St [ring_Ring.at b0 a0, R] w0 w) (hr1 : rdC R 1 (.slice sa1 a1.length sc1) a1.length (a1.map (Value.int .u8))) : Calls Tryz.prog 226 #[pt b0, vs sa1 a1.length sc1] w (Ret fun u w => u = vb r.1 ∧ Sep.St [ring_Ring.at b0 r.2, R] w0 w) := by
 refine calls_enter func226 rfl rfl ?_
 refine go ?_
 obtain ⟨_, _, _, _, _, HS⟩ := ring_Ring.open HS
 apply V.da [] [] [(5, _), (6, _), (7, _), (8, _), (9, _), (10, _), (11, _), (12, _), (13, _), (14, _), (15, _), (16, _), (17, _)] mo HS
 rfl
 refine T.ff [0, 1, 17] fun w HS => ?_
 refine go ?_
 refine V.cd H rfl (fun _ H => ?_) (fun _ H => ?_)
 ·refine go ?_
  refine W.sr 4 HS rfl rfl rfl fun w HS => ?_
  refine go ?_
  have HS := ring_Ring.close tv HS
  exact rt
 ·refine go ?_
  obtain ⟨_, H⟩ := ite_n H
  refine W.e (Y.appF (Value.int .u8) (fun _ => rfl) 1 underlying27 ap5 rfl HS rfl rfl rfl (rdC.at 3 hr1 HS rfl) (by omega) (by omega)) rfl ?_
  rintro _ w ⟨_, _, rfl, HS⟩
  refine go ?_
  refine W.sr 1 HS rfl rfl rfl fun w HS => ?_
  refine go ?_
  refine W.e (Y.ls (e := 3) (Value.int .i64) ([(a1.length : Int)] : List Int) HS rfl rfl (fun _ => by kernel_rfl)) rfl ?_
  rintro _ w ⟨_, rfl, HS⟩
  obtain ⟨_, H⟩ := ite_n H
  refine W.e (Y.appF (Value.int .i64) (fun _ => rfl) 3 underlying48 ap3 rfl HS rfl rfl rfl (rdC.at 0 row_rd HS rfl) (by omega) (by omega)) rfl ?_
  rintro _ w ⟨_, _, rfl, HS⟩
  refine go ?_
  refine W.sr 3 HS rfl rfl rfl fun w HS => ?_
  refine go ?_
  have HS := (ring_Ring.close tv (HS.b [1, 1, 1])).ke [0, 1]
  exact rt
def V80.at (b : Nat) (x : (List (List Int) × List (List Int))) : As := fun h => True ∧ ∃ a0 : Option Addr, ∃ c0 : Nat, ∃ d0 : List Value, ∃ a1 : Option Addr, ∃ c1 : Nat, ∃ d1 : List Value, Sp [blk b (#[vs a0 x.1.length c0, vs a1 x.2.length c1]) 80, row 27 1 (.slice a0 x.1.length c0) x.1.length d0, tie (El.sl (El.int .u8)) d0 x.1, row 27 1 (.slice a1 x.2.length c1) x.2.length d1, tie (El.sl (El.int .u8)) d1 x.2] h
theorem V80.open {b : Nat} {x : (List (List Int) × List (List Int))} {L : List As} {w0 w : World} (hs : Sep.St (V80.at b x :: L) w0 w) : ∃ a0 : Option Addr, ∃ c0 : Nat, ∃ d0 : List Value, ∃ a1 : Option Addr, ∃ c1 : Nat, ∃ d1 : List Value, True ∧ Sep.St (blk b (#[vs a0 x.1.length c0, vs a1 x.2.length c1]) 80 :: row 27 1 (.slice a0 x.1.length c0) x.1.length d0 :: tie (El.sl (El.int .u8)) d0 x.1 :: row 27 1 (.slice a1 x.2.length c1) x.2.length d1 :: tie (El.sl (El.int .u8)) d1 x.2 :: L) w0 w := by
 obtain ⟨ho, ht, hu, h, hon, h1, h2, hd, e1, e2, ⟨hi, a0, c0, d0, a1, c1, d1, hA⟩, hl⟩ := hs
 exact ⟨a0, c0, d0, a1, c1, d1, hi, St.open (m := [blk b (#[vs a0 x.1.length c0, vs a1 x.2.length c1]) 80, row 27 1 (.slice a0 x.1.length c0) x.1.length d0, tie (El.sl (El.int .u8)) d0 x.1, row 27 1 (.slice a1 x.2.length c1) x.2.length d1, tie (El.sl (El.int .u8)) d1 x.2]) ⟨ho, ht, hu, h, hon, h1, h2, hd, e1, e2, hA, hl⟩⟩
theorem V80.close {b : Nat} {l0 : List (List Int)} {l1 : List (List Int)} {a0 : Option Addr} {c0 : Nat} {d0 : List Value} {a1 : Option Addr} {c1 : Nat} {d1 : List Value} {L : List As} {w0 w : World} (hi : True) (hs : Sep.St (blk b (#[vs a0 l0.length c0, vs a1 l1.length c1]) 80 :: row 27 1 (.slice a0 l0.length c0) l0.length d0 :: tie (El.sl (El.int .u8)) d0 l0 :: row 27 1 (.slice a1 l1.length c1) l1.length d1 :: tie (El.sl (El.int .u8)) d1 l1 :: L) w0 w) : Sep.St (V80.at b (l0, l1) :: L) w0 w := by
 have h2 := St.join (m := [blk b (#[vs a0 l0.length c0, vs a1 l1.length c1]) 80, row 27 1 (.slice a0 l0.length c0) l0.length d0, tie (El.sl (El.int .u8)) d0 l0, row 27 1 (.slice a1 l1.length c1) l1.length d1, tie (El.sl (El.int .u8)) d1 l1]) hs
 exact h2.mono fun h hh => ⟨hi, _, _, _, _, _, _, hh⟩
mutual
def station_Station_put.j0 (a1 : (List (List Int) × List (List Int))) (a2 : Int) (a3 : List Int) (x4 : station_Station) (x5 : Bool) : Option (station_Station × (List (List Int) × List (List Int))) := (if x5 = true then (if 0 ≤ a2 ∧ a2 < 2 then (if a2 = 0 then ((slices_Clone_Sbytebyte.f a3).bind fun t12 => (if (a1.1.length : Int) + (([t12] : List (List Int))).length ≤ 1099511627776 then some (x4, (a1.1 ++ ([t12] : List (List Int)), a1.2)) else none)) else ((slices_Clone_Sbytebyte.f a3).bind fun t21 => (if (a1.2.length : Int) + (([t21] : List (List Int))).length ≤ 1099511627776 then some (x4, (a1.1, a1.2 ++ ([t21] : List (List Int)))) else none))) else none) else some (x4, a1))
end
def station_Station_put.f (k : Nat) (a0 : station_Station) (a1 : (List (List Int) × List (List Int))) (a2 : Int) (a3 : List Int) : Option (station_Station × (List (List Int) × List (List Int))) := (if 0 ≤ a2 ∧ a2 < 2 then (if a2 = 0 then ((frame_Put.f k a3 a0.c.Wide).bind fun t33 => ((ring_Ring_Add.f a0.sides.1.ring t33).bind fun t35 => (station_Station_put.j0 a1 a2 a3 ({ a0 with sides := (({ a0.sides.1 with ring := t35.2 } : station_side), a0.sides.2) } : station_Station) t35.1))) else ((frame_Put.f k a3 a0.c.Wide).bind fun t38 => ((ring_Ring_Add.f a0.sides.2.ring t38).bind fun t40 => (station_Station_put.j0 a1 a2 a3 ({ a0 with sides := (a0.sides.1, ({ a0.sides.2 with ring := t40.2 } : station_side)) } : station_Station) t40.1)))) else none)
theorem station_Station_put.calls {k : Nat} {a0 : station_Station} {a1 : (List (List Int) × List (List Int))} {a2 : Int} {a3 : List Int} {R : As} {w0 w : World} {b0 : Nat} {b1 : Nat} {sa3 : Option Addr} {sc3 : Nat} {r : station_Station × (List (List Int) × List (List Int))} (H : station_Station_put.f k a0 a1 a2 a3 = some r) (HS : Sep.St [station_Station.at b0 a0, V80.at b1 a1, fsl 1 (.slice sa3 a3.length sc3) a3.length (a3.map (Value.int .u8)), R] w0 w)  : Calls Tryz.prog 182 #[pt b0, pt b1, vi a2, vs sa3 a3.length sc3] w (Ret fun u w => u = Value.tuple #[] ∧ Sep.St [station_Station.at b0 r.1, V80.at b1 r.2, R] w0 w) := by
 refine calls_enter func182 rfl rfl ?_
 refine V.meet (σ := station_Station × Bool) (fun (x4, x5) w => Sep.St [station_Station.at b0 x4, V80.at b1 a1, fsl 1 (.slice sa3 a3.length sc3) a3.length (a3.map (Value.int .u8)), R] w0 w ∧ station_Station_put.j0 a1 a2 a3 x4 x5 = some r) (fun (x4, x5) => [(1, pt b1), (2, vi a2), (3, vs sa3 a3.length sc3), (22, vb x5)]) ?_ ?_
 ·obtain ⟨_, _, _, _, _, _, _, _, _, _, HS⟩ := station_Station.open HS
  obtain ⟨c31, H⟩ := ite_n H
  refine ite_c H (fun c32 H => ?_) (fun _ H => ?_)
  ·apply V.da [13, 14] [] [(8, _), (9, _), (10, _), (11, _), (12, _), (13, _), (14, _), (15, _), (16, _), (17, _), (18, _), (19, _), (20, _)] mo HS
   rfl
   refine T.e [15, 20] [] [7, 8, 9, 10, 11, 12] (fun w HS => ?_) ⟨rd, rd, rd, rd, .n2 9 11 rfl rfl rfl (fun w HS => X.indexArK 0 c32 underlying126 inf125 rfl rfl c31.1 c31.2), rds⟩
   have HS := HS.more 11 rfl (fun _ t => t) fsl.pers
   refine Y.kl H func227 (fun _ h => frame_Put.calls h HS.j1) ?_
   rintro _ _ w H ⟨_, _, rfl, HS⟩
   have HS := HS.o1
   refine T.nw HS ?_
   refine T.e [14, 21] [] [0, 1, 2, 3, 4, 5, 6] (fun w HS => ?_) ⟨rd, rd, rd, rd, .n2 9 11 rfl rfl rfl (fun w HS => X.indexArK 0 c32 underlying126 inf125 rfl rfl c31.1 c31.2), rds⟩
   have HS := HS.b [7]
   refine Y.kl H func226 (fun _ h => ring_Ring_Add.calls h HS.j1 (rdC.part 0 row_rd rfl)) ?_
   rintro _ _ w H ⟨rfl, HS⟩
   have HS := HS.o1
   refine T.nw HS ?_
   refine T.ff [1, 2, 3, 22] fun w HS => ?_
   have HS := (station_Station.close tv (HS.b [2, 2, 2, 2, 2, 2, 0, 1, 1, 1])).ke [0, 1, 1, 1]
   exact At.mt (_, _) ⟨HS, H⟩
  ·have hk37 : a2 = 1 := by omega
   apply V.da [13, 14] [] [(8, _), (9, _), (10, _), (11, _), (12, _), (13, _), (14, _), (15, _), (16, _), (17, _), (18, _), (19, _), (20, _)] mo HS
   rfl
   refine T.e [15, 20] [] [7, 8, 9, 10, 11, 12] (fun w HS => ?_) ⟨rd, rd, rd, rd, .n2 9 11 rfl rfl rfl (fun w HS => X.indexArK 1 hk37 underlying126 inf125 rfl rfl c31.1 c31.2), rds⟩
   have HS := HS.more 11 rfl (fun _ t => t) fsl.pers
   refine Y.kl H func227 (fun _ h => frame_Put.calls h HS.j1) ?_
   rintro _ _ w H ⟨_, _, rfl, HS⟩
   have HS := HS.o1
   refine T.nw HS ?_
   refine T.e [14, 21] [] [0, 1, 2, 3, 4, 5, 6] (fun w HS => ?_) ⟨rd, rd, rd, rd, .n2 9 11 rfl rfl rfl (fun w HS => X.indexArK 1 hk37 underlying126 inf125 rfl rfl c31.1 c31.2), rds⟩
   have HS := HS.b [10]
   refine Y.kl H func226 (fun _ h => ring_Ring_Add.calls h HS.j1 (rdC.part 0 row_rd rfl)) ?_
   rintro _ _ w H ⟨rfl, HS⟩
   have HS := HS.o1
   refine T.nw HS ?_
   refine T.ff [1, 2, 3, 22] fun w HS => ?_
   have HS := (station_Station.close tv (HS.b [2, 2, 2, 2, 2, 2, 2, 2, 2])).ke [0, 1, 1, 1]
   exact At.mt (_, _) ⟨HS, H⟩
 ·rintro ⟨x4, x5⟩ w ⟨HS, H⟩
  refine V.cv H rfl (fun _ H => ?_) (fun _ H => ?_)
  ·obtain ⟨c8, H⟩ := ite_n H
   have HS := HS.fr 1
   obtain ⟨_, _, _, _, _, _, _, HS⟩ := V80.open HS
   refine ite_c H (fun c11 H => ?_) (fun _ H => ?_)
   ·apply V.da [8, 9, 10, 13] [12] [(23, _), (24, _), (25, _), (26, _), (27, _), (28, _), (29, _), (30, _), (34, _)] mo HS
    rfl
    refine T.e [30] [12] [7] (fun w HS => ?_) ⟨rd, rd, rd, rd, rd, .n2 26 27 rfl rfl rfl (fun w HS => X.indexArK 0 c11 underlying80 inf53 rfl rfl c8.1 c8.2), rds⟩
    refine Y.kl H func189 (fun _ h => slices_Clone_Sbytebyte.calls h HS.j0 (rdC.part 6 fsl.rd rfl)) ?_
    rintro t12 _ w H ⟨at12_0, ct12_0, rfl, HS⟩
    have HS := HS.o1
    refine T.nw HS ?_
    refine T.e [31] [12] [] (fun w HS => ?_) ⟨rd, rd, rd, rd, rd, .n2 26 27 rfl rfl rfl (fun w HS => X.indexArK 0 c11 underlying80 inf53 rfl rfl c8.1 c8.2), rds⟩
    have HS := St.row_freeze HS
    refine ⟨_, Y.lc (e := 27) (sz := 1) [vs at12_0 t12.length ct12_0] HS rfl rfl (fun _ => by kernel_rfl), ?_⟩
    rintro _ w ⟨_, rfl, HS⟩
    have HS := St.tie_cons (((St.sl_close (E := (El.int .u8)) (St.swap (St.put (A := tie (El.int .u8) (t12.map (Value.int .u8)) t12) (fun _ => int_tie) ((St.put (A := tie (El.sl (El.int .u8)) ([]) (([] : List (List Int)))) (fun _ => tie.nil) HS).more 2 rfl (fun _ t => t) fsl.pers)))).fr 1).fr 1)
    refine T.nw HS ?_
    refine T.e [29, 32] [] [2, 3, 4, 5, 6] (fun w HS => ?_) ⟨rd, rd, rd, rd, rd, .n2 26 27 rfl rfl rfl (fun w HS => X.indexArK 0 c11 underlying80 inf53 rfl rfl c8.1 c8.2), rds⟩
    obtain ⟨_, H⟩ := ite_n H
    refine ⟨_, Y.app (xs := a1.1) (ys := ([t12] : List (List Int))) 4 underlying53 ap27 rfl (by decide) HS rfl rfl rfl (rdC.at 1 row_rd HS rfl) (St.tie_one 0 HS rfl) (by omega) (by omega), ?_⟩
    rintro _ w ⟨_, _, rfl, HS⟩
    have HS := St.tie_app 1 (HS.fr 5) rfl
    apply T.na [(33, _), (35, _)] HS
    exact nmk
    refine T.e [33, 35] [] [0, 1, 11, 12] (fun w HS => ?_) ⟨rd, rd, rd, .n2 24 34 rfl rfl rfl (fun w HS => X.indexArK 0 c11 underlying80 inf53 rfl rfl c8.1 c8.2), rds⟩
    refine Y.sr 0 HS rfl rfl rfl fun _ w HS => ?_
    refine T.nn HS ?_
    refine T.ff [] fun w HS => ?_
    have HS := (V80.close tv (HS.b [4, 4, 0, 3, 3])).ke [4, 0, 4]
    exact rt
   ·have hk20 : a2 = 1 := by omega
    apply V.da [8, 9, 10, 13] [12] [(23, _), (24, _), (25, _), (26, _), (27, _), (28, _), (29, _), (30, _), (34, _)] mo HS
    rfl
    refine T.e [30] [12] [7] (fun w HS => ?_) ⟨rd, rd, rd, rd, rd, .n2 26 27 rfl rfl rfl (fun w HS => X.indexArK 1 hk20 underlying80 inf53 rfl rfl c8.1 c8.2), rds⟩
    refine Y.kl H func189 (fun _ h => slices_Clone_Sbytebyte.calls h HS.j0 (rdC.part 6 fsl.rd rfl)) ?_
    rintro t21 _ w H ⟨at21_0, ct21_0, rfl, HS⟩
    have HS := HS.o1
    refine T.nw HS ?_
    refine T.e [31] [12] [] (fun w HS => ?_) ⟨rd, rd, rd, rd, rd, .n2 26 27 rfl rfl rfl (fun w HS => X.indexArK 1 hk20 underlying80 inf53 rfl rfl c8.1 c8.2), rds⟩
    have HS := St.row_freeze HS
    refine ⟨_, Y.lc (e := 27) (sz := 1) [vs at21_0 t21.length ct21_0] HS rfl rfl (fun _ => by kernel_rfl), ?_⟩
    rintro _ w ⟨_, rfl, HS⟩
    have HS := St.tie_cons (((St.sl_close (E := (El.int .u8)) (St.swap (St.put (A := tie (El.int .u8) (t21.map (Value.int .u8)) t21) (fun _ => int_tie) ((St.put (A := tie (El.sl (El.int .u8)) ([]) (([] : List (List Int)))) (fun _ => tie.nil) HS).more 2 rfl (fun _ t => t) fsl.pers)))).fr 1).fr 1)
    refine T.nw HS ?_
    refine T.e [29, 32] [] [2, 3, 4, 5, 6] (fun w HS => ?_) ⟨rd, rd, rd, rd, rd, .n2 26 27 rfl rfl rfl (fun w HS => X.indexArK 1 hk20 underlying80 inf53 rfl rfl c8.1 c8.2), rds⟩
    obtain ⟨_, H⟩ := ite_n H
    refine ⟨_, Y.app (xs := a1.2) (ys := ([t21] : List (List Int))) 6 underlying53 ap27 rfl (by decide) HS rfl rfl rfl (rdC.at 1 row_rd HS rfl) (St.tie_one 0 HS rfl) (by omega) (by omega), ?_⟩
    rintro _ w ⟨_, _, rfl, HS⟩
    have HS := St.tie_app 1 (HS.fr 7) rfl
    apply T.na [(33, _), (35, _)] HS
    exact nmk
    refine T.e [33, 35] [] [0, 1, 11, 12] (fun w HS => ?_) ⟨rd, rd, rd, .n2 24 34 rfl rfl rfl (fun w HS => X.indexArK 1 hk20 underlying80 inf53 rfl rfl c8.1 c8.2), rds⟩
    refine Y.sr 1 HS rfl rfl rfl fun _ w HS => ?_
    refine T.nn HS ?_
    refine T.ff [] fun w HS => ?_
    have HS := (V80.close tv (HS.b [4, 4, 4, 4])).ke [4, 0, 4]
    exact rt
  ·refine go ?_
   have HS := HS.ke [0, 0, 1]
   exact rt
def aps_Aps_Request.f (a0 : aps_Aps) : Option Int := some a0.own
theorem aps_Aps_Request.calls {a0 : aps_Aps} {R : As} {w0 w : World} {b0 : Nat} {r : Int} (H : aps_Aps_Request.f a0 = some r) (HS : Sep.St [blk b0 (#[vi a0.hold, vi a0.wait, vb a0.revert, vi a0.command, vi a0.remote, vi a0.own, vi a0.bad, vi a0.left, vi a0.line]) 158, R] w0 w)  : Calls Tryz.prog 184 #[pt b0] w (Ret fun u w => u = vi r ∧ Sep.St [blk b0 (#[vi a0.hold, vi a0.wait, vb a0.revert, vi a0.command, vi a0.remote, vi a0.own, vi a0.bad, vi a0.left, vi a0.line]) 158, R] w0 w) := by
 refine calls_enter func184 rfl rfl ?_
 refine go ?_
 exact rt
mutual
def kcode_Put.j0  (x3 : Int) : Option (List Int) := some ([x3, icom .u8 x3] : List Int)
end
def kcode_Put.f (a0 : Int) (a1 : Int) : Option (List Int) := ((request_Of.f a0).bind fun t1 => (if a1 = 1 then (kcode_Put.j0 (IntKind.u8.wrap ((IntKind.u8.wrap (w64 (t1 * 16))) + 1))) else (kcode_Put.j0 (IntKind.u8.wrap (w64 (t1 * 16))))))
theorem kcode_Put.calls {a0 : Int} {a1 : Int} {R : As} {w0 w : World}  {r : List Int} (H : kcode_Put.f a0 a1 = some r) (HS : Sep.St [R] w0 w)  : Calls Tryz.prog 183 #[vi a0, vi a1] w (Ret fun u w => ∃ (aq0 : Option Addr) (cq0 : Nat), u = vs aq0 r.length cq0 ∧ Sep.St [row 5 1 (.slice aq0 r.length cq0) r.length (r.map (Value.int .u8)), R] w0 w) := by
 refine calls_enter func183 rfl rfl ?_
 refine go ?_
 refine W.kl H func228 (fun _ h => request_Of.calls h HS.j0) ?_
 rintro _ _ w H ⟨rfl, HS⟩
 have HS := HS.o0
 refine gs ?_
 refine V.meet (σ := Int) (fun x3 w => Sep.St [R] w0 w ∧ kcode_Put.j0 x3 = some r) (fun x3 => [(5, Value.int .u8 x3)]) ?_ ?_
 ·refine go ?_
  refine V.cd H rfl (fun _ H => ?_) (fun _ H => ?_)
  ·refine go ?_
   exact At.mt _ ⟨HS, H⟩
  ·refine go ?_
   exact At.mt _ ⟨HS, H⟩
 ·rintro x3 w ⟨HS, H⟩
  refine go ?_
  refine W.r (X.com rfl) rfl ?_
  refine W.e (Y.ls (e := 5) (Value.int .u8) ([x3, icom .u8 x3] : List Int) HS rfl rfl (fun _ => by kernel_rfl)) rfl ?_
  rintro _ w ⟨_, rfl, HS⟩
  refine go ?_
  exact rt
mutual
def station_Station_Step.l1 : Nat → (Int × aps_Aps) → (List (List Int) × arq_Arq) → Int → station_Station → (List (List Int) × List (List Int)) → Option ((List (List Int) × List (List Int)) × station_Station)
 | 0, _, _, _, _, _ => none
 | k + 1, t21, t38, x42, x43, x44 => (if x42 < (t38.1.length : Int) then (if 0 ≤ x42 ∧ x42 < (t38.1.length : Int) then ((station_Station_piece.f k x43 (t38.1.getD x42.toNat [])).bind fun t57 => ((station_Station_twice.f t57.2).bind fun t96 => (if t96 = true then (station_Station_Step.j2 k t21 x42 x44 t57 (station_Station_Step.l1 k t21 t38) true) else (station_Station_Step.j2 k t21 x42 x44 t57 (station_Station_Step.l1 k t21 t38) (decide (0 = t21.1)))))) else none) else (if ¬ (x43.c.Keep = 0) then (if ((w64 (x43.steps + 1)).tmod x43.c.Keep) = 0 then ((aps_Aps_Request.f x43.aps).bind fun t108 => ((kcode_Put.f t108 t21.1).bind fun t110 => (if (([1] : List Int).length : Int) + t110.length ≤ 1099511627776 then ((station_Station_put.f k ({ x43 with steps := w64 (x43.steps + 1) } : station_Station) x44 0 (([1] : List Int) ++ t110)).bind fun t126 => ((station_Station_put.f k t126.1 t126.2 1 (([1] : List Int) ++ t110)).bind fun t129 => some (t129.2, t129.1))) else none))) else some (x44, ({ x43 with steps := w64 (x43.steps + 1) } : station_Station))) else none))
def station_Station_Step.j3 (k : Nat) (x42 : Int) (t57 : List Int × station_Station) (t66 : station_Station × (List (List Int) × List (List Int))) (Lq71 : Int → station_Station → (List (List Int) × List (List Int)) → Option ((List (List Int) × List (List Int)) × station_Station)) (x69 : Bool) : Option ((List (List Int) × List (List Int)) × station_Station) := (if x69 = true then ((station_Station_put.f k t66.1 t66.2 1 t57.1).bind fun t74 => (Lq71 (w64 (x42 + 1)) t74.1 t74.2)) else (Lq71 (w64 (x42 + 1)) t66.1 t66.2))
def station_Station_Step.j4 (k : Nat) (x42 : Int) (x44 : (List (List Int) × List (List Int))) (t57 : List Int × station_Station) (Lq83 : Int → station_Station → (List (List Int) × List (List Int)) → Option ((List (List Int) × List (List Int)) × station_Station)) (x81 : Bool) : Option ((List (List Int) × List (List Int)) × station_Station) := (if x81 = true then ((station_Station_put.f k t57.2 x44 1 t57.1).bind fun t86 => (Lq83 (w64 (x42 + 1)) t86.1 t86.2)) else (Lq83 (w64 (x42 + 1)) t57.2 x44))
def station_Station_Step.j2 (k : Nat) (t21 : Int × aps_Aps) (x42 : Int) (x44 : (List (List Int) × List (List Int))) (t57 : List Int × station_Station) (Lq63 : Int → station_Station → (List (List Int) × List (List Int)) → Option ((List (List Int) × List (List Int)) × station_Station)) (x61 : Bool) : Option ((List (List Int) × List (List Int)) × station_Station) := (if x61 = true then ((station_Station_put.f k t57.2 x44 0 t57.1).bind fun t66 => ((station_Station_twice.f t66.1).bind fun t78 => (if t78 = true then (station_Station_Step.j3 k x42 t57 t66 Lq63 true) else (station_Station_Step.j3 k x42 t57 t66 Lq63 (decide (1 = t21.1)))))) else ((station_Station_twice.f t57.2).bind fun t91 => (if t91 = true then (station_Station_Step.j4 k x42 x44 t57 Lq63 true) else (station_Station_Step.j4 k x42 x44 t57 Lq63 (decide (1 = t21.1))))))
def station_Station_Step.j0 (k : Nat) (t21 : Int × aps_Aps) (x23 : station_Station) : Option ((List (List Int) × List (List Int)) × station_Station) := ((arq_Arq_Pass.f k x23.arq 1).bind fun t27 => ((arq_Arq_Output.f t27).bind fun t38 => (station_Station_Step.l1 k t21 t38 0 ({ x23 with arq := t38.2, line := t21.1 } : station_Station) (([] : List (List Int)), ([] : List (List Int))))))
def station_Station_Step.j5 (k : Nat) (a0 : station_Station) (t8 : Int × monitor_Monitor) (t19 : Int × monitor_Monitor) (t21 : Int × aps_Aps) (x141 : Bool) : Option ((List (List Int) × List (List Int)) × station_Station) := (if x141 = true then ((arq_Arq_Again.f k ((({ a0 with aps := t21.2, sides := (({ a0.sides.1 with monitor := t8.2 } : station_side), ({ a0.sides.2 with monitor := t19.2 } : station_side)) } : station_Station)).arq)).bind fun t146 => (station_Station_Step.j0 k t21 ({ (({ a0 with aps := t21.2, sides := (({ a0.sides.1 with monitor := t8.2 } : station_side), ({ a0.sides.2 with monitor := t19.2 } : station_side)) } : station_Station)) with arq := t146 } : station_Station))) else (station_Station_Step.j0 k t21 ({ a0 with aps := t21.2, sides := (({ a0.sides.1 with monitor := t8.2 } : station_side), ({ a0.sides.2 with monitor := t19.2 } : station_side)) } : station_Station)))
end
def station_Station_Step.f (k : Nat) (a0 : station_Station) : Option ((List (List Int) × List (List Int)) × station_Station) := ((monitor_Monitor_Pass.f a0.sides.1.monitor 1).bind fun t8 => ((monitor_Monitor_Pass.f a0.sides.2.monitor 1).bind fun t19 => ((aps_Aps_Pass.f a0.aps t8.1 t19.1).bind fun t21 => ((station_Station_twice.f ({ a0 with aps := t21.2, sides := (({ a0.sides.1 with monitor := t8.2 } : station_side), ({ a0.sides.2 with monitor := t19.2 } : station_side)) } : station_Station)).bind fun t148 => (if t148 = true then (station_Station_Step.j5 k a0 t8 t19 t21 false) else (station_Station_Step.j5 k a0 t8 t19 t21 (!(decide (t21.1 = a0.line)))))))))
theorem station_Station_Step.calls {k : Nat} {a0 : station_Station} {R : As} {w0 w : World} {b0 : Nat} {r : (List (List Int) × List (List Int)) × station_Station} (H : station_Station_Step.f k a0 = some r) (HS : Sep.St [station_Station.at b0 a0, R] w0 w)  : Calls Tryz.prog 133 #[pt b0] w (Ret fun u w => ∃ (aq0_0 : Option Addr) (cq0_0 : Nat) (dq0_0 : List Value) (aq0_1 : Option Addr) (cq0_1 : Nat) (dq0_1 : List Value), u = Value.agg #[vs aq0_0 r.1.1.length cq0_0, vs aq0_1 r.1.2.length cq0_1] ∧ Sep.St [row 27 1 (.slice aq0_0 r.1.1.length cq0_0) r.1.1.length dq0_0, tie (El.sl (El.int .u8)) dq0_0 r.1.1, row 27 1 (.slice aq0_1 r.1.2.length cq0_1) r.1.2.length dq0_1, tie (El.sl (El.int .u8)) dq0_1 r.1.2, station_Station.at b0 r.2, R] w0 w) := by
 refine calls_enter func133 rfl rfl ?_
 refine go ?_
 refine W.e (Y.alloc (z := Value.agg (#[vs none 0 0, vs none 0 0])) HS ze80) rfl ?_
 rintro _ w ⟨nb1, rfl, HS⟩
 refine go ?_
 refine W.e (Y.alloc (z := Value.agg (#[vs none 0 0, vs none 0 0])) HS ze80) rfl ?_
 rintro _ w ⟨nb2, rfl, HS⟩
 refine go ?_
 have HS := HS.fr 2
 obtain ⟨_, _, _, _, _, _, _, _, _, _, HS⟩ := station_Station.open HS
 refine go ?_
 have HS := HS.b [5]
 refine W.kl H func176 (fun _ h => monitor_Monitor_Pass.calls h HS.j1) ?_
 rintro t8 _ w H ⟨rfl, HS⟩
 have HS := HS.o1
 refine go ?_
 apply V.da [11, 12] [13] [(19, _), (20, _), (21, _), (22, _), (23, _), (24, _), (25, _), (26, _), (27, _), (28, _), (29, _)] mo HS
 rfl
 refine T.e [29] [13] [5, 6, 7, 8, 9, 10] fun w HS => ?_
 have HS := HS.b [8]
 refine Y.kl H func176 (fun _ h => monitor_Monitor_Pass.calls h HS.j1) ?_
 rintro t19 _ w H ⟨rfl, HS⟩
 have HS := HS.o1
 refine T.nw HS ?_
 refine T.e [22, 23, 30] [] [0, 1, 2, 3, 4] fun w HS => ?_
 have HS := HS.b [4]
 refine Y.kl H func177 (fun _ h => aps_Aps_Pass.calls h HS.j1) ?_
 rintro t21 _ w H ⟨rfl, HS⟩
 have HS := HS.o1
 apply T.na [(31, _), (5, _)] HS
 exact nmk
 refine T.ff [0, 2, 3, 5] fun w HS => ?_
 refine gs ?_
 refine V.meet (σ := station_Station) (fun x23 w => Sep.St [V80.at nb1 ((([] : List (List Int)), ([] : List (List Int)))), V80.at nb2 ((([] : List (List Int)), ([] : List (List Int)))), station_Station.at b0 x23, R] w0 w ∧ ∃ kf24, kf24 ≤ k ∧ station_Station_Step.j0 kf24 t21 x23 = some r) (fun x23 => [(0, pt b0), (2, pt nb1), (3, pt nb2), (5, vi t21.1)]) ?_ ?_
 ·refine V.meet (σ := Bool) (fun x141 w => Sep.St [V80.at nb1 ((([] : List (List Int)), ([] : List (List Int)))), V80.at nb2 ((([] : List (List Int)), ([] : List (List Int)))), station_Station.at b0 (({ a0 with aps := t21.2, sides := (({ a0.sides.1 with monitor := t8.2 } : station_side), ({ a0.sides.2 with monitor := t19.2 } : station_side)) } : station_Station)), R] w0 w ∧ ∃ kf142, kf142 ≤ k ∧ station_Station_Step.j5 kf142 a0 t8 t19 t21 x141 = some r) (fun x141 => [(0, pt b0), (2, pt nb1), (3, pt nb2), (5, vi t21.1), (42, vb x141)]) ?_ ?_
  ·refine go ?_
   have HS := HS.b [3, 3, 0, 2, 2, 1, 1, 1]
   refine W.kl H func48 (fun _ h => station_Station_twice.calls h HS.j10) ?_
   rintro _ _ w H ⟨rfl, HS⟩
   have HS := HS.o10
   refine go ?_
   refine W.cx 35 H rfl (fun _ H => ?_) (fun _ H => ?_)
   ·refine go ?_
    have HS := (station_Station.close tv ((V80.close (l0 := ([] : List (List Int))) (l1 := ([] : List (List Int))) tv ((row_nilE (El.sl (El.int .u8)) 27 1 (row_nilE (El.sl (El.int .u8)) 27 1 (V80.close (l0 := ([] : List (List Int))) (l1 := ([] : List (List Int))) tv ((row_nilE (El.sl (El.int .u8)) 27 1 (row_nilE (El.sl (El.int .u8)) 27 1 HS)).b [15, 2, 2])))).b [15, 2, 2])).b [2, 2, 2, 2, 2, 2, 2, 2, 2, 2])).b [2, 1]
    exact At.mt _ ⟨HS, k, by omega, H⟩
   ·refine go ?_
    have HS := (station_Station.close tv ((V80.close (l0 := ([] : List (List Int))) (l1 := ([] : List (List Int))) tv ((row_nilE (El.sl (El.int .u8)) 27 1 (row_nilE (El.sl (El.int .u8)) 27 1 (V80.close (l0 := ([] : List (List Int))) (l1 := ([] : List (List Int))) tv ((row_nilE (El.sl (El.int .u8)) 27 1 (row_nilE (El.sl (El.int .u8)) 27 1 HS)).b [15, 2, 2])))).b [15, 2, 2])).b [2, 2, 2, 2, 2, 2, 2, 2, 2, 2])).b [2, 1]
    exact At.mt _ ⟨HS, k, by omega, H⟩
  ·rintro x141 w ⟨HS, kf142, _, H⟩
   refine V.cv H rfl (fun _ H => ?_) (fun _ H => ?_)
   ·refine go ?_
    have HS := HS.fr 2
    obtain ⟨_, _, _, _, _, _, _, _, _, _, HS⟩ := station_Station.open HS
    refine go ?_
    have HS := HS.b [1]
    refine W.kl H func178 (fun _ h => arq_Arq_Again.calls h HS.j1) ?_
    rintro _ _ w H ⟨rfl, HS⟩
    have HS := HS.o1
    refine go ?_
    have HS := (station_Station.close tv (HS.b [1])).b [1, 1]
    exact At.mt _ ⟨HS, kf142, by omega, H⟩
   ·refine go ?_
    exact At.mt _ ⟨HS, kf142, by omega, H⟩
 ·rintro x23 w ⟨HS, kf24, _, H⟩
  refine go ?_
  have HS := HS.fr 2
  obtain ⟨_, _, _, _, _, _, _, _, _, _, HS⟩ := station_Station.open HS
  refine go ?_
  refine W.sr 21 HS rfl rfl rfl fun w HS => ?_
  refine go ?_
  have HS := HS.b [1]
  refine W.kl H func179 (fun _ h => arq_Arq_Pass.calls h HS.j1) ?_
  rintro _ _ w H ⟨rfl, HS⟩
  have HS := HS.o1
  refine go ?_
  refine W.kl H func180 (fun _ h => arq_Arq_Output.calls h HS.j1) ?_
  rintro t38 _ w H ⟨at38_0, ct38_0, dt38_0, rfl, HS⟩
  have HS := HS.o3
  refine go ?_
  have HS := station_Station.close tv (HS.b [3, 2, 2, 2, 2, 2, 2, 2, 2, 2])
  refine V.lp (σ := Int × station_Station × (List (List Int) × List (List Int))) (fun kq (x42, x43, x44) w => Sep.St [station_Station.at b0 x43, row 27 1 (.slice at38_0 t38.1.length ct38_0) t38.1.length dt38_0, tie (El.sl (El.int .u8)) dt38_0 t38.1, V80.at nb1 ((([] : List (List Int)), ([] : List (List Int)))), V80.at nb2 x44, R] w0 w ∧ station_Station_Step.l1 kq t21 t38 x42 x43 x44 = some r ∧ kq ≤ kf24) (fun (x42, x43, x44) => [(0, pt b0), (2, pt nb1), (3, pt nb2), (5, vi t21.1), (61, vs at38_0 t38.1.length ct38_0), (62, vi (t38.1.length : Int)), (63, vi x42)]) (_, _, _) ⟨HS, H, Nat.le_refl _⟩ ?_
  rintro kq45 ⟨x42, x43, x44⟩ w ⟨HS, H, _⟩
  cases kq45 with
  | zero => exact absurd H (by simp [station_Station_Step.l1])
  | succ kq45 =>
   simp only [station_Station_Step.l1] at H
   refine go ?_
   refine V.cd H rfl (fun _ H => ?_) (fun _ H => ?_)
   ·refine go ?_
    obtain ⟨c48, H⟩ := ite_n H
    obtain ⟨eb49, eo50, hh⟩ := (rdC.at 1 row_rd HS rfl).some (by decide) c48.1 c48.2; subst hh
    refine go ?_
    obtain ⟨_, hc52, HS⟩ := St.tie_at 2 HS rfl ([]) c48.1 c48.2
    obtain ⟨ea53, em54, he56, HN⟩ := St.sl_openF (Value.int .u8) (fun t => tie_int t) HS; clear HS; subst he56; have HS := HN
    refine W.r (X.load underlying27 rfl rfl ((rdC.at 2 row_rd HS rfl).cellEl0 (hc52 0 _ rfl))) rfl ?_
    refine go ?_
    have HS := (HS.more 0 rfl (fun _ t => t) fsl.pers).b [2]
    refine W.kl H func181 (fun _ h => station_Station_piece.calls h HS.j2) ?_
    rintro t57 _ w H ⟨at57_0, ct57_0, rfl, HS⟩
    have HS := HS.o2
    refine go ?_
    refine V.rs 2 [(0, pt b0), (2, pt nb1), (3, pt nb2), (5, vi t21.1), (8, vs at57_0 t57.1.length ct57_0), (61, vs (some ⟨eb49, eo50, none⟩) t38.1.length ct38_0), (62, vi (t38.1.length : Int)), (63, vi x42), (70, vi (0))] ?_
    refine V.seq ?_
    refine gs ?_
    refine V.seq ?_
    refine gs ?_
    refine V.seq ?_
    refine gs ?_
    refine V.seq ?_
    refine gs ?_
    refine V.meet (σ := Bool) (fun x61 w => Sep.St [row 5 1 (.slice at57_0 t57.1.length ct57_0) t57.1.length (t57.1.map (Value.int .u8)), station_Station.at b0 t57.2, fsl 1 (.slice ea53 (t38.1.getD x42.toNat []).length em54) (t38.1.getD x42.toNat []).length ((t38.1.getD x42.toNat []).map (Value.int .u8)), row 27 1 (.slice (some ⟨eb49, eo50, none⟩) t38.1.length ct38_0) t38.1.length dt38_0, tie (El.sl (El.int .u8)) dt38_0 t38.1, V80.at nb1 ((([] : List (List Int)), ([] : List (List Int)))), V80.at nb2 x44, R] w0 w ∧ ∃ kf62 kl64, kf62 ≤ kq45 ∧ kl64 ≤ kq45 ∧ station_Station_Step.j2 kf62 t21 x42 x44 t57 (station_Station_Step.l1 kl64 t21 t38) x61 = some r) (fun x61 => [(0, pt b0), (2, pt nb1), (3, pt nb2), (5, vi t21.1), (8, vs at57_0 t57.1.length ct57_0), (9, vi (0)), (61, vs (some ⟨eb49, eo50, none⟩) t38.1.length ct38_0), (62, vi (t38.1.length : Int)), (63, vi x42), (70, vi (0)), (79, vb x61)]) ?_ ?_
    ·refine go ?_
     have HS := HS.fr 1
     obtain ⟨_, _, _, _, _, _, _, _, _, _, HS⟩ := station_Station.open HS
     refine W.kl H func48 (fun _ h => station_Station_twice.calls h HS.j10) ?_
     rintro _ _ w H ⟨rfl, HS⟩
     have HS := HS.o10
     refine go ?_
     refine W.cv 75 H rfl (fun _ H => ?_) (fun _ H => ?_)
     ·refine go ?_
      have HS := (station_Station.close tv HS).b [1]
      exact At.mt _ ⟨HS, kq45, kq45, by omega, by omega, H⟩
     ·refine go ?_
      have HS := (station_Station.close tv HS).b [1]
      exact At.mt _ ⟨HS, kq45, kq45, by omega, by omega, H⟩
    ·rintro x61 w ⟨HS, kf62, kl64, _, _, H⟩
     refine V.cv H rfl (fun _ H => ?_) (fun _ H => ?_)
     ·refine go ?_
      have HS := ((St.row_freeze HS).more 0 rfl (fun _ t => t) fsl.pers).b [2, 6]
      refine W.kl H func182 (fun _ h => station_Station_put.calls h HS.j3) ?_
      rintro t66 _ w H ⟨rfl, HS⟩
      have HS := HS.o2
      refine go ?_
      refine At.ow [(0, pt b0), (2, pt nb1), (3, pt nb2), (5, vi t21.1), (8, vs at57_0 t57.1.length ct57_0), (61, vs (some ⟨eb49, eo50, none⟩) t38.1.length ct38_0), (62, vi (t38.1.length : Int)), (63, vi x42), (70, vi (1))] ?_
      refine V.seq ?_
      refine gs ?_
      refine V.seq ?_
      refine gs ?_
      refine V.seq ?_
      refine gs ?_
      refine V.seq ?_
      refine gs ?_
      refine V.meet (σ := Bool) (fun x69 w => Sep.St [station_Station.at b0 t66.1, V80.at nb2 t66.2, fsl 1 (.slice at57_0 t57.1.length ct57_0) t57.1.length (t57.1.map (Value.int .u8)), fsl 1 (.slice ea53 (t38.1.getD x42.toNat []).length em54) (t38.1.getD x42.toNat []).length ((t38.1.getD x42.toNat []).map (Value.int .u8)), row 27 1 (.slice (some ⟨eb49, eo50, none⟩) t38.1.length ct38_0) t38.1.length dt38_0, tie (El.sl (El.int .u8)) dt38_0 t38.1, V80.at nb1 ((([] : List (List Int)), ([] : List (List Int)))), R] w0 w ∧ ∃ kf70 kl72, kf70 ≤ kf62 ∧ kl72 ≤ kl64 ∧ station_Station_Step.j3 kf70 x42 t57 t66 (station_Station_Step.l1 kl72 t21 t38) x69 = some r) (fun x69 => [(0, pt b0), (2, pt nb1), (3, pt nb2), (5, vi t21.1), (8, vs at57_0 t57.1.length ct57_0), (9, vi (1)), (61, vs (some ⟨eb49, eo50, none⟩) t38.1.length ct38_0), (62, vi (t38.1.length : Int)), (63, vi x42), (70, vi (1)), (79, vb x69)]) ?_ ?_
      ·refine go ?_
       obtain ⟨_, _, _, _, _, _, _, _, _, _, HS⟩ := station_Station.open HS
       refine W.kl H func48 (fun _ h => station_Station_twice.calls h HS.j10) ?_
       rintro _ _ w H ⟨rfl, HS⟩
       have HS := HS.o10
       refine go ?_
       refine W.cv 75 H rfl (fun _ H => ?_) (fun _ H => ?_)
       ·refine go ?_
        have HS := station_Station.close tv HS
        exact At.mt _ ⟨HS, kf62, kl64, by omega, by omega, H⟩
       ·refine go ?_
        have HS := station_Station.close tv HS
        exact At.mt _ ⟨HS, kf62, kl64, by omega, by omega, H⟩
      ·rintro x69 w ⟨HS, kf70, kl72, _, _, H⟩
       refine V.cv H rfl (fun _ H => ?_) (fun _ H => ?_)
       ·refine go ?_
        have HS := (HS.more 2 rfl (fun _ t => t) fsl.pers).b [1, 1]
        refine W.kl H func182 (fun _ h => station_Station_put.calls h HS.j3) ?_
        rintro _ _ w H ⟨rfl, HS⟩
        have HS := HS.o2
        refine go ?_
        refine At.ow [(0, pt b0), (2, pt nb1), (3, pt nb2), (5, vi t21.1), (8, vs at57_0 t57.1.length ct57_0), (61, vs (some ⟨eb49, eo50, none⟩) t38.1.length ct38_0), (62, vi (t38.1.length : Int)), (63, vi x42), (70, vi (2))] ?_
        refine go ?_
        have HS := HS.ke [0, 3, 3, 3, 0, 2]
        exact At.rn (_, _, _) ⟨HS, H, by omega⟩
       ·refine go ?_
        refine At.ow [(0, pt b0), (2, pt nb1), (3, pt nb2), (5, vi t21.1), (8, vs at57_0 t57.1.length ct57_0), (61, vs (some ⟨eb49, eo50, none⟩) t38.1.length ct38_0), (62, vi (t38.1.length : Int)), (63, vi x42), (70, vi (2))] ?_
        refine go ?_
        have HS := HS.ke [0, 3, 3, 3, 0, 2]
        exact At.rn (_, _, _) ⟨HS, H, by omega⟩
     ·refine go ?_
      refine At.ow [(0, pt b0), (2, pt nb1), (3, pt nb2), (5, vi t21.1), (8, vs at57_0 t57.1.length ct57_0), (61, vs (some ⟨eb49, eo50, none⟩) t38.1.length ct38_0), (62, vi (t38.1.length : Int)), (63, vi x42), (70, vi (1))] ?_
      refine V.seq ?_
      refine gs ?_
      refine V.seq ?_
      refine gs ?_
      refine V.seq ?_
      refine gs ?_
      refine V.seq ?_
      refine gs ?_
      refine V.meet (σ := Bool) (fun x81 w => Sep.St [row 5 1 (.slice at57_0 t57.1.length ct57_0) t57.1.length (t57.1.map (Value.int .u8)), station_Station.at b0 t57.2, fsl 1 (.slice ea53 (t38.1.getD x42.toNat []).length em54) (t38.1.getD x42.toNat []).length ((t38.1.getD x42.toNat []).map (Value.int .u8)), row 27 1 (.slice (some ⟨eb49, eo50, none⟩) t38.1.length ct38_0) t38.1.length dt38_0, tie (El.sl (El.int .u8)) dt38_0 t38.1, V80.at nb1 ((([] : List (List Int)), ([] : List (List Int)))), V80.at nb2 x44, R] w0 w ∧ ∃ kf82 kl84, kf82 ≤ kf62 ∧ kl84 ≤ kl64 ∧ station_Station_Step.j4 kf82 x42 x44 t57 (station_Station_Step.l1 kl84 t21 t38) x81 = some r) (fun x81 => [(0, pt b0), (2, pt nb1), (3, pt nb2), (5, vi t21.1), (8, vs at57_0 t57.1.length ct57_0), (9, vi (1)), (61, vs (some ⟨eb49, eo50, none⟩) t38.1.length ct38_0), (62, vi (t38.1.length : Int)), (63, vi x42), (70, vi (1)), (79, vb x81)]) ?_ ?_
      ·refine go ?_
       have HS := HS.fr 1
       obtain ⟨_, _, _, _, _, _, _, _, _, _, HS⟩ := station_Station.open HS
       refine W.kl H func48 (fun _ h => station_Station_twice.calls h HS.j10) ?_
       rintro _ _ w H ⟨rfl, HS⟩
       have HS := HS.o10
       refine go ?_
       refine W.cv 75 H rfl (fun _ H => ?_) (fun _ H => ?_)
       ·refine go ?_
        have HS := (station_Station.close tv HS).b [1]
        exact At.mt _ ⟨HS, kf62, kl64, by omega, by omega, H⟩
       ·refine go ?_
        have HS := (station_Station.close tv HS).b [1]
        exact At.mt _ ⟨HS, kf62, kl64, by omega, by omega, H⟩
      ·rintro x81 w ⟨HS, kf82, kl84, _, _, H⟩
       refine V.cv H rfl (fun _ H => ?_) (fun _ H => ?_)
       ·refine go ?_
        have HS := ((St.row_freeze HS).more 0 rfl (fun _ t => t) fsl.pers).b [2, 6]
        refine W.kl H func182 (fun _ h => station_Station_put.calls h HS.j3) ?_
        rintro _ _ w H ⟨rfl, HS⟩
        have HS := HS.o2
        refine go ?_
        refine At.ow [(0, pt b0), (2, pt nb1), (3, pt nb2), (5, vi t21.1), (8, vs at57_0 t57.1.length ct57_0), (61, vs (some ⟨eb49, eo50, none⟩) t38.1.length ct38_0), (62, vi (t38.1.length : Int)), (63, vi x42), (70, vi (2))] ?_
        refine go ?_
        have HS := HS.ke [0, 3, 3, 3, 0, 2]
        exact At.rn (_, _, _) ⟨HS, H, by omega⟩
       ·refine go ?_
        refine At.ow [(0, pt b0), (2, pt nb1), (3, pt nb2), (5, vi t21.1), (8, vs at57_0 t57.1.length ct57_0), (61, vs (some ⟨eb49, eo50, none⟩) t38.1.length ct38_0), (62, vi (t38.1.length : Int)), (63, vi x42), (70, vi (2))] ?_
        refine go ?_
        have HS := HS.ke [1, 2, 2, 2, 2, 2]
        exact At.rn (_, _, _) ⟨HS, H, by omega⟩
   ·refine go ?_
    obtain ⟨_, _, _, _, _, _, _, _, _, _, HS⟩ := station_Station.open HS
    refine go ?_
    refine W.sr 20 HS rfl rfl rfl fun w HS => ?_
    refine go ?_
    obtain ⟨c101, H⟩ := ite_n H
    apply V.da [] [] [(93, _), (94, _), (95, _), (96, _), (97, _), (98, _), (99, _), (100, _), (101, _), (102, _), (103, _)] mo HS
    rfl
    refine T.ff [0, 2, 3, 5, 103] (fun w HS => ?_) ⟨rd, rd, rd, rd, rd, rd, rd, rd, rd, .n2 96 101 rfl rfl rfl (fun w HS => X.rem rfl rfl c101), rds⟩
    refine go ?_
    refine V.cd H rfl (fun _ H => ?_) (fun _ H => ?_)
    ·refine go ?_
     refine W.e (Y.ls (e := 5) (Value.int .u8) ([1] : List Int) HS rfl rfl (fun _ => by kernel_rfl)) rfl ?_
     rintro _ w ⟨_, rfl, HS⟩
     refine go ?_
     have HS := HS.fr 3
     obtain ⟨_, HS⟩ := aps_Aps.open HS
     refine W.kl H func184 (fun _ h => aps_Aps_Request.calls h HS.j1) ?_
     rintro _ _ w H ⟨rfl, HS⟩
     have HS := HS.o1
     refine go ?_
     refine W.kl H func183 (fun _ h => kcode_Put.calls h HS.j0) ?_
     rintro t110 _ w H ⟨_, _, rfl, HS⟩
     have HS := HS.o1
     obtain ⟨_, H⟩ := ite_n H
     refine W.e (Y.appF (Value.int .u8) (fun _ => rfl) 2 underlying27 ap5 rfl HS rfl rfl rfl (rdC.at 0 row_rd HS rfl) (by omega) (by omega)) rfl ?_
     rintro _ w ⟨ra113, rc114, rfl, HS⟩
     refine go ?_
     refine V.rs 2 [(0, pt b0), (2, pt nb1), (3, pt nb2), (10, vs ra113 (([1] : List Int) ++ t110).length rc114), (113, vi (0))] ?_
     refine go ?_
     have HS := ((St.row_freeze ((station_Station.close tv ((aps_Aps.close tv (HS.b [1])).b [3, 3, 0, 2, 2, 2, 2, 2, 2, 2])).fr 2)).more 0 rfl (fun _ t => t) fsl.pers).b [2, 6]
     refine W.kl H func182 (fun _ h => station_Station_put.calls h HS.j3) ?_
     rintro _ _ w H ⟨rfl, HS⟩
     have HS := HS.o2
     refine go ?_
     refine At.ow [(0, pt b0), (2, pt nb1), (3, pt nb2), (10, vs ra113 (([1] : List Int) ++ t110).length rc114), (113, vi (1))] ?_
     refine go ?_
     have HS := (HS.more 2 rfl (fun _ t => t) fsl.pers).b [1, 1]
     refine W.kl H func182 (fun _ h => station_Station_put.calls h HS.j3) ?_
     rintro t129 _ w H ⟨rfl, HS⟩
     have HS := HS.o2
     refine go ?_
     refine At.ow [(0, pt b0), (2, pt nb1), (3, pt nb2), (10, vs ra113 (([1] : List Int) ++ t110).length rc114), (113, vi (2))] ?_
     refine go ?_
     have HS := HS.fr 1
     obtain ⟨a0_131, c0_131, d0_131, a1_131, c1_131, d1_131, _, HS⟩ := V80.open HS
     refine go ?_
     have HS := HS.fr 10
     obtain ⟨_, _, _, _, _, _, _, HS⟩ := V80.open HS
     refine W.en (Y.storeSt (c' := #[vs a0_131 t129.2.1.length c0_131, vs a1_131 t129.2.2.length c1_131]) 0 [vs a0_131 t129.2.1.length c0_131, vs a1_131 t129.2.2.length c1_131] HS rfl inf80 rfl rfl rfl rfl rfl rfl) rfl ?_
     rintro _ w HS
     refine go ?_
     have hv135 := run_loadSt (P := Tryz.prog) (p := 0) 0 [vs a0_131 t129.2.1.length c0_131, vs a1_131 t129.2.2.length c1_131] HS rfl underlying80 rfl inf80 rfl
     have HS := HS.ke [6, 6, 6, 6, 6, 10]
     cases H
     exact At.retv1 rfl ⟨_, rfl, hv135⟩ ⟨_, rfl, a0_131, c0_131, d0_131, a1_131, c1_131, d1_131, rfl, HS⟩
    ·refine go ?_
     have HS := HS.fr 13
     obtain ⟨a0_136, c0_136, d0_136, a1_136, c1_136, d1_136, _, HS⟩ := V80.open HS
     refine go ?_
     have HS := HS.fr 17
     obtain ⟨_, _, _, _, _, _, _, HS⟩ := V80.open HS
     refine W.en (Y.storeSt (c' := #[vs a0_136 x44.1.length c0_136, vs a1_136 x44.2.length c1_136]) 0 [vs a0_136 x44.1.length c0_136, vs a1_136 x44.2.length c1_136] HS rfl inf80 rfl rfl rfl rfl rfl rfl) rfl ?_
     rintro _ w HS
     refine go ?_
     have hv140 := run_loadSt (P := Tryz.prog) (p := 0) 0 [vs a0_136 x44.1.length c0_136, vs a1_136 x44.2.length c1_136] HS rfl underlying80 rfl inf80 rfl
     have HS := (station_Station.close tv (HS.b [10, 10, 10, 10, 10, 10, 10, 10, 10, 10])).ke [7, 7, 7, 7, 0, 8]
     cases H
     exact At.retv1 rfl ⟨_, rfl, hv140⟩ ⟨_, rfl, a0_136, c0_136, d0_136, a1_136, c1_136, d1_136, rfl, HS⟩
def pipe_Pipe_Cut.f (a0 : pipe_Pipe) : Option Bool := some a0.cut
theorem pipe_Pipe_Cut.calls {a0 : pipe_Pipe} {R : As} {w0 w : World} {b0 : Nat} {a1_p0 : Option Addr} {c1_p0 : Nat} {r : Bool} (H : pipe_Pipe_Cut.f a0 = some r) (HS : Sep.St [blk b0 (#[vi a0.room, vs a1_p0 a0.b.length c1_p0, vb a0.cut, vb a0.stall]) 187, row 5 1 (.slice a1_p0 a0.b.length c1_p0) a0.b.length (a0.b.map (Value.int .u8)), R] w0 w)  : Calls Tryz.prog 187 #[pt b0] w (Ret fun u w => u = vb r ∧ Sep.St [blk b0 (#[vi a0.room, vs a1_p0 a0.b.length c1_p0, vb a0.cut, vb a0.stall]) 187, row 5 1 (.slice a1_p0 a0.b.length c1_p0) a0.b.length (a0.b.map (Value.int .u8)), R] w0 w) := by
 refine calls_enter func187 rfl rfl ?_
 refine go ?_
 exact rt
def pipe_Pipe_Room.f (a0 : pipe_Pipe) : Option Int := some (w64 (a0.room - (a0.b.length : Int)))
theorem pipe_Pipe_Room.calls {a0 : pipe_Pipe} {R : As} {w0 w : World} {b0 : Nat} {a1_p0 : Option Addr} {c1_p0 : Nat} {r : Int} (H : pipe_Pipe_Room.f a0 = some r) (HS : Sep.St [blk b0 (#[vi a0.room, vs a1_p0 a0.b.length c1_p0, vb a0.cut, vb a0.stall]) 187, row 5 1 (.slice a1_p0 a0.b.length c1_p0) a0.b.length (a0.b.map (Value.int .u8)), R] w0 w)  : Calls Tryz.prog 143 #[pt b0] w (Ret fun u w => u = vi r ∧ Sep.St [blk b0 (#[vi a0.room, vs a1_p0 a0.b.length c1_p0, vb a0.cut, vb a0.stall]) 187, row 5 1 (.slice a1_p0 a0.b.length c1_p0) a0.b.length (a0.b.map (Value.int .u8)), R] w0 w) := by
 refine calls_enter func143 rfl rfl ?_
 refine go ?_
 apply V.da [] [] [(3, _), (4, _), (5, _), (6, _), (7, _), (8, _), (9, _), (10, _), (11, _), (12, _), (2, _)] mo HS
 rfl
 refine T.ff [2] fun w HS => ?_
 refine go ?_
 exact rt
def station_has.f (a0 : Int) : Option Bool := (if a0 ≥ 0 then some (decide (a0 < 2)) else some false)
theorem station_has.calls {a0 : Int} {R : As} {w0 w : World}  {r : Bool} (H : station_has.f a0 = some r) (HS : Sep.St [R] w0 w)  : Calls Tryz.prog 185 #[vi a0] w (Ret fun u w => u = vb r ∧ Sep.St [R] w0 w) := by
 refine calls_enter func185 rfl rfl ?_
 refine go ?_
 refine W.cd 5 H rfl (fun _ H => ?_) (fun _ H => ?_)
 ·refine go ?_
  exact rt
 ·refine go ?_
  exact rt
def slices_Delete_Sbytebyte.f (a0 : List Int) (a1 : Int) (a2 : Int) : Option (List Int) := (if 0 ≤ a1 ∧ a1 ≤ a2 ∧ a2 ≤ (a0.length : Int) then (if a1 = a2 then some a0 else (if 0 ≤ (0 : Int) ∧ (0 : Int) ≤ a1 ∧ a1 ≤ (a0.length : Int) then (if 0 ≤ a2 ∧ a2 ≤ (a0.length : Int) ∧ (a0.length : Int) ≤ (a0.length : Int) then some ((cut a0 (0 : Int) a1) ++ (cut a0 a2 (a0.length : Int))) else none) else none)) else none)
theorem slices_Delete_Sbytebyte.calls {a0 : List Int} {a1 : Int} {a2 : Int} {R : As} {w0 w : World} {sa0 : Option Addr} {sc0 : Nat} {r : List Int} (H : slices_Delete_Sbytebyte.f a0 a1 a2 = some r) (HS : Sep.St [row 5 1 (.slice sa0 a0.length sc0) a0.length (a0.map (Value.int .u8)), R] w0 w)  : Calls Tryz.prog 190 #[vs sa0 a0.length sc0, vi a1, vi a2] w (Ret fun u w => ∃ (aq0 : Option Addr) (cq0 : Nat), u = vs aq0 r.length cq0 ∧ Sep.St [row 5 1 (.slice aq0 r.length cq0) r.length (r.map (Value.int .u8)), R] w0 w) := by
 refine calls_enter func190 rfl rfl ?_
 refine go ?_
 obtain ⟨c1, H⟩ := ite_n H
 refine W.r (X.sl3 underlying27 inf5 rfl rfl rfl rfl c1 (Int.ofNat_le.2 (rdC.at 0 row_rd HS rfl).cap)) rfl ?_
 refine go ?_
 refine V.cd H rfl (fun _ H => ?_) (fun _ H => ?_)
 ·refine go ?_
  exact rt
 ·refine go ?_
  obtain ⟨c4, H⟩ := ite_n H
  obtain ⟨c5, H⟩ := ite_n H
  apply V.da [6] [7] [(20, _), (21, _), (22, _), (23, _), (24, _), (25, _)] mo HS
  rfl
  refine T.e [22, 25] [] [0, 1, 2, 3, 4, 5] (fun w HS => ?_) ⟨rd, rd, .n2 20 21 rfl rfl rfl (fun w HS => X.slH underlying27 inf5 rfl rfl c4 (rdC.at 0 row_rd HS rfl).cap), rd, rd, .n2 23 24 rfl rfl rfl (fun w HS => X.slL underlying27 inf5 rfl rfl c5), rds⟩
  have hlt6 : a1 < a2 := by omega
  have hd7 : 0 ≤ a1 ∧ a1 < a2 ∧ a2 ≤ (a0.length : Int) := by omega
  have hc8 : (a0.length : Int) ≤ (sc0 : Int) := Int.ofNat_le.2 (rdC.at 0 row_rd HS rfl).cap
  have hl9 : (((cut a0 (0 : Int) a1) ++ (cut a0 a2 (a0.length : Int))).length : Int) ≤ (a0.length : Int) := by rw [List.length_append, cut_len ⟨by omega, by omega, by omega⟩, cut_len ⟨by omega, by omega, by omega⟩]; omega
  refine ⟨_, Y.appDelF (Value.int .u8) (fun _ => rfl) 0 underlying27 ap5 HS rfl hd7 rfl rfl, ?_⟩
  rintro _ w ⟨rfl, HS⟩
  apply T.na [(26, _), (0, _)] HS
  exact nmk
  refine T.ff [0, 7] fun w HS => ?_
  refine go ?_
  refine W.r (X.slC underlying27 inf5 rfl rfl rfl ⟨by omega, hl9⟩ hc8) rfl ?_
  refine W.en (Y.clearTail (n0 := a0.length) 0 underlying27 ap5 rfl rfl HS rfl (Int.ofNat_le.1 hl9) (Int.ofNat_le.1 hc8) rfl) rfl ?_
  rintro _ w HS
  refine go ?_
  exact rt
mutual
def ring_Ring_passed.l0 : Nat → Int → ring_Ring → Option ring_Ring
 | 0, _, _ => none
 | k + 1, x2, x3 => (if x2 > 0 then (if x3.begun = 0 then (if 0 ≤ (0 : Int) ∧ (0 : Int) < (x3.pieces.length : Int) then (if 0 ≤ (1 : Int) ∧ (1 : Int) ≤ (x3.pieces.length : Int) ∧ (x3.pieces.length : Int) ≤ (x3.pieces.length : Int) then (ring_Ring_passed.l0 k (w64 (x2 - (imin x2 (x3.pieces.getD (0 : Int).toNat 0)))) ({ x3 with begun := w64 ((x3.pieces.getD (0 : Int).toNat 0) - (imin x2 (x3.pieces.getD (0 : Int).toNat 0))), pieces := cut x3.pieces (1 : Int) (x3.pieces.length : Int) } : ring_Ring)) else none) else none) else (ring_Ring_passed.l0 k (w64 (x2 - (imin x2 x3.begun))) ({ x3 with begun := w64 (x3.begun - (imin x2 x3.begun)) } : ring_Ring))) else some x3)
end
def ring_Ring_passed.f (k : Nat) (a0 : ring_Ring) (a1 : Int) : Option ring_Ring := (ring_Ring_passed.l0 k a1 a0)
theorem ring_Ring_passed.calls {k : Nat} {a0 : ring_Ring} {a1 : Int} {R : As} {w0 w : World} {b0 : Nat} {r : ring_Ring} (H : ring_Ring_passed.f k a0 a1 = some r) (HS : Sep.St [ring_Ring.at b0 a0, R] w0 w)  : Calls Tryz.prog 229 #[pt b0, vi a1] w (Ret fun u w => u = Value.tuple #[] ∧ Sep.St [ring_Ring.at b0 r, R] w0 w) := by
 refine calls_enter func229 rfl rfl ?_
 refine go ?_
 refine V.lp (σ := Int × ring_Ring) (fun kq (x2, x3) w => Sep.St [ring_Ring.at b0 x3, R] w0 w ∧ ring_Ring_passed.l0 kq x2 x3 = some r ∧ kq ≤ k) (fun (x2, x3) => [(0, pt b0), (1, vi x2)]) (_, _) ⟨HS, H, Nat.le_refl _⟩ ?_
 rintro kq4 ⟨x2, x3⟩ w ⟨HS, H, _⟩
 cases kq4 with
 | zero => exact absurd H (by simp [ring_Ring_passed.l0])
 | succ kq4 =>
  simp only [ring_Ring_passed.l0] at H
  refine go ?_
  refine V.cd H rfl (fun _ H => ?_) (fun _ H => ?_)
  ·refine go ?_
   obtain ⟨_, _, _, _, _, HS⟩ := ring_Ring.open HS
   refine go ?_
   refine V.cd H rfl (fun _ H => ?_) (fun _ H => ?_)
   ·refine go ?_
    obtain ⟨c10, H⟩ := ite_n H
    obtain ⟨_, _, hh⟩ := (rdC.at 2 row_rd HS rfl).some (by decide) c10.1 c10.2; subst hh
    refine go ?_
    refine W.r (X.load underlying3 rfl rfl ((rdC.at 2 row_rd HS rfl).cellI c10.1 c10.2)) rfl ?_
    refine go ?_
    refine W.sr 2 HS rfl rfl rfl fun w HS => ?_
    refine go ?_
    obtain ⟨c13, H⟩ := ite_n H
    refine W.r (X.slL underlying48 inf3 rfl rfl c13) rfl ?_
    refine go ?_
    refine W.sr 3 HS rfl rfl rfl fun w HS => ?_
    refine go ?_
    refine W.sr 2 HS rfl rfl rfl fun w HS => ?_
    refine go ?_
    have HS := ring_Ring.close tv ((St.row_subM (HS.fr 2) c13).b [1, 1])
    exact At.rn (_, _) ⟨HS, H, by omega⟩
   ·refine go ?_
    refine W.sr 2 HS rfl rfl rfl fun w HS => ?_
    refine go ?_
    have HS := ring_Ring.close tv HS
    exact At.rn (_, _) ⟨HS, H, by omega⟩
  ·refine go ?_
   exact rt
def ring_Ring_Take.f (k : Nat) (a0 : ring_Ring) (a1 : Int) : Option (List Int × ring_Ring) := (if 0 ≤ (0 : Int) ∧ (0 : Int) ≤ imax (0) (imin a1 (a0.b.length : Int)) ∧ imax (0) (imin a1 (a0.b.length : Int)) ≤ (a0.b.length : Int) then ((slices_Clone_Sbytebyte.f (cut a0.b (0 : Int) (imax (0) (imin a1 (a0.b.length : Int))))).bind fun t4 => ((slices_Delete_Sbytebyte.f a0.b 0 (imax (0) (imin a1 (a0.b.length : Int)))).bind fun t6 => ((ring_Ring_passed.f k ({ a0 with b := t6 } : ring_Ring) (imax (0) (imin a1 (a0.b.length : Int)))).bind fun t8 => some (t4, t8)))) else none)
theorem ring_Ring_Take.calls {k : Nat} {a0 : ring_Ring} {a1 : Int} {R : As} {w0 w : World} {b0 : Nat} {r : List Int × ring_Ring} (H : ring_Ring_Take.f k a0 a1 = some r) (HS : Sep.St [ring_Ring.at b0 a0, R] w0 w)  : Calls Tryz.prog 186 #[pt b0, vi a1] w (Ret fun u w => ∃ (aq0 : Option Addr) (cq0 : Nat), u = vs aq0 r.1.length cq0 ∧ Sep.St [row 5 1 (.slice aq0 r.1.length cq0) r.1.length (r.1.map (Value.int .u8)), ring_Ring.at b0 r.2, R] w0 w) := by
 refine calls_enter func186 rfl rfl ?_
 refine go ?_
 obtain ⟨_, _, _, _, _, HS⟩ := ring_Ring.open HS
 refine go ?_
 obtain ⟨c3, H⟩ := ite_n H
 refine W.r (X.slH underlying27 inf5 rfl rfl c3 (rdC.at 1 row_rd HS rfl).cap) rfl ?_
 refine W.kl H func189 (fun _ h => slices_Clone_Sbytebyte.calls h HS.j0 (rdC.part 1 (rdC.subM row_rd c3) rfl)) ?_
 rintro _ _ w H ⟨_, _, rfl, HS⟩
 have HS := HS.o1
 refine go ?_
 have HS := HS.b [2]
 refine W.kl H func190 (fun _ h => slices_Delete_Sbytebyte.calls h HS.j1) ?_
 rintro _ _ w H ⟨_, _, rfl, HS⟩
 have HS := HS.o1
 refine go ?_
 refine W.sr 1 HS rfl rfl rfl fun w HS => ?_
 refine go ?_
 have HS := ring_Ring.close tv (HS.b [2, 0, 1])
 refine W.kl H func229 (fun _ h => ring_Ring_passed.calls h HS.j1) ?_
 rintro _ _ w H ⟨rfl, HS⟩
 have HS := HS.o1
 refine go ?_
 have HS := HS.b [1]
 exact rt
def station_Station_Take.f (k : Nat) (a0 : station_Station) (a1 : Int) (a2 : Int) : Option (List Int × station_Station) := ((station_has.f a1).bind fun t2 => (if t2 = true then (if 0 ≤ a1 ∧ a1 < 2 then (if a1 = 0 then ((ring_Ring_Take.f k a0.sides.1.ring a2).bind fun t9 => some (t9.1, ({ a0 with sides := (({ a0.sides.1 with ring := t9.2 } : station_side), a0.sides.2) } : station_Station))) else ((ring_Ring_Take.f k a0.sides.2.ring a2).bind fun t12 => some (t12.1, ({ a0 with sides := (a0.sides.1, ({ a0.sides.2 with ring := t12.2 } : station_side)) } : station_Station)))) else none) else some (([] : List Int), a0)))
theorem station_Station_Take.calls {k : Nat} {a0 : station_Station} {a1 : Int} {a2 : Int} {R : As} {w0 w : World} {b0 : Nat} {r : List Int × station_Station} (H : station_Station_Take.f k a0 a1 a2 = some r) (HS : Sep.St [station_Station.at b0 a0, R] w0 w)  : Calls Tryz.prog 137 #[pt b0, vi a1, vi a2] w (Ret fun u w => ∃ (aq0 : Option Addr) (cq0 : Nat), u = vs aq0 r.1.length cq0 ∧ Sep.St [row 5 1 (.slice aq0 r.1.length cq0) r.1.length (r.1.map (Value.int .u8)), station_Station.at b0 r.2, R] w0 w) := by
 refine calls_enter func137 rfl rfl ?_
 refine go ?_
 refine W.kl H func185 (fun _ h => station_has.calls h HS.j0) ?_
 rintro _ _ w H ⟨rfl, HS⟩
 have HS := HS.o0
 refine go ?_
 refine V.cx H rfl (fun _ H => ?_) (fun _ H => ?_)
 ·refine go ?_
  obtain ⟨_, _, _, _, _, _, _, _, _, _, HS⟩ := station_Station.open HS
  refine go ?_
  obtain ⟨c7, H⟩ := ite_n H
  refine ite_c H (fun c8 H => ?_) (fun _ H => ?_)
  ·refine W.r (X.indexArK 0 c8 underlying126 inf125 rfl rfl c7.1 c7.2) rfl ?_
   refine go ?_
   have HS := HS.b [6]
   refine W.kl H func186 (fun _ h => ring_Ring_Take.calls h HS.j1) ?_
   rintro _ _ w H ⟨_, _, rfl, HS⟩
   have HS := HS.o2
   refine go ?_
   have HS := (station_Station.close tv (HS.b [2, 2, 2, 2, 2, 2, 1, 1, 1, 1])).b [1]
   exact rt
  ·have hk11 : a1 = 1 := by omega
   refine W.r (X.indexArK 1 hk11 underlying126 inf125 rfl rfl c7.1 c7.2) rfl ?_
   refine go ?_
   have HS := HS.b [9]
   refine W.kl H func186 (fun _ h => ring_Ring_Take.calls h HS.j1) ?_
   rintro _ _ w H ⟨_, _, rfl, HS⟩
   have HS := HS.o2
   refine go ?_
   have HS := (station_Station.close tv (HS.b [2, 2, 2, 2, 2, 2, 2, 2, 2, 1])).b [1]
   exact rt
 ·refine go ?_
  have HS := row_nilF (Value.int .u8) 5 1 HS
  exact rt
def pipe_Pipe_Put.f (a0 : pipe_Pipe) (a1 : List Int) : Option (Int × pipe_Pipe) := (if a0.cut = true then some ((a1.length : Int), a0) else ((pipe_Pipe_Room.f a0).bind fun t5 => (if 0 ≤ (0 : Int) ∧ (0 : Int) ≤ imin (a1.length : Int) t5 ∧ imin (a1.length : Int) t5 ≤ (a1.length : Int) then (if (a0.b.length : Int) + (cut a1 (0 : Int) (imin (a1.length : Int) t5)).length ≤ 1099511627776 then some (imin (a1.length : Int) t5, ({ a0 with b := a0.b ++ (cut a1 (0 : Int) (imin (a1.length : Int) t5)) } : pipe_Pipe)) else none) else none)))
theorem pipe_Pipe_Put.calls {a0 : pipe_Pipe} {a1 : List Int} {R : As} {w0 w : World} {b0 : Nat} {sa1 : Option Addr} {sc1 : Nat} {r : Int × pipe_Pipe} (H : pipe_Pipe_Put.f a0 a1 = some r) (HS : Sep.St [pipe_Pipe.at b0 a0, R] w0 w) (hr1 : rdC R 1 (.slice sa1 a1.length sc1) a1.length (a1.map (Value.int .u8))) : Calls Tryz.prog 136 #[pt b0, vs sa1 a1.length sc1] w (Ret fun u w => u = vi r.1 ∧ Sep.St [pipe_Pipe.at b0 r.2, R] w0 w) := by
 refine calls_enter func136 rfl rfl ?_
 refine go ?_
 obtain ⟨_, _, _, HS⟩ := pipe_Pipe.open HS
 refine go ?_
 refine V.cv H rfl (fun _ H => ?_) (fun _ H => ?_)
 ·refine go ?_
  have HS := pipe_Pipe.close tv HS
  exact rt
 ·refine go ?_
  refine W.kl H func143 (fun _ h => pipe_Pipe_Room.calls h HS.j2) ?_
  rintro _ _ w H ⟨rfl, HS⟩
  have HS := HS.o2
  refine go ?_
  obtain ⟨c7, H⟩ := ite_n H
  apply V.da [8, 11] [9, 10] [(17, _), (18, _), (19, _), (20, _), (21, _), (22, _), (23, _), (24, _)] mo HS
  rfl
  refine T.e [21, 24] [] [1, 2, 3, 4, 5, 6, 7] (fun w HS => ?_) ⟨rd, rd, rd, rd, rd, rd, rd, .n2 22 23 rfl rfl rfl (fun w HS => X.slH underlying27 inf5 rfl rfl c7 (rdC.at 2 hr1 HS rfl).cap), rds⟩
  obtain ⟨_, H⟩ := ite_n H
  refine ⟨_, Y.appF (Value.int .u8) (fun _ => rfl) 1 underlying27 ap5 rfl HS rfl rfl rfl (rdC.at 2 (rdC.subM hr1 c7) HS rfl) (by omega) (by omega), ?_⟩
  rintro _ w ⟨_, _, rfl, HS⟩
  apply T.na [(25, _), (26, _), (27, _)] HS
  exact nmk
  refine T.e [25, 27] [] [0, 9, 10] fun w HS => ?_
  refine Y.sr 1 HS rfl rfl rfl fun _ w HS => ?_
  refine T.nn HS ?_
  refine T.ff [5] fun w HS => ?_
  refine go ?_
  have HS := pipe_Pipe.close tv HS
  exact rt
def pipe_Pipe_gone.f (a0 : pipe_Pipe) (a1 : Int) : Option (List Int × pipe_Pipe) := (if 0 ≤ (0 : Int) ∧ (0 : Int) ≤ imax (0) (imin a1 (a0.b.length : Int)) ∧ imax (0) (imin a1 (a0.b.length : Int)) ≤ (a0.b.length : Int) then ((slices_Clone_Sbytebyte.f (cut a0.b (0 : Int) (imax (0) (imin a1 (a0.b.length : Int))))).bind fun t4 => ((slices_Delete_Sbytebyte.f a0.b 0 (imax (0) (imin a1 (a0.b.length : Int)))).bind fun t6 => some (t4, ({ a0 with b := t6 } : pipe_Pipe)))) else none)
theorem pipe_Pipe_gone.calls {a0 : pipe_Pipe} {a1 : Int} {R : As} {w0 w : World} {b0 : Nat} {r : List Int × pipe_Pipe} (H : pipe_Pipe_gone.f a0 a1 = some r) (HS : Sep.St [pipe_Pipe.at b0 a0, R] w0 w)  : Calls Tryz.prog 142 #[pt b0, vi a1] w (Ret fun u w => ∃ (aq0 : Option Addr) (cq0 : Nat), u = vs aq0 r.1.length cq0 ∧ Sep.St [row 5 1 (.slice aq0 r.1.length cq0) r.1.length (r.1.map (Value.int .u8)), pipe_Pipe.at b0 r.2, R] w0 w) := by
 refine calls_enter func142 rfl rfl ?_
 refine go ?_
 obtain ⟨_, _, _, HS⟩ := pipe_Pipe.open HS
 refine go ?_
 obtain ⟨c3, H⟩ := ite_n H
 refine W.r (X.slH underlying27 inf5 rfl rfl c3 (rdC.at 1 row_rd HS rfl).cap) rfl ?_
 refine W.kl H func189 (fun _ h => slices_Clone_Sbytebyte.calls h HS.j0 (rdC.part 1 (rdC.subM row_rd c3) rfl)) ?_
 rintro _ _ w H ⟨_, _, rfl, HS⟩
 have HS := HS.o1
 refine go ?_
 have HS := HS.b [2]
 refine W.kl H func190 (fun _ h => slices_Delete_Sbytebyte.calls h HS.j1) ?_
 rintro _ _ w H ⟨_, _, rfl, HS⟩
 have HS := HS.o1
 refine go ?_
 refine W.sr 1 HS rfl rfl rfl fun w HS => ?_
 refine go ?_
 have HS := (pipe_Pipe.close tv (HS.b [2])).b [1]
 exact rt
def pipe_Pipe_Take.f (a0 : pipe_Pipe) (a1 : Int) : Option (List Int × pipe_Pipe) := (if a0.stall = true then some (([] : List Int), a0) else ((pipe_Pipe_gone.f a0 a1).bind fun t5 => some t5))
theorem pipe_Pipe_Take.calls {a0 : pipe_Pipe} {a1 : Int} {R : As} {w0 w : World} {b0 : Nat} {r : List Int × pipe_Pipe} (H : pipe_Pipe_Take.f a0 a1 = some r) (HS : Sep.St [pipe_Pipe.at b0 a0, R] w0 w)  : Calls Tryz.prog 140 #[pt b0, vi a1] w (Ret fun u w => ∃ (aq0 : Option Addr) (cq0 : Nat), u = vs aq0 r.1.length cq0 ∧ Sep.St [row 5 1 (.slice aq0 r.1.length cq0) r.1.length (r.1.map (Value.int .u8)), pipe_Pipe.at b0 r.2, R] w0 w) := by
 refine calls_enter func140 rfl rfl ?_
 refine go ?_
 obtain ⟨_, _, _, HS⟩ := pipe_Pipe.open HS
 refine go ?_
 refine V.cv H rfl (fun _ H => ?_) (fun _ H => ?_)
 ·refine go ?_
  have HS := (pipe_Pipe.close tv ((row_nilF (Value.int .u8) 5 1 HS).b [1, 1])).b [1]
  exact rt
 ·refine go ?_
  have HS := pipe_Pipe.close tv HS
  refine W.kl H func142 (fun _ h => pipe_Pipe_gone.calls h HS.j1) ?_
  rintro _ _ w H ⟨_, _, rfl, HS⟩
  have HS := HS.o2
  refine go ?_
  exact rt
mutual
def slices_Equal_Sbytebyte.l0 : Nat → (List Int) → (List Int) → Int → Option Bool
 | 0, _, _, _ => none
 | k + 1, a0, a1, x2 => (if x2 < (a0.length : Int) then (if 0 ≤ x2 ∧ x2 < (a0.length : Int) then (if 0 ≤ x2 ∧ x2 < (a1.length : Int) then (if (a0.getD x2.toNat 0) = (a1.getD x2.toNat 0) then (slices_Equal_Sbytebyte.l0 k a0 a1 (w64 (x2 + 1))) else some false) else none) else none) else some true)
end
def slices_Equal_Sbytebyte.f (k : Nat) (a0 : List Int) (a1 : List Int) : Option Bool := (if (a0.length : Int) = (a1.length : Int) then (slices_Equal_Sbytebyte.l0 k a0 a1 0) else some false)
theorem slices_Equal_Sbytebyte.calls {k : Nat} {a0 : List Int} {a1 : List Int} {R : As} {w0 w : World} {sa0 : Option Addr} {sc0 : Nat} {sa1 : Option Addr} {sc1 : Nat} {r : Bool} (H : slices_Equal_Sbytebyte.f k a0 a1 = some r) (HS : Sep.St [R] w0 w) (hr0 : rdC R 1 (.slice sa0 a0.length sc0) a0.length (a0.map (Value.int .u8))) (hr1 : rdC R 1 (.slice sa1 a1.length sc1) a1.length (a1.map (Value.int .u8))) : Calls Tryz.prog 318 #[vs sa0 a0.length sc0, vs sa1 a1.length sc1] w (Ret fun u w => u = vb r ∧ Sep.St [R] w0 w) := by
 refine calls_enter func318 rfl rfl ?_
 refine go ?_
 refine V.cm H rfl (fun _ H => ?_) (fun _ H => ?_)
 ·refine go ?_
  refine V.lp (σ := Int) (fun kq x2 w => Sep.St [R] w0 w ∧ slices_Equal_Sbytebyte.l0 kq a0 a1 x2 = some r ∧ kq ≤ k) (fun x2 => [(0, vs sa0 a0.length sc0), (1, vs sa1 a1.length sc1), (12, vi (a0.length : Int)), (13, vi x2)]) _ ⟨HS, H, Nat.le_refl _⟩ ?_
  rintro kq3 x2 w ⟨HS, H, _⟩
  cases kq3 with
  | zero => exact absurd H (by simp [slices_Equal_Sbytebyte.l0])
  | succ kq3 =>
   simp only [slices_Equal_Sbytebyte.l0] at H
   refine go ?_
   refine V.cd H rfl (fun _ H => ?_) (fun _ H => ?_)
   ·refine go ?_
    obtain ⟨c6, H⟩ := ite_n H
    obtain ⟨_, _, hh⟩ := (rdC.at 0 hr0 HS rfl).some (by decide) c6.1 c6.2; subst hh
    obtain ⟨c9, H⟩ := ite_n H
    obtain ⟨_, _, hh⟩ := (rdC.at 0 hr1 HS rfl).some (by decide) c9.1 c9.2; subst hh
    apply V.da [] [] [(16, _), (17, _), (18, _), (19, _), (20, _), (21, _), (22, _), (23, _), (24, _)] mo HS
    rfl
    refine T.ff [0, 1, 12, 13, 24] (fun w HS => ?_) ⟨rd, rd, rd, .n1 18 rfl rfl (fun w HS => X.load underlying5 rfl rfl ((rdC.at 0 hr0 HS rfl).cellI c6.1 c6.2)), rd, rd, rd, .n1 22 rfl rfl (fun w HS => X.load underlying5 rfl rfl ((rdC.at 0 hr1 HS rfl).cellI c9.1 c9.2)), rds⟩
    refine go ?_
    refine V.cm H rfl (fun _ H => ?_) (fun _ H => ?_)
    ·refine go ?_
     exact At.rn _ ⟨HS, H, by omega⟩
    ·refine go ?_
     exact rt
   ·refine go ?_
    exact rt
 ·refine go ?_
  exact rt
def fcs_Check.f (k : Nat) (a0 : List Int) (a1 : Bool) : Option (List Int × Int) := ((fcs_tail.f k [] a1).bind fun t1 => (if (w64 ((a0.length : Int) - (t1.length : Int))) < 0 then some (([] : List Int), 3) else (if 0 ≤ (0 : Int) ∧ (0 : Int) ≤ w64 ((a0.length : Int) - (t1.length : Int)) ∧ w64 ((a0.length : Int) - (t1.length : Int)) ≤ (a0.length : Int) then (if 0 ≤ w64 ((a0.length : Int) - (t1.length : Int)) ∧ w64 ((a0.length : Int) - (t1.length : Int)) ≤ (a0.length : Int) ∧ (a0.length : Int) ≤ (a0.length : Int) then ((fcs_tail.f k (cut a0 (0 : Int) (w64 ((a0.length : Int) - (t1.length : Int)))) a1).bind fun t7 => ((slices_Equal_Sbytebyte.f k t7 (cut a0 (w64 ((a0.length : Int) - (t1.length : Int))) (a0.length : Int))).bind fun t9 => (if t9 = true then ((slices_Clone_Sbytebyte.f (cut a0 (0 : Int) (w64 ((a0.length : Int) - (t1.length : Int))))).bind fun t12 => some (t12, 0)) else some (([] : List Int), 2)))) else none) else none)))
theorem fcs_Check.calls {k : Nat} {a0 : List Int} {a1 : Bool} {R : As} {w0 w : World} {sa0 : Option Addr} {sc0 : Nat} {r : List Int × Int} (H : fcs_Check.f k a0 a1 = some r) (HS : Sep.St [R] w0 w) (hr0 : rdC R 1 (.slice sa0 a0.length sc0) a0.length (a0.map (Value.int .u8))) : Calls Tryz.prog 310 #[vs sa0 a0.length sc0, vb a1] w (Ret fun u w => ∃ (aq0 : Option Addr) (cq0 : Nat), u = Value.tuple #[vs aq0 r.1.length cq0, vi r.2] ∧ Sep.St [row 5 1 (.slice aq0 r.1.length cq0) r.1.length (r.1.map (Value.int .u8)), R] w0 w) := by
 refine calls_enter func310 rfl rfl ?_
 refine go ?_
 refine W.kl H func216 (fun _ h => fcs_tail.calls h HS.j0 (rdC.nil rfl)) ?_
 rintro _ _ w H ⟨_, _, rfl, HS⟩
 have HS := HS.o1
 refine go ?_
 refine V.cd H rfl (fun _ H => ?_) (fun _ H => ?_)
 ·refine go ?_
  have HS := (row_nilF (Value.int .u8) 5 1 HS).ke [0, 1]
  exact rt
 ·refine go ?_
  obtain ⟨c5, H⟩ := ite_n H
  obtain ⟨c6, H⟩ := ite_n H
  apply V.da [4, 8] [9] [(15, _), (16, _), (17, _), (18, _), (20, _), (21, _), (22, _)] mo HS
  rfl
  refine T.e [17, 18] [9] [0, 1, 2, 3] (fun w HS => ?_) ⟨rd, rd, .n2 15 16 rfl rfl rfl (fun w HS => X.slH underlying27 inf5 rfl rfl c5 (rdC.at 1 hr0 HS rfl).cap), rd, rd, rd, .n2 20 21 rfl rfl rfl (fun w HS => X.slL underlying27 inf5 rfl rfl c6), rds⟩
  refine Y.kl H func216 (fun _ h => fcs_tail.calls h HS.j0 (rdC.part 1 (rdC.subM hr0 c5) rfl)) ?_
  rintro _ _ w H ⟨_, _, rfl, HS⟩
  have HS := HS.o1
  refine T.nw HS ?_
  refine T.e [19, 22] [] [5, 6, 7] (fun w HS => ?_) ⟨rd, rd, .n2 20 21 rfl rfl rfl (fun w HS => X.slL underlying27 inf5 rfl rfl c6), rds⟩
  refine Y.kl H func318 (fun _ h => slices_Equal_Sbytebyte.calls h HS.j0 (rdC.part 0 row_rd rfl) (rdC.part 2 (rdC.subM hr0 c6) rfl)) ?_
  rintro _ _ w H ⟨rfl, HS⟩
  have HS := HS.o0
  apply T.na [(23, _), (24, _)] HS
  exact nmk
  refine T.ff [0, 6, 24] fun w HS => ?_
  refine go ?_
  refine V.cx H rfl (fun _ H => ?_) (fun _ H => ?_)
  ·refine go ?_
   refine W.r (X.slH underlying27 inf5 rfl rfl c5 (rdC.at 2 hr0 HS rfl).cap) rfl ?_
   refine W.kl H func189 (fun _ h => slices_Clone_Sbytebyte.calls h HS.j0 (rdC.part 2 (rdC.subM hr0 c5) rfl)) ?_
   rintro _ _ w H ⟨_, _, rfl, HS⟩
   have HS := HS.o1
   refine go ?_
   have HS := HS.ke [0, 2]
   exact rt
  ·refine go ?_
   have HS := (row_nilF (Value.int .u8) 5 1 HS).ke [0, 2]
   exact rt
def frame_Reader_ends.f (k : Nat) (a0 : frame_Reader) : Option (Int × List Int) := ((frame_size.f k a0.wide).bind fun t3 => (if (a0.b.length : Int) ≤ t3 then some (2, ([] : List Int)) else ((fcs_Check.f k a0.b a0.wide).bind fun t6 => (if t6.2 = 0 then some (1, t6.1) else some (4, ([] : List Int))))))
theorem frame_Reader_ends.calls {k : Nat} {a0 : frame_Reader} {R : As} {w0 w : World} {b0 : Nat} {a3_p0 : Option Addr} {c3_p0 : Nat} {r : Int × List Int} (H : frame_Reader_ends.f k a0 = some r) (HS : Sep.St [blk b0 (#[vb a0.wide, vi a0.most, vi a0.state, vs a3_p0 a0.b.length c3_p0]) 218, row 5 1 (.slice a3_p0 a0.b.length c3_p0) a0.b.length (a0.b.map (Value.int .u8)), R] w0 w)  : Calls Tryz.prog 292 #[pt b0] w (Ret fun u w => ∃ (aq1 : Option Addr) (cq1 : Nat), u = Value.tuple #[vi r.1, vs aq1 r.2.length cq1] ∧ Sep.St [row 5 1 (.slice aq1 r.2.length cq1) r.2.length (r.2.map (Value.int .u8)), blk b0 (#[vb a0.wide, vi a0.most, vi a0.state, vs a3_p0 a0.b.length c3_p0]) 218, row 5 1 (.slice a3_p0 a0.b.length c3_p0) a0.b.length (a0.b.map (Value.int .u8)), R] w0 w) := by
 refine calls_enter func292 rfl rfl ?_
 refine go ?_
 apply V.da [9] [10] [(6, _), (7, _), (8, _), (9, _), (10, _), (11, _), (12, _), (13, _), (14, _)] mo HS
 rfl
 refine T.e [14] [] [5, 6, 7, 8] fun w HS => ?_
 refine Y.kl H func130 (fun _ h => frame_size.calls h HS.j0) ?_
 rintro _ _ w H ⟨rfl, HS⟩
 have HS := HS.o0
 apply T.na [(15, _), (16, _)] HS
 exact nmk
 refine T.ff [0, 16] fun w HS => ?_
 refine go ?_
 refine V.cd H rfl (fun _ H => ?_) (fun _ H => ?_)
 ·refine go ?_
  have HS := row_nilF (Value.int .u8) 5 1 HS
  exact rt
 ·refine go ?_
  apply V.da [8] [9, 10, 11, 12, 13] [(18, _), (19, _), (20, _), (21, _), (22, _), (23, _), (24, _), (25, _)] mo HS
  rfl
  refine T.e [21, 25] [] [0, 1, 2, 3, 4, 5, 6, 7] fun w HS => ?_
  refine Y.kl H func310 (fun _ h => fcs_Check.calls h HS.j0 (rdC.part 1 row_rd rfl)) ?_
  rintro _ _ w H ⟨_, _, rfl, HS⟩
  have HS := HS.o1
  apply T.na [(26, _), (17, _), (27, _), (28, _), (4, _), (5, _)] HS
  exact nmk
  refine T.ff [4, 5] fun w HS => ?_
  refine go ?_
  refine V.cm H rfl (fun _ H => ?_) (fun _ H => ?_)
  ·refine go ?_
   exact rt
  ·refine go ?_
   have HS := (row_nilF (Value.int .u8) 5 1 HS).ke [0, 1, 1, 1]
   exact rt
def frame_Reader_flag.f (k : Nat) (a0 : frame_Reader) : Option (Int × List Int × frame_Reader) := (if a0.state = 2 then ((frame_Reader_ends.f k a0).bind fun t4 => some (t4.1, t4.2, ({ a0 with state := 1, b := ([] : List Int) } : frame_Reader))) else (if a0.state = 3 then some (5, ([] : List Int), ({ a0 with state := 1, b := ([] : List Int) } : frame_Reader)) else (if a0.state = 4 then some (3, ([] : List Int), ({ a0 with state := 1, b := ([] : List Int) } : frame_Reader)) else some (0, ([] : List Int), ({ a0 with state := 1, b := ([] : List Int) } : frame_Reader)))))
theorem frame_Reader_flag.calls {k : Nat} {a0 : frame_Reader} {R : As} {w0 w : World} {b0 : Nat} {r : Int × List Int × frame_Reader} (H : frame_Reader_flag.f k a0 = some r) (HS : Sep.St [frame_Reader.at b0 a0, R] w0 w)  : Calls Tryz.prog 267 #[pt b0] w (Ret fun u w => ∃ (aq1 : Option Addr) (cq1 : Nat), u = Value.tuple #[vi r.1, vs aq1 r.2.1.length cq1] ∧ Sep.St [row 5 1 (.slice aq1 r.2.1.length cq1) r.2.1.length (r.2.1.map (Value.int .u8)), frame_Reader.at b0 r.2.2, R] w0 w) := by
 refine calls_enter func267 rfl rfl ?_
 refine go ?_
 obtain ⟨_, _, _, HS⟩ := frame_Reader.open HS
 refine go ?_
 refine V.cd H rfl (fun _ H => ?_) (fun _ H => ?_)
 ·refine go ?_
  refine W.kl H func292 (fun _ h => frame_Reader_ends.calls h HS.j2) ?_
  rintro _ _ w H ⟨_, _, rfl, HS⟩
  have HS := HS.o3
  refine go ?_
  refine W.sr 2 HS rfl rfl rfl fun w HS => ?_
  refine go ?_
  refine W.sr 3 HS rfl rfl rfl fun w HS => ?_
  refine go ?_
  have HS := (frame_Reader.close (l3 := ([] : List Int)) tv ((row_nilF (Value.int .u8) 5 1 HS).b [2])).ke [1, 0, 1]
  exact rt
 ·refine go ?_
  refine V.cd H rfl (fun _ H => ?_) (fun _ H => ?_)
  ·refine go ?_
   refine W.sr 2 HS rfl rfl rfl fun w HS => ?_
   refine go ?_
   refine W.sr 3 HS rfl rfl rfl fun w HS => ?_
   refine go ?_
   have HS := (frame_Reader.close (l3 := ([] : List Int)) tv ((row_nilF (Value.int .u8) 5 1 (row_nilF (Value.int .u8) 5 1 HS)).b [2])).ke [1, 0, 1]
   exact rt
  ·refine go ?_
   refine V.cd H rfl (fun _ H => ?_) (fun _ H => ?_)
   ·refine go ?_
    refine W.sr 2 HS rfl rfl rfl fun w HS => ?_
    refine go ?_
    refine W.sr 3 HS rfl rfl rfl fun w HS => ?_
    refine go ?_
    have HS := (frame_Reader.close (l3 := ([] : List Int)) tv ((row_nilF (Value.int .u8) 5 1 (row_nilF (Value.int .u8) 5 1 HS)).b [2])).ke [1, 0, 1]
    exact rt
   ·refine go ?_
    refine W.sr 2 HS rfl rfl rfl fun w HS => ?_
    refine go ?_
    refine W.sr 3 HS rfl rfl rfl fun w HS => ?_
    refine go ?_
    have HS := (frame_Reader.close (l3 := ([] : List Int)) tv ((row_nilF (Value.int .u8) 5 1 (row_nilF (Value.int .u8) 5 1 HS)).b [2])).ke [1, 0, 1]
    exact rt
def frame_Reader_take.f (a0 : frame_Reader) (a1 : Int) : Option frame_Reader := (if (a0.b.length : Int) + ([a1] : List Int).length ≤ 1099511627776 then (if ((a0.b ++ ([a1] : List Int)).length : Int) > a0.most then some (({ a0 with state := 4, b := a0.b ++ ([a1] : List Int) } : frame_Reader)) else some (({ a0 with state := 2, b := a0.b ++ ([a1] : List Int) } : frame_Reader))) else none)
theorem frame_Reader_take.calls {a0 : frame_Reader} {a1 : Int} {R : As} {w0 w : World} {b0 : Nat} {r : frame_Reader} (H : frame_Reader_take.f a0 a1 = some r) (HS : Sep.St [frame_Reader.at b0 a0, R] w0 w)  : Calls Tryz.prog 268 #[pt b0, Value.int .u8 a1] w (Ret fun u w => u = Value.tuple #[] ∧ Sep.St [frame_Reader.at b0 r, R] w0 w) := by
 refine calls_enter func268 rfl rfl ?_
 refine go ?_
 obtain ⟨_, _, _, HS⟩ := frame_Reader.open HS
 refine go ?_
 refine W.e (Y.ls (e := 5) (Value.int .u8) ([a1] : List Int) HS rfl rfl (fun _ => by kernel_rfl)) rfl ?_
 rintro _ w ⟨_, rfl, HS⟩
 obtain ⟨_, H⟩ := ite_n H
 refine W.e (Y.appF (Value.int .u8) (fun _ => rfl) 2 underlying27 ap5 rfl HS rfl rfl rfl (rdC.at 0 row_rd HS rfl) (by omega) (by omega)) rfl ?_
 rintro _ w ⟨_, _, rfl, HS⟩
 refine go ?_
 refine W.sr 3 HS rfl rfl rfl fun w HS => ?_
 refine go ?_
 refine W.sr 2 HS rfl rfl rfl fun w HS => ?_
 refine go ?_
 apply V.da [] [] [(17, _), (18, _), (19, _), (20, _), (21, _), (22, _), (23, _), (24, _), (25, _), (26, _)] mo HS
 rfl
 refine T.ff [0, 26] fun w HS => ?_
 refine go ?_
 refine V.cd H rfl (fun _ H => ?_) (fun _ H => ?_)
 ·refine go ?_
  refine W.sr 2 HS rfl rfl rfl fun w HS => ?_
  refine go ?_
  have HS := (frame_Reader.close tv (HS.b [1, 1])).ke [0, 1]
  exact rt
 ·refine go ?_
  have HS := (frame_Reader.close tv (HS.b [1, 1])).ke [0, 1]
  exact rt
mutual
def frame_Reader_Push.j0 (a0 : frame_Reader) (a1 : Int) (x8 : Bool) : Option (Int × List Int × frame_Reader) := (if x8 = true then some (0, ([] : List Int), a0) else (if a0.state = 3 then ((frame_Reader_take.f a0 (ixor .u8 a1 (32))).bind fun t12 => some (0, ([] : List Int), t12)) else (if a1 = 125 then some (0, ([] : List Int), ({ a0 with state := 3 } : frame_Reader)) else ((frame_Reader_take.f a0 a1).bind fun t17 => some (0, ([] : List Int), t17)))))
end
def frame_Reader_Push.f (k : Nat) (a0 : frame_Reader) (a1 : Int) : Option (Int × List Int × frame_Reader) := (if a1 = 126 then ((frame_Reader_flag.f k a0).bind fun t3 => some (t3.1, t3.2.1, t3.2.2)) else (if a0.state = 0 then (frame_Reader_Push.j0 a0 a1 (decide (a0.state = 0))) else (frame_Reader_Push.j0 a0 a1 (decide (a0.state = 4)))))
theorem frame_Reader_Push.calls {k : Nat} {a0 : frame_Reader} {a1 : Int} {R : As} {w0 w : World} {b0 : Nat} {r : Int × List Int × frame_Reader} (H : frame_Reader_Push.f k a0 a1 = some r) (HS : Sep.St [frame_Reader.at b0 a0, R] w0 w)  : Calls Tryz.prog 230 #[pt b0, Value.int .u8 a1] w (Ret fun u w => ∃ (aq1 : Option Addr) (cq1 : Nat), u = Value.tuple #[vi r.1, vs aq1 r.2.1.length cq1] ∧ Sep.St [row 5 1 (.slice aq1 r.2.1.length cq1) r.2.1.length (r.2.1.map (Value.int .u8)), frame_Reader.at b0 r.2.2, R] w0 w) := by
 refine calls_enter func230 rfl rfl ?_
 refine go ?_
 refine V.scope 1 ?_
 refine go ?_
 refine V.cd H rfl (fun _ H => ?_) (fun _ H => ?_)
 ·refine go ?_
  refine W.kl H func267 (fun _ h => frame_Reader_flag.calls h HS.j1) ?_
  rintro _ _ w H ⟨_, _, rfl, HS⟩
  have HS := HS.o2
  refine go ?_
  exact rt
 ·refine go ?_
  obtain ⟨_, _, _, HS⟩ := frame_Reader.open HS
  refine gs ?_
  refine V.meet (σ := Bool) (fun x8 w => Sep.St [frame_Reader.at b0 a0, R] w0 w ∧ frame_Reader_Push.j0 a0 a1 x8 = some r) (fun x8 => [(0, pt b0), (1, Value.int .u8 a1), (15, vi a0.state), (16, vb x8)]) ?_ ?_
  ·refine go ?_
   refine V.cd H rfl (fun _ H => ?_) (fun _ H => ?_)
   ·refine go ?_
    have HS := frame_Reader.close tv HS
    exact At.mt _ ⟨HS, H⟩
   ·refine go ?_
    have HS := frame_Reader.close tv HS
    exact At.mt _ ⟨HS, H⟩
  ·rintro x8 w ⟨HS, H⟩
   refine V.cv H rfl (fun _ H => ?_) (fun _ H => ?_)
   ·refine go ?_
    refine At.jump rfl ?_
    refine go ?_
    have HS := row_nilF (Value.int .u8) 5 1 HS
    exact rt
   ·refine go ?_
    refine V.cd H rfl (fun _ H => ?_) (fun _ H => ?_)
    ·refine go ?_
     refine W.r (X.xor rfl rfl) rfl ?_
     refine go ?_
     refine At.jump rfl ?_
     refine go ?_
     refine W.kl H func268 (fun _ h => frame_Reader_take.calls h HS.j1) ?_
     rintro _ _ w H ⟨rfl, HS⟩
     have HS := HS.o1
     refine go ?_
     have HS := row_nilF (Value.int .u8) 5 1 HS
     exact rt
    ·refine go ?_
     refine V.cd H rfl (fun _ H => ?_) (fun _ H => ?_)
     ·refine go ?_
      obtain ⟨_, _, _, HS⟩ := frame_Reader.open HS
      refine go ?_
      refine W.sr 2 HS rfl rfl rfl fun w HS => ?_
      refine go ?_
      refine At.jump rfl ?_
      refine go ?_
      have HS := (frame_Reader.close tv ((row_nilF (Value.int .u8) 5 1 HS).b [1, 1])).b [1]
      exact rt
     ·refine go ?_
      refine W.kl H func268 (fun _ h => frame_Reader_take.calls h HS.j1) ?_
      rintro _ _ w H ⟨rfl, HS⟩
      have HS := HS.o1
      refine go ?_
      have HS := row_nilF (Value.int .u8) 5 1 HS
      exact rt
def station_one.f (a0 : Int) : Int := imin (w64 (a0 + 1)) (4294967295)
theorem station_one.cell {L : List As} {w0 w : World} (j z : Nat) {b o : Nat} {c c' : Array Value} {e : TypeId} {v : Int} {L' : List As} (HS : Sep.St L w0 w) (hL : L[j]? = some (blk b c e)) (hc : c[z]? = some (vi v)) (ho : o = z)
  [q : SetA c z (vi (station_one.f v)) c'] [r : SetL L j (blk b c' e) L'] : Calls Tryz.prog 231 #[po b o] w (Ret fun u w => u = Value.tuple #[] ∧ Sep.St L' w0 w) := by
 subst ho
 refine calls_enter func231 rfl rfl ?_
 exact V.region (W.rd (X.move rfl) rfl rfl rfl (W.rd (X.move rfl) rfl rfl rfl (W.rd (X.nilCheck rfl) rfl rfl rfl (W.rd (X.loadAt j HS hL underlying3 rfl rfl hc) rfl rfl rfl (W.rd (X.add rfl rfl) rfl rfl rfl (W.rd (X.min2 rfl rfl) rfl rfl rfl (W.rd (X.nilCheck rfl) rfl rfl rfl (W.ev_none (Y.storeAt j HS hL inf3 rfl rfl rfl hc q.h r.h) rfl rfl fun _ w HS => W.nil (At.end0 rfl ⟨_, rfl, rfl, HS⟩)))))))))
def tally_one.f (a0 : Bool) : Option (Nat × Nat) := (if a0 = true then some (((4607182418800017408, 0) : Nat × Nat)) else some (((0, 4607182418800017408) : Nat × Nat)))
theorem tally_one.calls {a0 : Bool} {R : As} {w0 w : World}  {r : (Nat × Nat)} (H : tally_one.f a0 = some r) (HS : Sep.St [R] w0 w)  : Calls Tryz.prog 293 #[vb a0] w (Ret fun u w => u = Value.complex .f64 r.1 r.2 ∧ Sep.St [R] w0 w) := by
 refine calls_enter func293 rfl rfl ?_
 refine go ?_
 refine V.cv H rfl (fun _ H => ?_) (fun _ H => ?_)
 ·refine go ?_
  exact rt
 ·refine go ?_
  exact rt
end Go.Proofs.YtgkjmdapodgnfaaGreat

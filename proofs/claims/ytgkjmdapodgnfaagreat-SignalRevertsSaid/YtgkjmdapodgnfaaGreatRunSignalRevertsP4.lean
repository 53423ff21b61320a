/- SignalReverts: the functions that its law reaches, as plain functions, and that the machine's calls come to what these say. Conditions: those that stand at each. -/
import Derived.Test.YtgkjmdapodgnfaaGreatRunSignalRevertsP3
set_option linter.all false
set_option maxRecDepth 100000
set_option maxHeartbeats 4000000
set_option synthInstance.maxSize 100000
set_option synthInstance.maxHeartbeats 1000000
namespace Go.Proofs.YtgkjmdapodgnfaaGreat
open Go.RowKit Go.Proofs.YtgkjmdapodgnfaaGreat.Sep Go.Proofs.YtgkjmdapodgnfaaGreat.Walk Go.Proofs.Tryz
attribute [local irreducible] V W At T Code.rounds RdO RdOk
set_option autoImplicit true
set_option relaxedAutoImplicit true
mutual
def control_Read.j0 (k : Nat) (a0 : List Int) (a1 : Int) (x20 : api_Ctl) : Option (api_Ctl × Int × Int) := ((control_put.f ([] : List Int) 0 a1).bind fun t22 => (if (a0.length : Int) < (w64 (2 * (t22.length : Int))) then some (({ Kind := 0, Ns := 0, Nr := 0, Poll := false } : api_Ctl), 0, 3) else (if 0 ≤ (0 : Int) ∧ (0 : Int) ≤ (t22.length : Int) ∧ (t22.length : Int) ≤ (a0.length : Int) then (if 0 ≤ (t22.length : Int) ∧ (t22.length : Int) ≤ w64 (2 * (t22.length : Int)) ∧ w64 (2 * (t22.length : Int)) ≤ (a0.length : Int) then ((control_number.f k (cut a0 (0 : Int) (t22.length : Int))).bind fun t31 => ((control_number.f k (cut a0 (t22.length : Int) (w64 (2 * (t22.length : Int))))).bind fun t33 => (if x20.Kind = 0 then some (({ Kind := x20.Kind, Ns := w64 (t31.tdiv (2)), Nr := w64 (t33.tdiv (2)), Poll := decide ((iand .i64 t33 (1)) = 1) } : api_Ctl), w64 (2 * (t22.length : Int)), 0) else (if t31 = (w64 (a0.getD (0 : Int).toNat 0)) then some (({ x20 with Nr := w64 (t33.tdiv (2)), Poll := decide ((iand .i64 t33 (1)) = 1) } : api_Ctl), w64 (2 * (t22.length : Int)), 0) else some (({ Kind := 0, Ns := 0, Nr := 0, Poll := false } : api_Ctl), 0, 2))))) else none) else none)))
end
def control_Read.f (k : Nat) (a0 : List Int) (a1 : Int) : Option (api_Ctl × Int × Int) := ((control_modulus.f a1).bind fun t3 => (if t3 = true then (if (a0.length : Int) = 0 then some (({ Kind := 0, Ns := 0, Nr := 0, Poll := false } : api_Ctl), 0, 3) else (if 0 ≤ (0 : Int) ∧ (0 : Int) < (a0.length : Int) then ((control_plain.f ).bind fun t11 => ((slices_Index_Sbytebyte.f k t11 (iandn .u8 (a0.getD (0 : Int).toNat 0) (16))).bind fun t13 => (if t13 ≥ 0 then some (({ Kind := w64 (3 + t13), Ns := 0, Nr := 0, Poll := !(decide ((iand .u8 (a0.getD (0 : Int).toNat 0) (16)) = 0)) } : api_Ctl), 1, 0) else (if (a0.getD (0 : Int).toNat 0) = 1 then (control_Read.j0 k a0 a1 ({ Kind := 1, Ns := 0, Nr := 0, Poll := false } : api_Ctl)) else (if (a0.getD (0 : Int).toNat 0) = 9 then (control_Read.j0 k a0 a1 ({ Kind := 2, Ns := 0, Nr := 0, Poll := false } : api_Ctl)) else (if (iand .u8 (a0.getD (0 : Int).toNat 0) (1)) = 1 then some (({ Kind := 0, Ns := 0, Nr := 0, Poll := false } : api_Ctl), 0, 2) else (control_Read.j0 k a0 a1 ({ Kind := 0, Ns := 0, Nr := 0, Poll := false } : api_Ctl)))))))) else none)) else some (({ Kind := 0, Ns := 0, Nr := 0, Poll := false } : api_Ctl), 0, 1)))
theorem control_Read.calls (H : control_Read.f k a0 a1 = some r) (HS : St [R] w0 w) (hr0 : dB R sa0 sc0 a0) : Calls Tryz.prog 297 #[vs sa0 a0.length sc0, vi a1] w (Ret fun u w => u = Value.tuple #[Value.agg #[vi r.1.Kind, vi r.1.Ns, vi r.1.Nr, vb r.1.Poll], vi r.2.1, vi r.2.2] ∧ St [R] w0 w) := by
 refine calls_enter func297 rfl rfl (go ?_)
 refine W.e (Y.alloc (z := Value.agg (#[vi (0), vi (0), vi (0), vb false])) HS ze263) rfl ?_
 rintro _ w ⟨nb1, rfl, HS⟩
 refine go ?_
 refine W.kl H func311 (fun _ h => control_modulus.calls h HS.j0) ?_
 rintro _ _ w H ⟨rfl, HS⟩
 have HS := HS.o0
 refine go ?_
 refine V.cx H rfl (fun _ H => go ?_) (fun _ H => go ?_)
 ·refine V.cd H rfl (fun _ H => go ?_) (fun _ H => go ?_)
  ·refine W.r (X.bd (Value.agg #[vi (0), vi (0), vi (0), vb false]) rfl (fun _ => by kernel_rfl)) rfl ?_
   refine W.ss HS rfl rfl rfl rfl fun w HS => go ?_
   have hv7 := run_loadSt (P := Tryz.prog) (p := 0) 0 [vi (0), vi (0), vi (0), vb false] HS rfl underlying263 rfl inf263 rfl
   have HS := HS.ke [1]
   cases H
   exact At.retv3 rfl ⟨_, rfl, hv7⟩ rfl rfl ⟨_, rfl, rfl, HS⟩
  ·obtain ⟨c8, H⟩ := ite_n H
   obtain ⟨_, _, hh⟩ := (rdC.at 1 hr0 HS rfl).some (by decide) c8.1 c8.2; subst hh
   apply V.da [0, 5] [6] [(21, _), (22, _), (23, _), (24, _)] mo HS
   rfl
   refine T.e [] [6] [] (fun w HS => ?_) ⟨rd, rd, .n1 22 rfl rfl (fun w HS => X.load underlying5 rfl rfl ((rdC.at 1 hr0 HS rfl).cellI c8.1 c8.2)), .n1 23 rfl rfl (fun w HS => X.andNot rfl rfl), rds⟩
   refine Y.kl H func306 (fun _ h => control_plain.calls h HS.j0) ?_
   rintro t11 _ w H ⟨at11_0, ct11_0, rfl, HS⟩
   have HS := HS.o1
   refine T.nw HS ?_
   refine T.e [20, 24] [] [1, 2, 3, 4] (fun w HS => ?_) ⟨rd, rd, .n1 22 rfl rfl (fun w HS => X.load underlying5 rfl rfl ((rdC.at 2 hr0 HS rfl).cellI c8.1 c8.2)), .n1 23 rfl rfl (fun w HS => X.andNot rfl rfl), rds⟩
   refine Y.kl H func312 (fun _ h => slices_Index_Sbytebyte.calls h HS.j0 (rdC.part 0 row_rd rfl)) ?_
   rintro t13 _ w H ⟨rfl, HS⟩
   have HS := HS.o0
   apply T.na [(25, _), (7, _)] HS
   exact nmk
   refine T.ff [0, 1, 4, 7] fun w HS => ?_
   refine go ?_
   refine V.cd H rfl (fun _ H => go ?_) (fun _ H => go ?_)
   ·refine W.r (X.load underlying5 rfl rfl ((rdC.at 2 hr0 HS rfl).cellI c8.1 c8.2)) rfl ?_
    refine W.r (X.and rfl rfl) rfl (go ?_)
    refine W.r (X.bd (Value.agg #[vi (w64 (3 + t13)), vi (0), vi (0), vb (!(decide ((iand .u8 (a0.getD (0 : Int).toNat 0) (16)) = 0)))]) rfl (fun _ => by kernel_rfl)) rfl ?_
    refine W.ss HS rfl rfl rfl rfl fun w HS => go ?_
    have hv16 := run_loadSt (P := Tryz.prog) (p := 0) 1 [vi (w64 (3 + t13)), vi (0), vi (0), vb (!(decide ((iand .u8 (a0.getD (0 : Int).toNat 0) (16)) = 0)))] HS rfl underlying263 rfl inf263 rfl
    have HS := HS.ke [2]
    cases H
    exact At.retv3 rfl ⟨_, rfl, hv16⟩ rfl rfl ⟨_, rfl, rfl, HS⟩
   ·refine W.r (X.bd (Value.agg #[vi (0), vi (0), vi (0), vb false]) rfl (fun _ => by kernel_rfl)) rfl ?_
    refine W.e (Y.alloc (z := Value.agg (#[vi (0), vi (0), vi (0), vb false])) HS ze263) rfl ?_
    rintro _ w ⟨nb17, rfl, HS⟩
    refine W.ss HS rfl rfl rfl rfl fun w HS => ?_
    refine gs ?_
    refine V.mj (σ := api_Ctl) [0, 1, 4, 8] (fun x20 w => St [api_Ctl.at nb1 ({ Kind := 0, Ns := 0, Nr := 0, Poll := false } : api_Ctl), api_Ctl.at nb17 x20, rB at11_0 ct11_0 t11, R] w0 w ∧ ∃ kf21, kf21 ≤ k ∧ control_Read.j0 kf21 a0 a1 x20 = some r) (fun _ => []) ?_ ?_
    ·refine go ?_
     refine W.r (X.load underlying5 rfl rfl ((rdC.at 3 hr0 HS rfl).cellI c8.1 c8.2)) rfl (go ?_)
     refine V.cd H rfl (fun _ H => go ?_) (fun _ H => go ?_)
     ·refine W.sr 0 HS rfl rfl rfl fun w HS => go ?_
      have HS := (api_Ctl.close tv ((api_Ctl.close tv (HS.b [2])).b [1])).b [1]
      exact At.mt _ ⟨HS, k, by omega, H⟩
     ·refine W.r (X.load underlying5 rfl rfl ((rdC.at 3 hr0 HS rfl).cellI c8.1 c8.2)) rfl (go ?_)
      refine V.cd H rfl (fun _ H => go ?_) (fun _ H => go ?_)
      ·refine W.sr 0 HS rfl rfl rfl fun w HS => go ?_
       have HS := (api_Ctl.close tv ((api_Ctl.close tv (HS.b [2])).b [1])).b [1]
       exact At.mt _ ⟨HS, k, by omega, H⟩
      ·refine W.r (X.load underlying5 rfl rfl ((rdC.at 3 hr0 HS rfl).cellI c8.1 c8.2)) rfl ?_
       refine W.r (X.and rfl rfl) rfl (go ?_)
       refine V.cd H rfl (fun _ H => go ?_) (fun _ H => go ?_)
       ·refine W.r (X.bd (Value.agg #[vi (0), vi (0), vi (0), vb false]) rfl (fun _ => by kernel_rfl)) rfl ?_
        refine W.ss HS rfl rfl rfl rfl fun w HS => go ?_
        have hv51 := run_loadSt (P := Tryz.prog) (p := 0) 2 [vi (0), vi (0), vi (0), vb false] HS rfl underlying263 rfl inf263 rfl
        have HS := HS.ke [3]
        cases H
        exact At.retv3 rfl ⟨_, rfl, hv51⟩ rfl rfl ⟨_, rfl, rfl, HS⟩
       ·have HS := (api_Ctl.close tv ((api_Ctl.close tv (HS.b [2])).b [1])).b [1]
        exact At.mt _ ⟨HS, k, by omega, H⟩
    ·rintro x20 w ⟨HS, kf21, _, H⟩
     refine go ?_
     have HS := row_nilF (Value.int .u8) 5 1 HS
     refine W.kl H func305 (fun _ h => control_put.calls h HS.j1) ?_
     rintro _ _ w H ⟨_, _, rfl, HS⟩
     have HS := HS.o1
     refine go ?_
     refine V.cd H rfl (fun _ H => go ?_) (fun _ H => go ?_)
     ·refine W.r (X.bd (Value.agg #[vi (0), vi (0), vi (0), vb false]) rfl (fun _ => by kernel_rfl)) rfl ?_
      have HS := HS.fr 1
      obtain ⟨_, HS⟩ := api_Ctl.open HS
      refine W.ss HS rfl rfl rfl rfl fun w HS => go ?_
      have hv28 := run_loadSt (P := Tryz.prog) (p := 0) 0 [vi (0), vi (0), vi (0), vb false] HS rfl underlying263 rfl inf263 rfl
      have HS := HS.ke [4]
      cases H
      exact At.retv3 rfl ⟨_, rfl, hv28⟩ rfl rfl ⟨_, rfl, rfl, HS⟩
     ·obtain ⟨c29, H⟩ := ite_n H
      obtain ⟨c30, H⟩ := ite_n H
      apply V.da [3, 9] [10, 11] [(65, _), (66, _), (67, _), (69, _), (70, _), (71, _), (72, _), (73, _)] mo HS
      rfl
      refine T.e [67] [10, 11] [0, 1, 2] (fun w HS => ?_) ⟨rd, rd, .n2 65 66 rfl rfl rfl (fun w HS => X.slH underlying27 inf5 rfl rfl c29 (rdC.at 4 hr0 HS rfl).cap), rd, rd, rd, rd, .ns [(69, _), (70, _), (72, _)] ⟨rfl, rfl, rfl, tv⟩ rfl (fun w HS => X.slLH underlying27 inf5 rfl rfl rfl c30 (rdC.at 4 hr0 HS rfl).cap), rds⟩
      refine Y.kl H func313 (fun _ h => control_number.calls h HS.j0 (rdC.part 4 (rdC.subM hr0 c29) rfl)) ?_
      rintro t31 _ w H ⟨rfl, HS⟩
      have HS := HS.o0
      refine T.nw HS ?_
      refine T.e [73] [] [4, 5, 6, 7, 8] (fun w HS => ?_) ⟨rd, rd, rd, rd, .ns [(69, _), (70, _), (72, _)] ⟨rfl, rfl, rfl, tv⟩ rfl (fun w HS => X.slLH underlying27 inf5 rfl rfl rfl c30 (rdC.at 4 hr0 HS rfl).cap), rds⟩
      refine Y.kl H func313 (fun _ h => control_number.calls h HS.j0 (rdC.part 4 (rdC.subM hr0 c30) rfl)) ?_
      rintro t33 _ w H ⟨rfl, HS⟩
      have HS := HS.o0
      apply T.na [(74, _), (10, _), (11, _)] HS
      exact nmk
      refine T.ff [0, 4, 8, 9, 10, 11] fun w HS => ?_
      refine go ?_
      have HS := HS.fr 2
      obtain ⟨_, HS⟩ := api_Ctl.open HS
      refine go ?_
      refine V.cd H rfl (fun _ H => go ?_) (fun _ H => go ?_)
      ·refine W.r (X.quo rfl rfl (by decide)) rfl (go ?_)
       refine W.sr 1 HS rfl rfl rfl fun w HS => go ?_
       refine W.r (X.quo rfl rfl (by decide)) rfl (go ?_)
       refine W.r (X.and rfl rfl) rfl (go ?_)
       refine W.sr 2 HS rfl rfl rfl fun w HS => go ?_
       refine W.sr 3 HS rfl rfl rfl fun w HS => go ?_
       have HS := HS.fr 2
       obtain ⟨_, HS⟩ := api_Ctl.open HS
       refine W.ss HS rfl rfl rfl rfl fun w HS => go ?_
       have hv40 := run_loadSt (P := Tryz.prog) (p := 0) 0 [vi x20.Kind, vi (w64 (t31.tdiv (2))), vi (w64 (t33.tdiv (2))), vb (decide ((iand .i64 t33 (1)) = 1))] HS rfl underlying263 rfl inf263 rfl
       have HS := HS.ke [4]
       cases H
       exact At.retv3 rfl ⟨_, rfl, hv40⟩ rfl rfl ⟨_, rfl, rfl, HS⟩
      ·refine W.r (X.load underlying5 rfl rfl ((rdC.at 4 hr0 HS rfl).cellI c8.1 c8.2)) rfl (go ?_)
       refine V.cm H rfl (fun _ H => go ?_) (fun _ H => go ?_)
       ·refine W.r (X.quo rfl rfl (by decide)) rfl (go ?_)
        refine W.r (X.and rfl rfl) rfl (go ?_)
        refine W.sr 2 HS rfl rfl rfl fun w HS => go ?_
        refine W.sr 3 HS rfl rfl rfl fun w HS => go ?_
        have HS := HS.fr 2
        obtain ⟨_, HS⟩ := api_Ctl.open HS
        refine W.ss HS rfl rfl rfl rfl fun w HS => go ?_
        have hv44 := run_loadSt (P := Tryz.prog) (p := 0) 0 [vi x20.Kind, vi x20.Ns, vi (w64 (t33.tdiv (2))), vb (decide ((iand .i64 t33 (1)) = 1))] HS rfl underlying263 rfl inf263 rfl
        have HS := HS.ke [4]
        cases H
        exact At.retv3 rfl ⟨_, rfl, hv44⟩ rfl rfl ⟨_, rfl, rfl, HS⟩
       ·refine W.r (X.bd (Value.agg #[vi (0), vi (0), vi (0), vb false]) rfl (fun _ => by kernel_rfl)) rfl ?_
        have HS := HS.fr 2
        obtain ⟨_, HS⟩ := api_Ctl.open HS
        refine W.ss HS rfl rfl rfl rfl fun w HS => go ?_
        have hv47 := run_loadSt (P := Tryz.prog) (p := 0) 0 [vi (0), vi (0), vi (0), vb false] HS rfl underlying263 rfl inf263 rfl
        have HS := HS.ke [4]
        cases H
        exact At.retv3 rfl ⟨_, rfl, hv47⟩ rfl rfl ⟨_, rfl, rfl, HS⟩
 ·refine W.r (X.bd (Value.agg #[vi (0), vi (0), vi (0), vb false]) rfl (fun _ => by kernel_rfl)) rfl ?_
  refine W.ss HS rfl rfl rfl rfl fun w HS => go ?_
  have hv52 := run_loadSt (P := Tryz.prog) (p := 0) 0 [vi (0), vi (0), vi (0), vb false] HS rfl underlying263 rfl inf263 rfl
  have HS := HS.ke [1]
  cases H
  exact At.retv3 rfl ⟨_, rfl, hv52⟩ rfl rfl ⟨_, rfl, rfl, HS⟩
def arq_Arq_ahead.f (a0 : arq_Arq) (a1 : Int) : Option Bool := ((serial_Dist.f a0.tag a1 65536).bind fun t1 => (if t1 ≥ 1 then some (decide (t1 < 32768)) else some false))
theorem arq_Arq_ahead.calls (H : arq_Arq_ahead.f a0 a1 = some r) (HS : St [blk b0 (#[vi a0.m, vi a0.t1, vi a0.n2, vi a0.size, vi a0.state, vi a0.tag, vi a0.tries, vb a0.rejected, pt b8_p0, pt b9_p0, pt b10_p0, vs a11_p0 a0.out.length c11_p0, vs a12_p0 a0.inds.length c12_p0, vi a0.sent, vi a0.acked, vi a0.lost]) 156, backlog_Log.at b8_p0 a0.log, reorder_Order.at b9_p0 a0.order, clock_Set.at b10_p0 a0.timers, row 27 1 (.slice a11_p0 a0.out.length c11_p0) a0.out.length d11_p0, tie (El.sl (El.int .u8)) d11_p0 a0.out, row 3 1 (.slice a12_p0 a0.inds.length c12_p0) a0.inds.length (a0.inds.map (Value.int .i64)), R] w0 w) : Calls Tryz.prog 314 #[pt b0, vi a1] w (Ret fun u w => u = vb r ∧ St [blk b0 (#[vi a0.m, vi a0.t1, vi a0.n2, vi a0.size, vi a0.state, vi a0.tag, vi a0.tries, vb a0.rejected, pt b8_p0, pt b9_p0, pt b10_p0, vs a11_p0 a0.out.length c11_p0, vs a12_p0 a0.inds.length c12_p0, vi a0.sent, vi a0.acked, vi a0.lost]) 156, backlog_Log.at b8_p0 a0.log, reorder_Order.at b9_p0 a0.order, clock_Set.at b10_p0 a0.timers, row 27 1 (.slice a11_p0 a0.out.length c11_p0) a0.out.length d11_p0, tie (El.sl (El.int .u8)) d11_p0 a0.out, row 3 1 (.slice a12_p0 a0.inds.length c12_p0) a0.inds.length (a0.inds.map (Value.int .i64)), R] w0 w) := by
 refine calls_enter func314 rfl rfl (go ?_)
 refine W.kl H func309 (fun _ h => serial_Dist.calls h HS.j0) ?_
 rintro t1 _ w H ⟨rfl, HS⟩
 have HS := HS.o0
 refine go ?_
 refine W.cd 14 H rfl (fun _ H => go ?_) (fun _ H => go ?_)
 ·exact rt
 ·exact rt
mutual
def arq_Arq_asked.j0  (x10 : arq_Arq) : Option arq_Arq := some x10
def arq_Arq_asked.j2 (k : Nat) (a0 : arq_Arq) (a1 : Int) (a2 : Bool) (x18 : Bool) : Option arq_Arq := (if x18 = true then ((arq_Arq_fresh.f a0 2).bind fun t21 => ((arq_Arq_tell.f k ({ t21 with tag := a1 } : arq_Arq) ({ Kind := 4, Ns := 0, Nr := 0, Poll := a2 } : api_Ctl)).bind fun t25 => (if a0.state = 2 then (if (t25.inds.length : Int) + ([3] : List Int).length ≤ 1099511627776 then some (({ t25 with inds := t25.inds ++ ([3] : List Int) } : arq_Arq)) else none) else (if (t25.inds.length : Int) + ([1] : List Int).length ≤ 1099511627776 then some (({ t25 with inds := t25.inds ++ ([1] : List Int) } : arq_Arq)) else none)))) else (if a0.state = 0 then ((arq_Arq_tell.f k a0 ({ Kind := 6, Ns := 0, Nr := 0, Poll := false } : api_Ctl)).bind fun t47 => (arq_Arq_asked.j0 t47)) else (arq_Arq_asked.j0 a0)))
def arq_Arq_asked.j1 (k : Nat) (a0 : arq_Arq) (a1 : Int) (a2 : Bool) (x13 : Bool) : Option arq_Arq := (if x13 = true then ((arq_Arq_tell.f k a0 ({ Kind := 4, Ns := 0, Nr := 0, Poll := a2 } : api_Ctl)).bind fun t16 => some t16) else ((arq_Arq_ahead.f a0 a1).bind fun t51 => (if t51 = true then (arq_Arq_asked.j2 k a0 a1 a2 true) else (if a0.state = 1 then (arq_Arq_asked.j2 k a0 a1 a2 (decide (a1 = a0.tag))) else (arq_Arq_asked.j2 k a0 a1 a2 false)))))
end
def arq_Arq_asked.f (k : Nat) (a0 : arq_Arq) (a1 : Int) (a2 : Bool) : Option arq_Arq := (if a0.state = 3 then some a0 else (if a0.state = 2 then (arq_Arq_asked.j1 k a0 a1 a2 (decide (a1 = a0.tag))) else (arq_Arq_asked.j1 k a0 a1 a2 false)))
theorem arq_Arq_asked.calls (H : arq_Arq_asked.f k a0 a1 a2 = some r) (HS : St [arq_Arq.at b0 a0, R] w0 w) : Calls Tryz.prog 298 #[pt b0, vi a1, vb a2] w (Ret fun u w => u = Value.tuple #[] ∧ St [arq_Arq.at b0 r, R] w0 w) := by
 refine calls_enter func298 rfl rfl ?_
 refine V.scope 1 (go ?_)
 obtain ⟨_, _, _, _, _, _, _, _, _, HS⟩ := arq_Arq.open HS
 refine gs ?_
 refine V.mj (σ := arq_Arq) [] (fun x10 w => St [arq_Arq.at b0 x10, R] w0 w ∧ arq_Arq_asked.j0 x10 = some r) (fun _ => []) ?_ ?_
 ·refine go ?_
  refine V.cd H rfl (fun _ H => go ?_) (fun _ H => ?_)
  ·have HS := arq_Arq.close tv HS
   exact rt
  ·refine V.mj (σ := Bool) [0, 1, 2, 6] (fun x13 w => St [arq_Arq.at b0 a0, R] w0 w ∧ ∃ kf14, kf14 ≤ k ∧ arq_Arq_asked.j1 kf14 a0 a1 a2 x13 = some r) (fun x13 => [(18, vb x13)]) ?_ ?_
   ·refine go ?_
    refine W.cd 20 H rfl (fun _ H => go ?_) (fun _ H => go ?_)
    ·have HS := arq_Arq.close tv HS
     exact At.mt _ ⟨HS, k, by omega, H⟩
    ·have HS := arq_Arq.close tv HS
     exact At.mt _ ⟨HS, k, by omega, H⟩
   ·rintro x13 w ⟨HS, kf14, _, H⟩
    refine V.cv H rfl (fun _ H => go ?_) (fun _ H => ?_)
    ·refine W.r (X.bd (Value.agg #[vi (4), vi (0), vi (0), vb a2]) rfl (fun _ => by kernel_rfl)) rfl ?_
     refine W.kl H func194 (fun _ h => arq_Arq_tell.calls h HS.j1) ?_
     rintro _ _ w H ⟨rfl, HS⟩
     have HS := HS.o1
     refine go ?_
     exact rt
    ·refine V.mj (σ := Bool) [0, 1, 2, 6] (fun x18 w => St [arq_Arq.at b0 a0, R] w0 w ∧ ∃ kf19, kf19 ≤ kf14 ∧ arq_Arq_asked.j2 kf19 a0 a1 a2 x18 = some r) (fun x18 => [(32, vb x18)]) ?_ ?_
     ·refine go ?_
      obtain ⟨_, _, _, _, _, _, _, _, _, HS⟩ := arq_Arq.open HS
      refine W.kl H func314 (fun _ h => arq_Arq_ahead.calls h HS.j7) ?_
      rintro _ _ w H ⟨rfl, HS⟩
      have HS := HS.o7
      refine go ?_
      refine W.cv 36 H rfl (fun _ H => go ?_) (fun _ H => go ?_)
      ·have HS := arq_Arq.close tv HS
       exact At.mt _ ⟨HS, kf14, by omega, H⟩
      ·refine W.cd 42 H rfl (fun _ H => go ?_) (fun _ H => go ?_)
       ·have HS := arq_Arq.close tv HS
        exact At.mt _ ⟨HS, kf14, by omega, H⟩
       ·have HS := arq_Arq.close tv HS
        exact At.mt _ ⟨HS, kf14, by omega, H⟩
     ·rintro x18 w ⟨HS, kf19, _, H⟩
      refine V.cv H rfl (fun _ H => go ?_) (fun _ H => go ?_)
      ·refine At.jump rfl (go ?_)
       refine W.kl H func196 (fun _ h => arq_Arq_fresh.calls h HS.j1) ?_
       rintro _ _ w H ⟨rfl, HS⟩
       have HS := HS.o1
       refine go ?_
       obtain ⟨_, _, _, _, _, _, _, _, _, HS⟩ := arq_Arq.open HS
       refine go ?_
       refine W.sr 5 HS rfl rfl rfl fun w HS => go ?_
       refine W.r (X.bd (Value.agg #[vi (4), vi (0), vi (0), vb a2]) rfl (fun _ => by kernel_rfl)) rfl ?_
       have HS := arq_Arq.close tv HS
       refine W.kl H func194 (fun _ h => arq_Arq_tell.calls h HS.j1) ?_
       rintro _ _ w H ⟨rfl, HS⟩
       have HS := HS.o1
       refine go ?_
       refine V.cd H rfl (fun _ H => go ?_) (fun _ H => go ?_)
       ·obtain ⟨_, _, _, _, _, _, _, _, _, HS⟩ := arq_Arq.open HS
        refine go ?_
        refine W.e (Y.ls (e := 3) (Value.int .i64) ([3] : List Int) HS rfl rfl (fun _ => by kernel_rfl)) rfl ?_
        rintro _ w ⟨_, rfl, HS⟩
        obtain ⟨_, H⟩ := ite_n H
        refine W.e (Y.appF (Value.int .i64) (fun _ => rfl) 7 underlying48 ap3 rfl HS rfl rfl rfl (rdC.at 0 row_rd HS rfl) (by omega) (by omega)) rfl ?_
        rintro _ w ⟨_, _, rfl, HS⟩
        refine go ?_
        refine W.sr 12 HS rfl rfl rfl fun w HS => go ?_
        have HS := (arq_Arq.close tv (HS.b [1, 1, 1, 1, 1, 1, 1])).ke [0, 1]
        exact rt
       ·obtain ⟨_, _, _, _, _, _, _, _, _, HS⟩ := arq_Arq.open HS
        refine go ?_
        refine W.e (Y.ls (e := 3) (Value.int .i64) ([1] : List Int) HS rfl rfl (fun _ => by kernel_rfl)) rfl ?_
        rintro _ w ⟨_, rfl, HS⟩
        obtain ⟨_, H⟩ := ite_n H
        refine W.e (Y.appF (Value.int .i64) (fun _ => rfl) 7 underlying48 ap3 rfl HS rfl rfl rfl (rdC.at 0 row_rd HS rfl) (by omega) (by omega)) rfl ?_
        rintro _ w ⟨_, _, rfl, HS⟩
        refine go ?_
        refine W.sr 12 HS rfl rfl rfl fun w HS => go ?_
        have HS := (arq_Arq.close tv (HS.b [1, 1, 1, 1, 1, 1, 1])).ke [0, 1]
        exact rt
      ·obtain ⟨_, _, _, _, _, _, _, _, _, HS⟩ := arq_Arq.open HS
       refine go ?_
       refine V.cd H rfl (fun _ H => go ?_) (fun _ H => go ?_)
       ·refine W.r (X.bd (Value.agg #[vi (6), vi (0), vi (0), vb false]) rfl (fun _ => by kernel_rfl)) rfl ?_
        have HS := arq_Arq.close tv HS
        refine W.kl H func194 (fun _ h => arq_Arq_tell.calls h HS.j1) ?_
        rintro t47 _ w H ⟨rfl, HS⟩
        have HS := HS.o1
        refine go ?_
        exact At.meet t47 tv ⟨HS, H⟩
       ·have HS := arq_Arq.close tv HS
        exact At.meet a0 tv ⟨HS, H⟩
 ·rintro x10 w ⟨HS, H⟩
  refine go ?_
  exact rt
mutual
def backlog_Log_Next.j0 (a0 : backlog_Log) (x2 : Bool) : Option (Int × List Int × Bool × backlog_Log) := (if x2 = true then some (0, ([] : List Int), false, a0) else (if 0 ≤ a0.out ∧ a0.out < (a0.l.length : Int) then ((backlog_Log_number.f ({ a0 with out := w64 (a0.out + 1) } : backlog_Log) a0.out).bind fun t16 => ((slices_Clone_Sbytebyte.f (a0.l.getD a0.out.toNat [])).bind fun t18 => some (t16, t18, true, ({ a0 with out := w64 (a0.out + 1) } : backlog_Log)))) else none))
end
def backlog_Log_Next.f (a0 : backlog_Log) : Option (Int × List Int × Bool × backlog_Log) := (if a0.out = (a0.l.length : Int) then (backlog_Log_Next.j0 a0 true) else (backlog_Log_Next.j0 a0 (decide (a0.out = a0.window))))
theorem backlog_Log_Next.calls (H : backlog_Log_Next.f a0 = some r) (HS : St [backlog_Log.at b0 a0, R] w0 w) : Calls Tryz.prog 241 #[pt b0] w (Ret fun u w => ∃ aq1 cq1, u = Value.tuple #[vi r.1, vs aq1 r.2.1.length cq1, vb r.2.2.1] ∧ St [rB aq1 cq1 r.2.1, backlog_Log.at b0 r.2.2.2, R] w0 w) := by
 refine calls_enter func241 rfl rfl ?_
 refine V.seq ?_
 refine gs ?_
 refine V.seq ?_
 refine V.mj (σ := Bool) [0] (fun x2 w => St [backlog_Log.at b0 a0, R] w0 w ∧ backlog_Log_Next.j0 a0 x2 = some r) (fun x2 => [(26, vb x2)]) ?_ ?_
 ·obtain ⟨_, _, _, _, HS⟩ := backlog_Log.open HS
  refine ite_c H (fun c22 H => ?_) (fun c22 H => ?_)
  ·apply V.da [] [] [(6, _), (7, _), (8, _), (9, _), (10, _), (11, _), (12, _), (13, _), (14, _), (15, _), (16, _), (17, _), (18, _), (19, _), (20, _), (21, _), (22, _), (23, _), (24, _), (25, _), (26, _)] mo HS
   rfl
   refine T.ff [0, 26] fun w HS => ?_
   have HS := backlog_Log.close tv HS
   exact At.mt _ ⟨HS, H⟩
  ·apply V.da [] [] [(6, _), (7, _), (8, _), (9, _), (10, _), (11, _), (12, _), (13, _), (14, _), (15, _), (16, _), (17, _), (18, _), (19, _), (20, _), (21, _), (22, _), (23, _), (24, _), (25, _), (26, _)] mo HS
   rfl
   refine T.ff [0, 26] fun w HS => ?_
   have HS := backlog_Log.close tv HS
   exact At.mt _ ⟨HS, H⟩
 ·rintro x2 w ⟨HS, H⟩
  refine V.cv H rfl (fun _ H => go ?_) (fun _ H => go ?_)
  ·have HS := row_nilF (Value.int .u8) 5 1 HS
   exact rt
  ·obtain ⟨_, _, _, _, HS⟩ := backlog_Log.open HS
   refine go ?_
   refine W.sr 4 HS rfl rfl rfl fun w HS => go ?_
   obtain ⟨c7, H⟩ := ite_n H
   obtain ⟨_, _, hh⟩ := (rdC.at 1 row_rd HS rfl).some (by decide) c7.1 c7.2; subst hh
   obtain ⟨_, hc11, HS⟩ := St.tie_at 2 HS rfl ([]) c7.1 c7.2
   obtain ⟨_, _, he15, HN⟩ := St.sl_openF (Value.int .u8) (fun t => tie_int t) HS; clear HS; subst he15; have HS := HN
   apply V.da [2, 10] [11, 12, 13] [(38, _), (39, _), (41, _), (42, _), (43, _), (44, _), (45, _), (46, _), (47, _)] mo HS
   rfl
   refine T.e [38, 39] [11, 12, 13] [0, 1] (fun w HS => ?_) ⟨rd, rd, rd, rd, rd, rd, rd, rd, .n1 46 rfl rfl (fun w HS => X.load underlying27 rfl rfl ((rdC.at 2 row_rd HS rfl).cellEl0 (hc11 0 _ rfl))), rds⟩
   have HS := HS.b [1, 1, 1]
   refine Y.kl H func279 (fun _ h => backlog_Log_number.calls h HS.j3) ?_
   rintro _ _ w H ⟨rfl, HS⟩
   have HS := HS.o3
   refine T.nw HS ?_
   refine T.e [47] [] [3, 4, 5, 6, 7, 8, 9] (fun w HS => ?_) ⟨rd, rd, rd, rd, rd, rd, .n1 46 rfl rfl (fun w HS => X.load underlying27 rfl rfl ((rdC.at 1 row_rd HS rfl).cellEl0 (hc11 0 _ rfl))), rds⟩
   refine Y.kl H func189 (fun _ h => slices_Clone_Sbytebyte.calls h HS.j0 (rdC.part 3 fsl.rd rfl)) ?_
   rintro _ _ w H ⟨_, _, rfl, HS⟩
   have HS := HS.o1
   apply T.na [(48, _), (2, _), (3, _), (4, _)] HS
   exact nmk
   refine T.ff [2, 3, 4] fun w HS => ?_
   refine go ?_
   have HS := (backlog_Log.close tv (HS.b [1, 1, 1])).ke [1, 0, 1]
   exact rt
mutual
def arq_Arq_pump.l0 : Nat → Int → Bool → arq_Arq → (List Int) → Option arq_Arq
 | 0, _, _, _, _ => none
 | k + 1, x14, x15, x16, x19 => (if x15 = true then ((arq_Arq_message.f k x16 x14 x19 false).bind fun t31 => ((clock_Set_Left.f t31.timers 0).bind fun t37 => (if t37.2 = true then (arq_Arq_pump.j1 (arq_Arq_pump.l0 k) t31) else ((arq_Arq_start.f t31).bind fun t40 => (arq_Arq_pump.j1 (arq_Arq_pump.l0 k) t40))))) else some x16)
def arq_Arq_pump.j1 (Lq25 : Int → Bool → arq_Arq → (List Int) → Option arq_Arq) (x23 : arq_Arq) : Option arq_Arq := ((backlog_Log_Next.f x23.log).bind fun t29 => (Lq25 t29.1 t29.2.2.1 ({ x23 with log := t29.2.2.2 } : arq_Arq) t29.2.1))
end
def arq_Arq_pump.f (k : Nat) (a0 : arq_Arq) : Option arq_Arq := (if a0.state = 2 then ((backlog_Log_Next.f a0.log).bind fun t5 => (arq_Arq_pump.l0 k t5.1 t5.2.2.1 ({ a0 with log := t5.2.2.2 } : arq_Arq) t5.2.1)) else some a0)
theorem arq_Arq_pump.calls (H : arq_Arq_pump.f k a0 = some r) (HS : St [arq_Arq.at b0 a0, R] w0 w) : Calls Tryz.prog 198 #[pt b0] w (Ret fun u w => u = Value.tuple #[] ∧ St [arq_Arq.at b0 r, R] w0 w) := by
 refine calls_enter func198 rfl rfl (go ?_)
 obtain ⟨_, _, _, _, _, _, _, _, _, HS⟩ := arq_Arq.open HS
 refine go ?_
 refine V.cm H rfl (fun _ H => go ?_) (fun _ H => go ?_)
 ·have HS := HS.b [1]
  refine W.kl H func241 (fun _ h => backlog_Log_Next.calls h HS.j1) ?_
  rintro _ _ w H ⟨_, _, rfl, HS⟩
  have HS := HS.o2
  refine go ?_
  have HS := arq_Arq.close tv (HS.b [2, 1, 1, 1, 1, 1, 1])
  refine V.lj (σ := Int × Bool × arq_Arq × Option Addr × Nat × List Int) [0] (fun kq (x14, x15, x16, ra17, rc18, x19) w => St [arq_Arq.at b0 x16, rB ra17 rc18 x19, R] w0 w ∧ arq_Arq_pump.l0 kq x14 x15 x16 x19 = some r ∧ kq ≤ k) (fun (x14, x15, x16, ra17, rc18, x19) => [(2, vi x14), (3, vs ra17 x19.length rc18), (4, vb x15)]) (_, _, _, _, _, _) ⟨HS, H, Nat.le_refl _⟩ ?_
  rintro kq20 ⟨x14, x15, x16, ra17, rc18, x19⟩ w ⟨HS, H, _⟩
  cases kq20 with
  | zero => exact absurd H (by simp [arq_Arq_pump.l0])
  | succ kq20 =>
   simp only [arq_Arq_pump.l0] at H
   refine go ?_
   refine V.cv H rfl (fun _ H => ?_) (fun _ H => go ?_)
   ·refine gs ?_
    refine V.mj (σ := arq_Arq) [0] (fun x23 w => St [arq_Arq.at b0 x23, R] w0 w ∧ ∃ kl26, kl26 ≤ kq20 ∧ arq_Arq_pump.j1 (arq_Arq_pump.l0 kl26) x23 = some r) (fun _ => []) ?_ ?_
    ·refine go ?_
     have HS := ((St.row_freeze (HS.fr 1)).more 0 rfl (fun _ t => t) fsl.pers).b [2]
     refine W.kl H func242 (fun _ h => arq_Arq_message.calls h HS.j2) ?_
     rintro _ _ w H ⟨rfl, HS⟩
     have HS := HS.o1
     refine go ?_
     obtain ⟨_, _, _, _, _, _, _, _, _, HS⟩ := arq_Arq.open HS
     refine go ?_
     have HS := HS.fr 3
     obtain ⟨hi36, HS⟩ := clock_Set.open HS
     refine W.kl H func223 (fun _ h => clock_Set_Left.calls h HS.j1 (by first | exact hi36 | (simp only [List.length_set]; exact hi36))) ?_
     rintro _ _ w H ⟨rfl, HS⟩
     have HS := HS.o1
     refine go ?_
     refine V.cx H rfl (fun _ H => go ?_) (fun _ H => go ?_)
     ·have HS := (arq_Arq.close tv ((clock_Set.close (by first | exact hi36 | (simp only [List.length_set]; exact hi36)) HS).b [1, 1, 1])).ke [0, 1]
      exact At.mt _ ⟨HS, kq20, by omega, H⟩
     ·have HS := arq_Arq.close tv ((clock_Set.close (by first | exact hi36 | (simp only [List.length_set]; exact hi36)) HS).b [1, 1, 1])
      refine W.kl H func195 (fun _ h => arq_Arq_start.calls h HS.j1) ?_
      rintro _ _ w H ⟨rfl, HS⟩
      have HS := HS.o1
      refine go ?_
      have HS := HS.ke [0, 1]
      exact At.mt _ ⟨HS, kq20, by omega, H⟩
    ·rintro x23 w ⟨HS, kl26, _, H⟩
     refine go ?_
     obtain ⟨_, _, _, _, _, _, _, _, _, HS⟩ := arq_Arq.open HS
     refine go ?_
     have HS := HS.b [1]
     refine W.kl H func241 (fun _ h => backlog_Log_Next.calls h HS.j1) ?_
     rintro _ _ w H ⟨_, _, rfl, HS⟩
     have HS := HS.o2
     refine go ?_
     have HS := arq_Arq.close tv (HS.b [2, 1, 1, 1, 1, 1, 1])
     exact At.rn (_, _, _, _, _, _) ⟨HS, H, by omega⟩
   ·have HS := HS.ke [0, 1]
    exact rt
 ·have HS := arq_Arq.close tv HS
  exact rt
def arq_Arq_accepted.f (k : Nat) (a0 : arq_Arq) : Option arq_Arq := (if a0.state = 1 then ((clock_Set_Stop.f a0.timers 0).bind fun t4 => (if (a0.inds.length : Int) + ([1] : List Int).length ≤ 1099511627776 then ((arq_Arq_pump.f k ({ a0 with state := 2, tries := 0, timers := t4.2, inds := a0.inds ++ ([1] : List Int) } : arq_Arq)).bind fun t12 => some t12) else none)) else (if a0.state = 3 then ((arq_Arq_end.f a0).bind fun t15 => some t15) else some a0))
theorem arq_Arq_accepted.calls (H : arq_Arq_accepted.f k a0 = some r) (HS : St [arq_Arq.at b0 a0, R] w0 w) : Calls Tryz.prog 299 #[pt b0] w (Ret fun u w => u = Value.tuple #[] ∧ St [arq_Arq.at b0 r, R] w0 w) := by
 refine calls_enter func299 rfl rfl (go ?_)
 obtain ⟨_, _, _, _, _, _, _, _, _, HS⟩ := arq_Arq.open HS
 refine go ?_
 refine V.cd H rfl (fun _ H => go ?_) (fun _ H => go ?_)
 ·refine W.sr 4 HS rfl rfl rfl fun w HS => go ?_
  refine W.sr 6 HS rfl rfl rfl fun w HS => go ?_
  have HS := HS.b [3]
  refine W.kl H func240 (fun _ h => clock_Set_Stop.calls h HS.j1) ?_
  rintro _ _ w H ⟨rfl, HS⟩
  have HS := HS.o1
  refine go ?_
  refine W.e (Y.ls (e := 3) (Value.int .i64) ([1] : List Int) HS rfl rfl (fun _ => by kernel_rfl)) rfl ?_
  rintro _ w ⟨_, rfl, HS⟩
  obtain ⟨_, H⟩ := ite_n H
  refine W.e (Y.appF (Value.int .i64) (fun _ => rfl) 7 underlying48 ap3 rfl HS rfl rfl rfl (rdC.at 0 row_rd HS rfl) (by omega) (by omega)) rfl ?_
  rintro _ w ⟨_, _, rfl, HS⟩
  refine go ?_
  refine W.sr 12 HS rfl rfl rfl fun w HS => go ?_
  have HS := arq_Arq.close tv (HS.b [2, 2, 2, 1, 1, 1, 1])
  refine W.kl H func198 (fun _ h => arq_Arq_pump.calls h HS.j1) ?_
  rintro _ _ w H ⟨rfl, HS⟩
  have HS := HS.o1
  refine go ?_
  have HS := HS.ke [0, 1]
  exact rt
 ·refine V.cd H rfl (fun _ H => go ?_) (fun _ H => go ?_)
  ·have HS := arq_Arq.close tv HS
   refine W.kl H func265 (fun _ h => arq_Arq_end.calls h HS.j1) ?_
   rintro _ _ w H ⟨rfl, HS⟩
   have HS := HS.o1
   refine go ?_
   exact rt
  ·have HS := arq_Arq.close tv HS
   exact rt
mutual
def arq_Arq_closed.j0 (k : Nat) (a0 : arq_Arq) (a1 : Int) (x2 : Bool) (x3 : Bool) : Option arq_Arq := (if x3 = true then ((arq_Arq_put.f k a0 a1 ({ Kind := 6, Ns := 0, Nr := 0, Poll := false } : api_Ctl) ([] : List Int)).bind fun t6 => some t6) else ((arq_Arq_tell.f k a0 ({ Kind := 4, Ns := 0, Nr := 0, Poll := x2 } : api_Ctl)).bind fun t8 => ((arq_Arq_end.f t8).bind fun t10 => some t10)))
end
def arq_Arq_closed.f (k : Nat) (a0 : arq_Arq) (a1 : Int) (a2 : Bool) : Option arq_Arq := (if a1 = a0.tag then (if a0.state = 2 then (arq_Arq_closed.j0 k a0 a1 a2 false) else (arq_Arq_closed.j0 k a0 a1 a2 (!(decide (a0.state = 3))))) else (arq_Arq_closed.j0 k a0 a1 a2 true))
theorem arq_Arq_closed.calls (H : arq_Arq_closed.f k a0 a1 a2 = some r) (HS : St [arq_Arq.at b0 a0, R] w0 w) : Calls Tryz.prog 300 #[pt b0, vi a1, vb a2] w (Ret fun u w => u = Value.tuple #[] ∧ St [arq_Arq.at b0 r, R] w0 w) := by
 refine calls_enter func300 rfl rfl ?_
 refine V.seq ?_
 refine V.mj (σ := Bool × Bool) [0, 1] (fun (x2, x3) w => St [arq_Arq.at b0 a0, R] w0 w ∧ ∃ kf4, kf4 ≤ k ∧ arq_Arq_closed.j0 kf4 a0 a1 x2 x3 = some r) (fun (x2, x3) => [(2, vb x2), (25, vb x3)]) ?_ ?_
 ·refine go ?_
  obtain ⟨_, _, _, _, _, _, _, _, _, HS⟩ := arq_Arq.open HS
  refine go ?_
  refine W.cm 12 H rfl (fun _ H => go ?_) (fun _ H => go ?_)
  ·refine W.cm 18 H rfl (fun _ H => go ?_) (fun _ H => go ?_)
   ·have HS := arq_Arq.close tv HS
    exact At.mt (_, _) ⟨HS, k, by omega, H⟩
   ·have HS := arq_Arq.close tv HS
    exact At.mt (_, _) ⟨HS, k, by omega, H⟩
  ·have HS := arq_Arq.close tv HS
   exact At.mt (_, _) ⟨HS, k, by omega, H⟩
 ·rintro ⟨x2, x3⟩ w ⟨HS, kf4, _, H⟩
  refine V.cv H rfl (fun _ H => go ?_) (fun _ H => go ?_)
  ·refine W.r (X.bd (Value.agg #[vi (6), vi (0), vi (0), vb false]) rfl (fun _ => by kernel_rfl)) rfl ?_
   have HS := ((St.row_freeze (row_nilF (Value.int .u8) 5 1 HS)).more 0 rfl (fun _ t => t) fsl.pers).b [2]
   refine W.kl H func236 (fun _ h => arq_Arq_put.calls h HS.j2) ?_
   rintro _ _ w H ⟨rfl, HS⟩
   have HS := HS.o1
   refine go ?_
   have HS := HS.ke [0, 1]
   exact rt
  ·refine W.r (X.bd (Value.agg #[vi (4), vi (0), vi (0), vb x2]) rfl (fun _ => by kernel_rfl)) rfl ?_
   refine W.kl H func194 (fun _ h => arq_Arq_tell.calls h HS.j1) ?_
   rintro _ _ w H ⟨rfl, HS⟩
   have HS := HS.o1
   refine go ?_
   refine W.kl H func265 (fun _ h => arq_Arq_end.calls h HS.j1) ?_
   rintro _ _ w H ⟨rfl, HS⟩
   have HS := HS.o1
   refine go ?_
   exact rt
mutual
def arq_Arq_refused.j1 (a0 : arq_Arq) (a1 : Int) (x7 : Bool) : Option arq_Arq := (if x7 = true then ((arq_Arq_end.f ({ a0 with tag := a1 } : arq_Arq)).bind fun t12 => some t12) else some a0)
def arq_Arq_refused.j0 (a0 : arq_Arq) (a1 : Int) (x2 : Bool) : Option arq_Arq := (if x2 = true then ((arq_Arq_end.f a0).bind fun t5 => some t5) else (if a0.state = 1 then ((arq_Arq_ahead.f a0 a1).bind fun t17 => (arq_Arq_refused.j1 a0 a1 t17)) else (arq_Arq_refused.j1 a0 a1 false)))
end
def arq_Arq_refused.f (a0 : arq_Arq) (a1 : Int) : Option arq_Arq := (if a1 = a0.tag then (arq_Arq_refused.j0 a0 a1 (!(decide (a0.state = 0)))) else (arq_Arq_refused.j0 a0 a1 false))
theorem arq_Arq_refused.calls (H : arq_Arq_refused.f a0 a1 = some r) (HS : St [arq_Arq.at b0 a0, R] w0 w) : Calls Tryz.prog 301 #[pt b0, vi a1] w (Ret fun u w => u = Value.tuple #[] ∧ St [arq_Arq.at b0 r, R] w0 w) := by
 refine calls_enter func301 rfl rfl ?_
 refine gs ?_
 refine V.mj (σ := Bool) [0, 1] (fun x2 w => St [arq_Arq.at b0 a0, R] w0 w ∧ arq_Arq_refused.j0 a0 a1 x2 = some r) (fun x2 => [(4, vb x2)]) ?_ ?_
 ·refine go ?_
  obtain ⟨_, _, _, _, _, _, _, _, _, HS⟩ := arq_Arq.open HS
  refine go ?_
  refine W.cd 11 H rfl (fun _ H => go ?_) (fun _ H => go ?_)
  ·have HS := arq_Arq.close tv HS
   exact At.mt _ ⟨HS, H⟩
  ·have HS := arq_Arq.close tv HS
   exact At.mt _ ⟨HS, H⟩
 ·rintro x2 w ⟨HS, H⟩
  refine V.cv H rfl (fun _ H => go ?_) (fun _ H => ?_)
  ·refine W.kl H func265 (fun _ h => arq_Arq_end.calls h HS.j1) ?_
   rintro _ _ w H ⟨rfl, HS⟩
   have HS := HS.o1
   refine go ?_
   exact rt
  ·refine V.mj (σ := Bool) [0, 1] (fun x7 w => St [arq_Arq.at b0 a0, R] w0 w ∧ arq_Arq_refused.j1 a0 a1 x7 = some r) (fun x7 => [(20, vb x7)]) ?_ ?_
   ·refine go ?_
    obtain ⟨_, _, _, _, _, _, _, _, _, HS⟩ := arq_Arq.open HS
    refine go ?_
    refine W.cd 26 H rfl (fun _ H => go ?_) (fun _ H => go ?_)
    ·refine W.kl H func314 (fun _ h => arq_Arq_ahead.calls h HS.j7) ?_
     rintro _ _ w H ⟨rfl, HS⟩
     have HS := HS.o7
     refine go ?_
     have HS := arq_Arq.close tv HS
     exact At.mt _ ⟨HS, H⟩
    ·have HS := arq_Arq.close tv HS
     exact At.mt _ ⟨HS, H⟩
   ·rintro x7 w ⟨HS, H⟩
    refine V.cv H rfl (fun _ H => go ?_) (fun _ H => go ?_)
    ·obtain ⟨_, _, _, _, _, _, _, _, _, HS⟩ := arq_Arq.open HS
     refine go ?_
     refine W.sr 5 HS rfl rfl rfl fun w HS => go ?_
     have HS := arq_Arq.close tv HS
     refine W.kl H func265 (fun _ h => arq_Arq_end.calls h HS.j1) ?_
     rintro _ _ w H ⟨rfl, HS⟩
     have HS := HS.o1
     refine go ?_
     exact rt
    ·exact rt
def slices_Delete_SSbyteSbyte.f (a0 : List (List Int)) (a1 : Int) (a2 : Int) : Option (List (List Int)) := (if 0 ≤ a1 ∧ a1 ≤ a2 ∧ a2 ≤ (a0.length : Int) then (if a1 = a2 then some a0 else (if 0 ≤ (0 : Int) ∧ (0 : Int) ≤ a1 ∧ a1 ≤ (a0.length : Int) then (if 0 ≤ a2 ∧ a2 ≤ (a0.length : Int) ∧ (a0.length : Int) ≤ (a0.length : Int) then some ((cut a0 (0 : Int) a1) ++ (cut a0 a2 (a0.length : Int))) else none) else none)) else none)
theorem slices_Delete_SSbyteSbyte.calls (H : slices_Delete_SSbyteSbyte.f a0 a1 a2 = some r) (HS : St [row 27 1 (.slice sa0 a0.length sc0) a0.length sd0, tie (El.sl (El.int .u8)) sd0 a0, R] w0 w) : Calls Tryz.prog 322 #[vs sa0 a0.length sc0, vi a1, vi a2] w (Ret fun u w => ∃ aq0 cq0 dq0, u = vs aq0 r.length cq0 ∧ St [row 27 1 (.slice aq0 r.length cq0) r.length dq0, tie (El.sl (El.int .u8)) dq0 r, R] w0 w) := by
 refine calls_enter func322 rfl rfl (go ?_)
 obtain ⟨c1, H⟩ := ite_n H
 refine W.r (X.sl3 underlying53 inf27 rfl rfl rfl rfl c1 (Int.ofNat_le.2 (rdC.at 0 row_rd HS rfl).cap)) rfl (go ?_)
 refine V.cd H rfl (fun _ H => go ?_) (fun _ H => go ?_)
 ·exact rt
 ·obtain ⟨c5, H⟩ := ite_n H
  obtain ⟨c6, H⟩ := ite_n H
  apply V.da [6] [7] [(20, _), (21, _), (22, _), (23, _), (24, _), (25, _)] mo HS
  rfl
  refine T.e [22, 25] [] [0, 1, 2, 3, 4, 5] (fun w HS => ?_) ⟨rd, rd, .n2 20 21 rfl rfl rfl (fun w HS => X.slH underlying53 inf27 rfl rfl c5 (rdC.at 0 row_rd HS rfl).cap), rd, rd, .n2 23 24 rfl rfl rfl (fun w HS => X.slL underlying53 inf27 rfl rfl c6), rds⟩
  have hlt7 : a1 < a2 := by omega
  have hd8 : 0 ≤ a1 ∧ a1 < a2 ∧ a2 ≤ (a0.length : Int) := by omega
  have hc9 : (a0.length : Int) ≤ (sc0 : Int) := Int.ofNat_le.2 (rdC.at 0 row_rd HS rfl).cap
  have hl10 : (((cut a0 (0 : Int) a1) ++ (cut a0 a2 (a0.length : Int))).length : Int) ≤ (a0.length : Int) := by rw [List.length_append, cut_len ⟨by omega, by omega, by omega⟩, cut_len ⟨by omega, by omega, by omega⟩]; omega
  refine ⟨_, Y.appDel (xs := a0) 0 underlying53 ap27 (by decide) HS rfl hd8 rfl rfl (St.tie_one 1 HS rfl), ?_⟩
  rintro _ w ⟨rfl, HS⟩
  have HS := St.tie_app 1 (St.tie_cut (0 : Int) a1 ((St.tie_cut2 1 a2 (a0.length : Int) HS rfl).fr 2)) rfl
  apply T.na [(26, _), (0, _)] HS
  exact nmk
  refine T.ff [0, 7] fun w HS => ?_
  refine go ?_
  refine W.r (X.slC underlying53 inf27 rfl rfl rfl ⟨by omega, hl10⟩ hc9) rfl ?_
  refine W.en (Y.clearTail (n0 := a0.length) 2 underlying53 ap27 rfl rfl HS rfl (Int.ofNat_le.1 hl10) (Int.ofNat_le.1 hc9) rfl) rfl ?_
  rintro _ w HS
  refine go ?_
  have HS := HS.ke [2, 0, 1]
  exact rt
mutual
def backlog_Log_Ack.j0 (a0 : backlog_Log) (t3 : Int) (x8 : Bool) : Option (Int × Bool × backlog_Log) := (if x8 = true then some (0, false, a0) else ((slices_Delete_SSbyteSbyte.f a0.l 0 t3).bind fun t13 => ((backlog_Log_number.f ({ a0 with out := w64 (a0.out - t3), l := t13 } : backlog_Log) t3).bind fun t15 => some (t3, true, ({ a0 with first := t15, out := w64 (a0.out - t3), l := t13 } : backlog_Log)))))
end
def backlog_Log_Ack.f (a0 : backlog_Log) (a1 : Int) : Option (Int × Bool × backlog_Log) := ((serial_Dist.f a0.first a1 a0.m).bind fun t3 => (if a1 < 0 then (backlog_Log_Ack.j0 a0 t3 true) else (if a1 ≥ a0.m then (backlog_Log_Ack.j0 a0 t3 true) else (backlog_Log_Ack.j0 a0 t3 (decide (t3 > a0.out))))))
theorem backlog_Log_Ack.calls (H : backlog_Log_Ack.f a0 a1 = some r) (HS : St [backlog_Log.at b0 a0, R] w0 w) : Calls Tryz.prog 319 #[pt b0, vi a1] w (Ret fun u w => u = Value.tuple #[vi r.1, vb r.2.1] ∧ St [backlog_Log.at b0 r.2.2, R] w0 w) := by
 refine calls_enter func319 rfl rfl (go ?_)
 obtain ⟨_, _, _, _, HS⟩ := backlog_Log.open HS
 apply V.da [9] [10] [(7, _), (8, _), (9, _), (10, _), (11, _), (12, _), (13, _), (14, _), (15, _)] mo HS
 rfl
 refine T.e [10, 11, 15] [] [0, 1, 2, 3, 4, 5, 6, 7, 8] fun w HS => ?_
 refine Y.kl H func309 (fun _ h => serial_Dist.calls h HS.j0) ?_
 rintro t3 _ w H ⟨rfl, HS⟩
 have HS := HS.o0
 apply T.na [(16, _), (6, _)] HS
 exact nmk
 refine T.ff [0, 1, 6] fun w HS => ?_
 refine gs ?_
 refine V.seq ?_
 refine V.mj (σ := Bool) [0, 6] (fun x8 w => St [backlog_Log.at b0 a0, R] w0 w ∧ backlog_Log_Ack.j0 a0 t3 x8 = some r) (fun x8 => [(34, vb x8)]) ?_ ?_
 ·refine go ?_
  refine W.cd 19 H rfl (fun _ H => go ?_) (fun _ H => go ?_)
  ·have HS := backlog_Log.close tv HS
   exact At.mt _ ⟨HS, H⟩
  ·refine W.cd 27 H rfl (fun _ H => go ?_) (fun _ H => go ?_)
   ·have HS := backlog_Log.close tv HS
    exact At.mt _ ⟨HS, H⟩
   ·have HS := backlog_Log.close tv HS
    exact At.mt _ ⟨HS, H⟩
 ·rintro x8 w ⟨HS, H⟩
  refine V.cv H rfl (fun _ H => go ?_) (fun _ H => go ?_)
  ·exact rt
  ·obtain ⟨_, _, _, _, HS⟩ := backlog_Log.open HS
   refine go ?_
   have HS := HS.b [1, 1]
   refine W.kl H func322 (fun _ h => slices_Delete_SSbyteSbyte.calls h HS.j2) ?_
   rintro _ _ w H ⟨_, _, _, rfl, HS⟩
   have HS := HS.o2
   refine go ?_
   refine W.sr 5 HS rfl rfl rfl fun w HS => go ?_
   refine W.sr 4 HS rfl rfl rfl fun w HS => go ?_
   have HS := HS.b [2]
   refine W.kl H func279 (fun _ h => backlog_Log_number.calls h HS.j3) ?_
   rintro _ _ w H ⟨rfl, HS⟩
   have HS := HS.o3
   refine go ?_
   refine W.sr 3 HS rfl rfl rfl fun w HS => go ?_
   have HS := backlog_Log.close tv HS
   exact rt
def arq_Arq_acknowledged.f (k : Nat) (a0 : arq_Arq) (a1 : Int) : Option (Bool × arq_Arq) := ((backlog_Log_Ack.f a0.log a1).bind fun t3 => (if t3.1 = 0 then some (t3.2.1, ({ a0 with log := t3.2.2 } : arq_Arq)) else ((clock_Set_Stop.f a0.timers 0).bind fun t13 => ((backlog_Log_Out.f k t3.2.2).bind fun t17 => (if (t17.length : Int) > 0 then ((arq_Arq_start.f ({ a0 with tries := 0, log := t3.2.2, timers := t13.2, acked := w64 (a0.acked + t3.1) } : arq_Arq)).bind fun t20 => some (t3.2.1, t20)) else some (t3.2.1, ({ a0 with tries := 0, log := t3.2.2, timers := t13.2, acked := w64 (a0.acked + t3.1) } : arq_Arq)))))))
theorem arq_Arq_acknowledged.calls (H : arq_Arq_acknowledged.f k a0 a1 = some r) (HS : St [arq_Arq.at b0 a0, R] w0 w) : Calls Tryz.prog 315 #[pt b0, vi a1] w (Ret fun u w => u = vb r.1 ∧ St [arq_Arq.at b0 r.2, R] w0 w) := by
 refine calls_enter func315 rfl rfl (go ?_)
 obtain ⟨_, _, _, _, _, _, _, _, _, HS⟩ := arq_Arq.open HS
 refine go ?_
 have HS := HS.b [1]
 refine W.kl H func319 (fun _ h => backlog_Log_Ack.calls h HS.j1) ?_
 rintro _ _ w H ⟨rfl, HS⟩
 have HS := HS.o1
 refine go ?_
 refine V.cd H rfl (fun _ H => go ?_) (fun _ H => go ?_)
 ·have HS := arq_Arq.close tv (HS.b [1])
  exact rt
 ·refine W.sr 14 HS rfl rfl rfl fun w HS => go ?_
  refine W.sr 6 HS rfl rfl rfl fun w HS => go ?_
  have HS := HS.b [3]
  refine W.kl H func240 (fun _ h => clock_Set_Stop.calls h HS.j1) ?_
  rintro _ _ w H ⟨rfl, HS⟩
  have HS := HS.o1
  refine go ?_
  have HS := HS.fr 1
  obtain ⟨_, _, _, _, HS⟩ := backlog_Log.open HS
  refine W.kl H func260 (fun _ h => backlog_Log_Out.calls h HS.j3) ?_
  rintro _ _ w H ⟨_, _, rfl, HS⟩
  have HS := HS.o4
  refine go ?_
  refine V.cd H rfl (fun _ H => go ?_) (fun _ H => go ?_)
  ·have HS := arq_Arq.close tv ((backlog_Log.close tv (HS.b [1, 1, 1])).b [3, 0, 2, 1, 1, 1, 1])
   refine W.kl H func195 (fun _ h => arq_Arq_start.calls h HS.j1) ?_
   rintro _ _ w H ⟨rfl, HS⟩
   have HS := HS.o1
   refine go ?_
   have HS := HS.ke [0, 1]
   exact rt
  ·have HS := (arq_Arq.close tv ((backlog_Log.close tv (HS.b [1, 1, 1])).b [3, 0, 2, 1, 1, 1, 1])).ke [0, 1]
   exact rt
def serial_Next.f (a0 : Int) (a1 : Int) : Option Int := ((serial_round.f a0 a1).bind fun t1 => ((serial_round.f (w64 (t1.1 + 1)) t1.2).bind fun t3 => some t3.1))
theorem serial_Next.calls (H : serial_Next.f a0 a1 = some r) (HS : St [R] w0 w) : Calls Tryz.prog 193 #[vi a0, vi a1] w (Ret fun u w => u = vi r ∧ St [R] w0 w) := by
 refine calls_enter func193 rfl rfl (go ?_)
 refine W.kl H func235 (fun _ h => serial_round.calls h HS.j0) ?_
 rintro _ _ w H ⟨rfl, HS⟩
 have HS := HS.o0
 refine go ?_
 refine W.kl H func235 (fun _ h => serial_round.calls h HS.j0) ?_
 rintro _ _ w H ⟨rfl, HS⟩
 have HS := HS.o0
 refine go ?_
 exact rt
mutual
def reorder_Order_Put.l0 : Nat → Int → Bool → reorder_Order → (List Int) → Option (Int × reorder_Order)
 | 0, _, _, _, _ => none
 | k + 1, x26, x27, x28, x31 => (if x27 = true then (if (x28.ready.length : Int) + (([x31] : List (List Int))).length ≤ 1099511627776 then ((serial_Next.f x28.next x28.m).bind fun t43 => (reorder_Order_Put.l0 k (w64 (x26 + 1)) (mhas (mdel x28.kept x28.next) t43) ({ x28 with next := t43, kept := mdel x28.kept x28.next, ready := x28.ready ++ ([x31] : List (List Int)) } : reorder_Order) (mget (mdel x28.kept x28.next) t43 []))) else none) else some (x26, x28))
end
def reorder_Order_Put.f (k : Nat) (a0 : reorder_Order) (a1 : Int) (a2 : List Int) : Option (Int × reorder_Order) := ((serial_Dist.f a0.next a1 a0.m).bind fun t3 => (if ¬ (a0.m = 0) then (if t3 ≥ a0.window then some ((-1), a0) else (if mhas a0.kept ((w64 (a0.next + t3)).tmod a0.m) = true then some (0, a0) else ((slices_Clone_Sbytebyte.f a2).bind fun t17 => (reorder_Order_Put.l0 k 0 (mhas (mput a0.kept ((w64 (a0.next + t3)).tmod a0.m) t17) a0.next) ({ a0 with kept := mput a0.kept ((w64 (a0.next + t3)).tmod a0.m) t17 } : reorder_Order) (mget (mput a0.kept ((w64 (a0.next + t3)).tmod a0.m) t17) a0.next []))))) else none))
theorem reorder_Order_Put.calls (H : reorder_Order_Put.f k a0 a1 a2 = some r) (HS : St [reorder_Order.at b0 a0, R] w0 w) (hr2 : dB R sa2 sc2 a2) : Calls Tryz.prog 320 #[pt b0, vi a1, vs sa2 a2.length sc2] w (Ret fun u w => u = vi r.1 ∧ St [reorder_Order.at b0 r.2, R] w0 w) := by
 refine calls_enter func320 rfl rfl (go ?_)
 obtain ⟨_, _, _, _, _, _, HS⟩ := reorder_Order.open HS
 apply V.da [9] [10] [(13, _), (14, _), (15, _), (16, _), (17, _), (18, _), (19, _), (20, _), (21, _)] mo HS
 rfl
 refine T.e [16, 17, 21] [] [0, 1, 2, 3, 4, 5, 6, 7, 8] fun w HS => ?_
 refine Y.kl H func309 (fun _ h => serial_Dist.calls h HS.j0) ?_
 rintro t3 _ w H ⟨rfl, HS⟩
 have HS := HS.o0
 apply T.na [(22, _), (7, _)] HS
 exact nmk
 refine T.ff [0, 2, 7] fun w HS => ?_
 refine go ?_
 obtain ⟨c5, H⟩ := ite_n H
 apply V.da [] [] [(23, _), (24, _), (25, _), (26, _), (27, _), (28, _), (29, _), (30, _), (31, _), (32, _), (33, _), (1, _)] mo HS
 rfl
 refine T.ff [0, 1, 2, 7] (fun w HS => ?_) ⟨rd, rd, rd, rd, rd, rd, rd, rd, rd, rd, .n2 28 32 rfl rfl rfl (fun w HS => X.rem rfl rfl c5), rds⟩
 refine go ?_
 refine V.cd H rfl (fun _ H => go ?_) (fun _ H => go ?_)
 ·have HS := reorder_Order.close tv HS
  exact rt
 ·have hm12 := St.tieM_has 2 ((w64 (a0.next + t3)).tmod a0.m) HS rfl
  have HS := St.tieM_get 2 ((w64 (a0.next + t3)).tmod a0.m) (z := .slice none 0 0) (d := []) sl_zero HS rfl
  obtain ⟨ea14, em15, hu13, HS⟩ := St.sl_openF (Value.int .u8) (fun t => tie_int t) HS
  refine W.r (X.lookup (z := .slice none 0 0) 2 underlying246 underlying3 ze27 HS rfl rfl rfl hu13 hm12) rfl (go ?_)
  refine V.cv H rfl (fun _ H => go ?_) (fun _ H => go ?_)
  ·have HS := (reorder_Order.close tv (HS.b [1, 1, 1, 1, 1])).ke [0, 1]
   exact rt
  ·apply V.da [6, 7] [] [(50, _), (51, _), (52, _), (53, _), (54, _), (55, _)] mo HS
   rfl
   refine T.e [55] [] [5] fun w HS => ?_
   refine Y.kl H func189 (fun _ h => slices_Clone_Sbytebyte.calls h HS.j0 (rdC.part 6 hr2 rfl)) ?_
   rintro t17 _ w H ⟨at17_0, ct17_0, rfl, HS⟩
   have HS := HS.o1
   refine T.nw HS ?_
   refine T.e [53, 54, 56] [] [0, 1, 2, 3, 4] fun w HS => ?_
   have HS := St.tieM_put ((w64 (a0.next + t3)).tmod a0.m) ((St.sl_close (E := (El.int .u8)) (St.swap (St.put (A := tie (El.int .u8) (t17.map (Value.int .u8)) t17) (fun _ => int_tie) ((St.row_freeze HS).more 0 rfl (fun _ t => t) fsl.pers)))).b [0, 4])
   refine ⟨_, Y.mapUpdate 4 underlying246 underlying3 HS rfl rfl rfl rfl, ?_⟩
   rintro _ w HS
   refine T.nn HS ?_
   refine T.ff [0] fun w HS => ?_
   refine go ?_
   have hm19 := St.tieM_has 0 a0.next HS rfl
   have HS := St.tieM_get 0 a0.next (z := .slice none 0 0) (d := []) sl_zero HS rfl
   obtain ⟨_, _, hu20, HS⟩ := St.sl_openF (Value.int .u8) (fun t => tie_int t) HS
   apply V.da [] [] [(58, _), (59, _), (60, _), (61, _), (62, _), (63, _), (64, _), (65, _), (66, _), (57, _), (67, _), (68, _), (11, _), (12, _)] mo HS
   rfl
   refine T.ff [0, 10, 11, 12] (fun w HS => ?_) ⟨rd, rd, rd, rd, rd, rd, rd, rd, .n2 61 65 rfl rfl rfl (fun w HS => X.lookup (z := .slice none 0 0) 5 underlying246 underlying3 ze27 HS rfl rfl rfl hu20 hm19), rds⟩
   refine go ?_
   have HS := reorder_Order.close tv (HS.b [4, 4, 1, 3, 3])
   refine V.lj (σ := Int × Bool × reorder_Order × Option Addr × Nat × List Int) [0] (fun kq (x26, x27, x28, ra29, rc30, x31) w => St [reorder_Order.at b0 x28, fB ra29 rc30 x31, fB at17_0 ct17_0 t17, fsl 1 (.slice ea14 (mget a0.kept ((w64 (a0.next + t3)).tmod a0.m) []).length em15) (mget a0.kept ((w64 (a0.next + t3)).tmod a0.m) []).length ((mget a0.kept ((w64 (a0.next + t3)).tmod a0.m) []).map (Value.int .u8)), R] w0 w ∧ reorder_Order_Put.l0 kq x26 x27 x28 x31 = some r ∧ kq ≤ k) (fun (x26, x27, x28, ra29, rc30, x31) => [(10, vi x26), (11, vs ra29 x31.length rc30), (12, vb x27)]) (_, _, _, _, _, _) ⟨HS, H, Nat.le_refl _⟩ ?_
   rintro kq32 ⟨x26, x27, x28, ra29, rc30, x31⟩ w ⟨HS, H, _⟩
   cases kq32 with
   | zero => exact absurd H (by simp [reorder_Order_Put.l0])
   | succ kq32 =>
    simp only [reorder_Order_Put.l0] at H
    refine go ?_
    refine V.cv H rfl (fun _ H => go ?_) (fun _ H => go ?_)
    ·obtain ⟨_, _, _, _, _, _, HS⟩ := reorder_Order.open HS
     apply V.da [8] [] [(82, _), (83, _), (84, _), (85, _), (86, _), (87, _), (88, _), (89, _)] mo HS
     rfl
     refine T.e [85, 89] [] [0, 1, 2, 3, 4, 5, 6, 7] fun w HS => ?_
     have HS := St.tieM_del x28.next (HS.fr 2)
     refine ⟨_, Y.delete 2 underlying246 underlying3 HS rfl rfl rfl, ?_⟩
     rintro _ w HS
     refine T.nn HS ?_
     refine T.ff [0, 10, 11] fun w HS => ?_
     refine go ?_
     refine W.e (Y.lc (e := 27) (sz := 1) [vs ra29 x31.length rc30] HS rfl rfl (fun _ => by kernel_rfl)) rfl ?_
     rintro _ w ⟨_, rfl, HS⟩
     have HS := St.tie_cons (((St.sl_close (E := (El.int .u8)) (St.swap (St.put (A := tie (El.int .u8) (x31.map (Value.int .u8)) x31) (fun _ => int_tie) ((St.put (A := tie (El.sl (El.int .u8)) ([]) (([] : List (List Int)))) (fun _ => tie.nil) HS).more 7 rfl (fun _ t => t) fsl.pers)))).fr 1).fr 1)
     obtain ⟨_, H⟩ := ite_n H
     refine W.e (Y.app (xs := x28.ready) (ys := ([x31] : List (List Int))) 5 underlying53 ap27 rfl (by decide) HS rfl rfl rfl (rdC.at 1 row_rd HS rfl) (St.tie_one 0 HS rfl) (by omega) (by omega)) rfl ?_
     rintro _ w ⟨_, _, rfl, HS⟩
     have HS := St.tie_app 1 (HS.fr 6) rfl
     refine go ?_
     refine W.sr 4 HS rfl rfl rfl fun w HS => go ?_
     apply V.da [9, 12] [10, 11] [(100, _), (101, _), (102, _), (103, _), (104, _), (105, _), (106, _), (107, _), (108, _)] mo HS
     rfl
     refine T.e [104, 108] [] [1, 2, 3, 4, 5, 6, 7, 8] fun w HS => ?_
     refine Y.kl H func193 (fun _ h => serial_Next.calls h HS.j0) ?_
     rintro t43 _ w H ⟨rfl, HS⟩
     have HS := HS.o0
     apply T.na [(109, _), (110, _), (111, _)] HS
     exact nmk
     refine T.e [109, 111] [] [0, 10, 11] fun w HS => ?_
     refine Y.sr 2 HS rfl rfl rfl fun _ w HS => ?_
     refine T.nn HS ?_
     refine T.ff [0, 10] fun w HS => ?_
     refine go ?_
     have hm45 := St.tieM_has 3 t43 HS rfl
     have HS := St.tieM_get 3 t43 (z := .slice none 0 0) (d := []) sl_zero HS rfl
     obtain ⟨_, _, hu46, HS⟩ := St.sl_openF (Value.int .u8) (fun t => tie_int t) HS
     apply V.da [] [] [(71, _), (72, _), (73, _), (74, _), (75, _), (76, _), (77, _), (78, _), (79, _), (70, _), (80, _), (81, _), (11, _), (12, _)] mo HS
     rfl
     refine T.ff [0, 10, 11, 12] (fun w HS => ?_) ⟨rd, rd, rd, rd, rd, rd, rd, rd, .n2 74 78 rfl rfl rfl (fun w HS => X.lookup (z := .slice none 0 0) 6 underlying246 underlying3 ze27 HS rfl rfl rfl hu46 hm45), rds⟩
     have HS := (reorder_Order.close tv (HS.b [5, 5, 4, 4, 1])).ke [0, 0, 3, 3, 3]
     exact At.rn (_, _, _, _, _, _) ⟨HS, H, by omega⟩
    ·have HS := HS.ke [0, 3]
     exact rt
def reorder_Order_Gap.f (a0 : reorder_Order) : Option Bool := some (decide ((a0.kept.length : Int) > 0))
theorem reorder_Order_Gap.calls (H : reorder_Order_Gap.f a0 = some r) (HS : St [blk b0 (#[vi a0.m, vi a0.window, vi a0.next, Value.map (some b3_p0), vs a4_p0 a0.ready.length c4_p0]) 248, mblk b3_p0 k3_p0, tieM (El.sl (El.int .u8)) k3_p0 a0.kept, row 27 1 (.slice a4_p0 a0.ready.length c4_p0) a0.ready.length d4_p0, tie (El.sl (El.int .u8)) d4_p0 a0.ready, R] w0 w) : Calls Tryz.prog 321 #[pt b0] w (Ret fun u w => u = vb r ∧ St [blk b0 (#[vi a0.m, vi a0.window, vi a0.next, Value.map (some b3_p0), vs a4_p0 a0.ready.length c4_p0]) 248, mblk b3_p0 k3_p0, tieM (El.sl (El.int .u8)) k3_p0 a0.kept, row 27 1 (.slice a4_p0 a0.ready.length c4_p0) a0.ready.length d4_p0, tie (El.sl (El.int .u8)) d4_p0 a0.ready, R] w0 w) := by
 refine calls_enter func321 rfl rfl (go ?_)
 refine W.r (X.lenMap (m := a0.kept) 1 underlying246 HS rfl (St.tieM_len 2 HS rfl) rfl) rfl (go ?_)
 exact rt
mutual
def arq_Arq_come.j2 (k : Nat)  (x10 : arq_Arq) (x11 : api_Ctl) : Option arq_Arq := ((arq_Arq_tell.f k x10 x11).bind fun t15 => some t15)
def arq_Arq_come.j3 (k : Nat) (x4 : arq_Arq) (x7 : api_Ctl) (x17 : Bool) : Option arq_Arq := (if x17 = true then (arq_Arq_come.j2 k ({ x4 with rejected := true } : arq_Arq) ({ x7 with Kind := 2, Poll := false } : api_Ctl)) else (arq_Arq_come.j2 k x4 x7))
def arq_Arq_come.j1 (k : Nat) (x4 : arq_Arq) (x7 : api_Ctl) : Option arq_Arq := ((reorder_Order_Gap.f x4.order).bind fun t28 => (if t28 = true then (arq_Arq_come.j3 k x4 x7 (!x4.rejected)) else (arq_Arq_come.j3 k x4 x7 false)))
def arq_Arq_come.j0 (k : Nat) (a1 : api_Ctl) (x4 : arq_Arq) : Option arq_Arq := ((reorder_Order_Next.f x4.order).bind fun t37 => (arq_Arq_come.j1 k x4 ({ Kind := 1, Ns := 0, Nr := t37, Poll := a1.Poll } : api_Ctl)))
end
def arq_Arq_come.f (k : Nat) (a0 : arq_Arq) (a1 : api_Ctl) (a2 : List Int) : Option arq_Arq := ((reorder_Order_Put.f k a0.order a1.Ns a2).bind fun t47 => (if t47.1 > 0 then (arq_Arq_come.j0 k a1 ({ a0 with rejected := false, order := t47.2 } : arq_Arq)) else (arq_Arq_come.j0 k a1 ({ a0 with order := t47.2 } : arq_Arq))))
theorem arq_Arq_come.calls (H : arq_Arq_come.f k a0 a1 a2 = some r) (HS : St [arq_Arq.at b0 a0, R] w0 w) (hr2 : dB R sa2 sc2 a2) : Calls Tryz.prog 316 #[pt b0, Value.agg #[vi a1.Kind, vi a1.Ns, vi a1.Nr, vb a1.Poll], vs sa2 a2.length sc2] w (Ret fun u w => u = Value.tuple #[] ∧ St [arq_Arq.at b0 r, R] w0 w) := by
 refine calls_enter func316 rfl rfl (go ?_)
 refine W.e (Y.box HS rfl) rfl ?_
 rintro _ w ⟨nb1, rfl, HS⟩
 refine gs ?_
 refine V.mj (σ := arq_Arq) [0, 4] (fun x4 w => St [api_Ctl.at nb1 a1, arq_Arq.at b0 x4, R] w0 w ∧ ∃ kf5, kf5 ≤ k ∧ arq_Arq_come.j0 kf5 a1 x4 = some r) (fun _ => []) ?_ ?_
 ·refine go ?_
  have HS := HS.fr 1
  obtain ⟨_, _, _, _, _, _, _, _, _, HS⟩ := arq_Arq.open HS
  apply V.da [7] [8] [(7, _), (8, _), (9, _), (10, _), (11, _), (12, _), (13, _)] mo HS
  rfl
  refine T.e [10, 12, 13] [] [0, 1, 2, 3, 4, 5, 6] fun w HS => ?_
  have HS := HS.b [2]
  refine Y.kl H func320 (fun _ h => reorder_Order_Put.calls h HS.j1 (rdC.part 7 hr2 rfl)) ?_
  rintro _ _ w H ⟨rfl, HS⟩
  have HS := HS.o1
  apply T.na [(14, _), (15, _)] HS
  exact nmk
  refine T.ff [0, 4, 15] fun w HS => ?_
  refine go ?_
  refine V.cd H rfl (fun _ H => go ?_) (fun _ H => go ?_)
  ·refine W.sr 7 HS rfl rfl rfl fun w HS => go ?_
   have HS := (arq_Arq.close tv ((api_Ctl.close tv (HS.b [7])).b [2, 2, 1, 1, 1, 1, 1])).b [1]
   exact At.mt _ ⟨HS, k, by omega, H⟩
  ·have HS := (arq_Arq.close tv ((api_Ctl.close tv (HS.b [7])).b [2, 2, 1, 1, 1, 1, 1])).b [1]
   exact At.mt _ ⟨HS, k, by omega, H⟩
 ·rintro x4 w ⟨HS, kf5, _, H⟩
  refine V.mj (σ := Nat × api_Ctl) [0] (fun (nb6, x7) w => St [api_Ctl.at nb6 x7, api_Ctl.at nb1 a1, arq_Arq.at b0 x4, R] w0 w ∧ ∃ kf8, kf8 ≤ kf5 ∧ arq_Arq_come.j1 kf8 x4 x7 = some r) (fun (nb6, x7) => [(6, pt nb6)]) ?_ ?_
  ·have HS := HS.fr 1
   obtain ⟨_, b9_31, _, _, _, _, _, _, _, HS⟩ := arq_Arq.open HS
   have HS := HS.fr 7
   obtain ⟨_, HS⟩ := api_Ctl.open HS
   apply V.da [4, 8, 9] [7] [(19, _), (20, _), (21, _), (22, _), (24, _), (25, _)] mo HS
   rfl
   refine T.two rfl rfl ⟨.mv 0, .nc 19, .fa 20 fo156_9, .ld 21 1 underlying153, .fa 4 fo263_3, .ld 24 0 underlying4, tv⟩ (T.step (es := [8, 9]) _ [(22, pt b9_31)] rfl ⟨.inr ⟨rfl, rfl⟩, tv⟩ (Or.inl rfl) (by intro d hd; cases hd; exact ⟨by decide, rfl, rfl⟩) [] [0, 1, 2, 3] rfl rfl rfl rfl rfl (fun w HS => ?_)) (T.step (es := [4, 9]) _ [] rfl tv (Or.inl rfl) (by intro d hd; cases hd; exact ⟨by decide, rfl, rfl⟩) [7] [] rfl rfl rfl rfl rfl (fun w HS => ?_))
   ·have HS : Sep.St _ w0 w := HS
    have HS := HS.fr 3
    obtain ⟨_, _, _, _, _, _, HS⟩ := reorder_Order.open HS
    refine Y.kl H func280 (fun _ h => reorder_Order_Next.calls h HS.j5) ?_
    rintro t37 _ w H ⟨rfl, HS⟩
    have HS := HS.o5
    apply T.na [(23, _), (26, _)] HS
    exact nmk
    refine T.e [] [] [] (fun w HS => ?_) ⟨rd, rd, .n2 23 25 rfl rfl rfl (fun w HS => X.bd (Value.agg #[vi (1), vi (0), vi t37, vb a1.Poll]) rfl (fun _ => by kernel_rfl)), rds⟩
    refine ⟨_, Y.alloc (z := Value.agg (#[vi (0), vi (0), vi (0), vb false])) HS ze263, ?_⟩
    rintro _ w ⟨_, rfl, HS⟩
    refine T.nw HS ?_
    refine T.e [6, 26] [] [5, 6, 7] (fun w HS => ?_) ⟨rd, rd, .n2 23 25 rfl rfl rfl (fun w HS => X.bd (Value.agg #[vi (1), vi (0), vi t37, vb a1.Poll]) rfl (fun _ => by kernel_rfl)), rds⟩
    refine ⟨_, Y.storeSt (c' := #[vi (1), vi (0), vi t37, vb a1.Poll]) 0 [vi (1), vi (0), vi t37, vb a1.Poll] HS rfl inf263 rfl rfl rfl rfl rfl rfl, ?_⟩
    rintro _ w HS
    refine T.nn HS ?_
    refine T.ff [0, 6] fun w HS => ?_
    have HS := (arq_Arq.close tv ((reorder_Order.close tv ((api_Ctl.close tv ((api_Ctl.close tv HS).b [6])).b [2, 2, 2, 2, 2])).b [3, 3, 0, 2, 2, 2, 2])).b [2, 1]
    exact At.mt (_, _) ⟨HS, kf5, by omega, H⟩
   ·have HS : Sep.St _ w0 w := HS
    refine ⟨_, Y.alloc (z := Value.agg (#[vi (0), vi (0), vi (0), vb false])) HS ze263, ?_⟩
    rintro _ w ⟨_, rfl, HS⟩
    refine T.nw HS ?_
    refine T.e [22] [] [0, 1, 2, 3] fun w HS => ?_
    have HS := HS.fr 4
    obtain ⟨_, _, _, _, _, _, HS⟩ := reorder_Order.open HS
    refine Y.kl H func280 (fun _ h => reorder_Order_Next.calls h HS.j5) ?_
    rintro t43 _ w H ⟨rfl, HS⟩
    have HS := HS.o5
    apply T.na [(23, _), (26, _)] HS
    exact nmk
    refine T.e [6, 26] [] [5, 6, 7] (fun w HS => ?_) ⟨rd, rd, .n2 23 25 rfl rfl rfl (fun w HS => X.bd (Value.agg #[vi (1), vi (0), vi t43, vb a1.Poll]) rfl (fun _ => by kernel_rfl)), rds⟩
    refine ⟨_, Y.storeSt (c' := #[vi (1), vi (0), vi t43, vb a1.Poll]) 5 [vi (1), vi (0), vi t43, vb a1.Poll] HS rfl inf263 rfl rfl rfl rfl rfl rfl, ?_⟩
    rintro _ w HS
    refine T.nn HS ?_
    refine T.ff [0, 6] fun w HS => ?_
    have HS := (arq_Arq.close tv ((reorder_Order.close tv ((api_Ctl.close tv ((api_Ctl.close tv (HS.b [5])).b [6])).b [2, 2, 2, 2, 2])).b [3, 3, 0, 2, 2, 2, 2])).b [2, 1]
    exact At.mt (_, _) ⟨HS, kf5, by omega, H⟩
  ·rintro ⟨nb6, x7⟩ w ⟨HS, kf8, _, H⟩
   refine V.mj (σ := arq_Arq × api_Ctl) [0, 6] (fun (x10, x11) w => St [api_Ctl.at nb6 x11, api_Ctl.at nb1 a1, arq_Arq.at b0 x10, R] w0 w ∧ ∃ kf12, kf12 ≤ kf8 ∧ arq_Arq_come.j2 kf12 x10 x11 = some r) (fun _ => []) ?_ ?_
   ·refine V.mj (σ := Bool) [0, 6] (fun x17 w => St [api_Ctl.at nb6 x7, api_Ctl.at nb1 a1, arq_Arq.at b0 x4, R] w0 w ∧ ∃ kf18, kf18 ≤ kf8 ∧ arq_Arq_come.j3 kf18 x4 x7 x17 = some r) (fun x17 => [(38, vb x17)]) ?_ ?_
    ·refine go ?_
     have HS := HS.fr 2
     obtain ⟨_, _, _, _, _, _, _, _, _, HS⟩ := arq_Arq.open HS
     refine go ?_
     have HS := HS.fr 2
     obtain ⟨_, _, _, _, _, _, HS⟩ := reorder_Order.open HS
     refine W.kl H func321 (fun _ h => reorder_Order_Gap.calls h HS.j5) ?_
     rintro _ _ w H ⟨rfl, HS⟩
     have HS := HS.o5
     refine go ?_
     refine W.cv 32 H rfl (fun _ H => go ?_) (fun _ H => go ?_)
     ·have HS := (arq_Arq.close tv ((reorder_Order.close tv HS).b [1, 1])).b [1, 1]
      exact At.mt _ ⟨HS, kf8, by omega, H⟩
     ·have HS := (arq_Arq.close tv ((reorder_Order.close tv HS).b [1, 1])).b [1, 1]
      exact At.mt _ ⟨HS, kf8, by omega, H⟩
    ·rintro x17 w ⟨HS, kf18, _, H⟩
     refine V.cv H rfl (fun _ H => go ?_) (fun _ H => go ?_)
     ·have HS := HS.fr 2
      obtain ⟨_, _, _, _, _, _, _, _, _, HS⟩ := arq_Arq.open HS
      refine go ?_
      refine W.sr 7 HS rfl rfl rfl fun w HS => go ?_
      have HS := HS.fr 7
      obtain ⟨_, HS⟩ := api_Ctl.open HS
      refine go ?_
      refine W.sr 0 HS rfl rfl rfl fun w HS => go ?_
      refine W.sr 3 HS rfl rfl rfl fun w HS => go ?_
      have HS := (arq_Arq.close tv ((api_Ctl.close tv HS).b [1, 1, 1, 1, 1, 1, 1])).b [1, 1]
      exact At.mt (_, _) ⟨HS, kf18, by omega, H⟩
     ·exact At.mt (_, _) ⟨HS, kf18, by omega, H⟩
   ·rintro ⟨x10, x11⟩ w ⟨HS, kf12, _, H⟩
    refine go ?_
    obtain ⟨_, HS⟩ := api_Ctl.open HS
    refine go ?_
    have HS := HS.b [2]
    refine W.kl H func194 (fun _ h => arq_Arq_tell.calls h HS.j1) ?_
    rintro _ _ w H ⟨rfl, HS⟩
    have HS := HS.o1
    refine go ?_
    have HS := HS.ke [0, 2]
    exact rt
mutual
def arq_Arq_numbered.j3 (k : Nat)  (x27 : arq_Arq) : Option arq_Arq := ((arq_Arq_pump.f k x27).bind fun t29 => some t29)
def arq_Arq_numbered.j2 (k : Nat) (a2 : api_Ctl) (a3 : List Int) (x25 : arq_Arq) : Option arq_Arq := (if a2.Kind = 0 then ((arq_Arq_come.f k x25 a2 a3).bind fun t34 => (arq_Arq_numbered.j3 k t34)) else (arq_Arq_numbered.j3 k x25))
def arq_Arq_numbered.j4 (k : Nat) (a2 : api_Ctl) (a3 : List Int) (x36 : arq_Arq) (x37 : Bool) : Option arq_Arq := (if x37 = true then ((arq_Arq_resend.f k x36).bind fun t40 => (arq_Arq_numbered.j2 k a2 a3 t40)) else (arq_Arq_numbered.j2 k a2 a3 x36))
def arq_Arq_numbered.j1 (k : Nat) (a0 : arq_Arq) (a2 : api_Ctl) (a3 : List Int) (x18 : Bool) : Option arq_Arq := (if x18 = true then ((arq_Arq_tell.f k a0 ({ Kind := 7, Ns := 0, Nr := 0, Poll := false } : api_Ctl)).bind fun t21 => ((arq_Arq_end.f t21).bind fun t23 => some t23)) else ((arq_Arq_acknowledged.f k a0 a2.Nr).bind fun t44 => (if t44.1 = true then (arq_Arq_numbered.j4 k a2 a3 t44.2 (decide (a2.Kind = 2))) else (arq_Arq_numbered.j4 k a2 a3 t44.2 false))))
def arq_Arq_numbered.j0 (k : Nat) (a0 : arq_Arq) (a2 : api_Ctl) (a3 : List Int) (x15 : Bool) : Option arq_Arq := (if x15 = true then some a0 else (if a2.Kind = 0 then (arq_Arq_numbered.j1 k a0 a2 a3 (decide ((a3.length : Int) > a0.size))) else (arq_Arq_numbered.j1 k a0 a2 a3 false)))
end
def arq_Arq_numbered.f (k : Nat) (a0 : arq_Arq) (a1 : Int) (a2 : api_Ctl) (a3 : List Int) : Option arq_Arq := (if a0.state = 0 then ((arq_Arq_put.f k a0 a1 ({ Kind := 6, Ns := 0, Nr := 0, Poll := false } : api_Ctl) ([] : List Int)).bind fun t7 => some t7) else (if a0.state = 2 then (arq_Arq_numbered.j0 k a0 a2 a3 (!(decide (a1 = a0.tag)))) else (arq_Arq_numbered.j0 k a0 a2 a3 true)))
theorem arq_Arq_numbered.calls (H : arq_Arq_numbered.f k a0 a1 a2 a3 = some r) (HS : St [arq_Arq.at b0 a0, R] w0 w) (hr3 : dB R sa3 sc3 a3) : Calls Tryz.prog 302 #[pt b0, vi a1, Value.agg #[vi a2.Kind, vi a2.Ns, vi a2.Nr, vb a2.Poll], vs sa3 a3.length sc3] w (Ret fun u w => u = Value.tuple #[] ∧ St [arq_Arq.at b0 r, R] w0 w) := by
 refine calls_enter func302 rfl rfl (go ?_)
 refine W.e (Y.box HS rfl) rfl ?_
 rintro _ w ⟨nb1, rfl, HS⟩
 refine go ?_
 have HS := HS.fr 1
 obtain ⟨_, _, _, _, _, _, _, _, _, HS⟩ := arq_Arq.open HS
 refine go ?_
 refine V.cd H rfl (fun _ H => go ?_) (fun _ H => ?_)
 ·refine W.r (X.bd (Value.agg #[vi (6), vi (0), vi (0), vb false]) rfl (fun _ => by kernel_rfl)) rfl ?_
  have HS := ((St.row_freeze (row_nilF (Value.int .u8) 5 1 (arq_Arq.close tv HS))).more 0 rfl (fun _ t => t) fsl.pers).b [2]
  refine W.kl H func236 (fun _ h => arq_Arq_put.calls h HS.j2) ?_
  rintro _ _ w H ⟨rfl, HS⟩
  have HS := HS.o1
  refine go ?_
  have HS := HS.ke [0, 2]
  exact rt
 ·refine V.mj (σ := Bool) [0, 3, 6] (fun x15 w => St [api_Ctl.at nb1 a2, arq_Arq.at b0 a0, R] w0 w ∧ ∃ kf16, kf16 ≤ k ∧ arq_Arq_numbered.j0 kf16 a0 a2 a3 x15 = some r) (fun x15 => [(18, vb x15)]) ?_ ?_
  ·refine go ?_
   refine W.cm 24 H rfl (fun _ H => go ?_) (fun _ H => go ?_)
   ·have HS := (arq_Arq.close tv ((api_Ctl.close tv (HS.b [7])).b [1, 1, 1, 1, 1, 1, 1])).b [1]
    exact At.mt _ ⟨HS, k, by omega, H⟩
   ·have HS := (arq_Arq.close tv ((api_Ctl.close tv (HS.b [7])).b [1, 1, 1, 1, 1, 1, 1])).b [1]
    exact At.mt _ ⟨HS, k, by omega, H⟩
  ·rintro x15 w ⟨HS, kf16, _, H⟩
   refine V.cv H rfl (fun _ H => go ?_) (fun _ H => ?_)
   ·have HS := HS.ke [1, 1]
    exact rt
   ·refine V.mj (σ := Bool) [0, 3, 6] (fun x18 w => St [api_Ctl.at nb1 a2, arq_Arq.at b0 a0, R] w0 w ∧ ∃ kf19, kf19 ≤ kf16 ∧ arq_Arq_numbered.j1 kf19 a0 a2 a3 x18 = some r) (fun x18 => [(32, vb x18)]) ?_ ?_
    ·refine go ?_
     obtain ⟨_, HS⟩ := api_Ctl.open HS
     refine go ?_
     refine W.cd 36 H rfl (fun _ H => go ?_) (fun _ H => go ?_)
     ·have HS := HS.fr 1
      obtain ⟨_, _, _, _, _, _, _, _, _, HS⟩ := arq_Arq.open HS
      refine go ?_
      have HS := (arq_Arq.close tv ((api_Ctl.close tv (HS.b [7])).b [1, 1, 1, 1, 1, 1, 1])).b [1]
      exact At.mt _ ⟨HS, kf16, by omega, H⟩
     ·have HS := api_Ctl.close tv HS
      exact At.mt _ ⟨HS, kf16, by omega, H⟩
    ·rintro x18 w ⟨HS, kf19, _, H⟩
     refine V.cv H rfl (fun _ H => go ?_) (fun _ H => ?_)
     ·refine W.r (X.bd (Value.agg #[vi (7), vi (0), vi (0), vb false]) rfl (fun _ => by kernel_rfl)) rfl ?_
      have HS := HS.b [1]
      refine W.kl H func194 (fun _ h => arq_Arq_tell.calls h HS.j1) ?_
      rintro _ _ w H ⟨rfl, HS⟩
      have HS := HS.o1
      refine go ?_
      refine W.kl H func265 (fun _ h => arq_Arq_end.calls h HS.j1) ?_
      rintro _ _ w H ⟨rfl, HS⟩
      have HS := HS.o1
      refine go ?_
      have HS := HS.ke [0, 1]
      exact rt
     ·refine gs ?_
      refine V.mj (σ := arq_Arq) [0, 3, 6] (fun x25 w => St [api_Ctl.at nb1 a2, arq_Arq.at b0 x25, R] w0 w ∧ ∃ kf26, kf26 ≤ kf19 ∧ arq_Arq_numbered.j2 kf26 a2 a3 x25 = some r) (fun _ => []) ?_ ?_
      ·refine V.mj (σ := arq_Arq × Bool) [0, 3, 6] (fun (x36, x37) w => St [api_Ctl.at nb1 a2, arq_Arq.at b0 x36, R] w0 w ∧ ∃ kf38, kf38 ≤ kf19 ∧ arq_Arq_numbered.j4 kf38 a2 a3 x36 x37 = some r) (fun (x36, x37) => [(58, vb x37)]) ?_ ?_
       ·refine go ?_
        obtain ⟨_, HS⟩ := api_Ctl.open HS
        refine go ?_
        have HS := HS.b [1]
        refine W.kl H func315 (fun _ h => arq_Arq_acknowledged.calls h HS.j1) ?_
        rintro _ _ w H ⟨rfl, HS⟩
        have HS := HS.o1
        refine go ?_
        refine W.cv 54 H rfl (fun _ H => go ?_) (fun _ H => go ?_)
        ·have HS := api_Ctl.close tv (HS.b [1])
         exact At.mt (_, _) ⟨HS, kf19, by omega, H⟩
        ·have HS := api_Ctl.close tv (HS.b [1])
         exact At.mt (_, _) ⟨HS, kf19, by omega, H⟩
       ·rintro ⟨x36, x37⟩ w ⟨HS, kf38, _, H⟩
        refine V.cv H rfl (fun _ H => go ?_) (fun _ H => go ?_)
        ·have HS := HS.b [1]
         refine W.kl H func222 (fun _ h => arq_Arq_resend.calls h HS.j1) ?_
         rintro _ _ w H ⟨rfl, HS⟩
         have HS := HS.o1
         refine go ?_
         have HS := HS.b [1]
         exact At.mt _ ⟨HS, kf38, by omega, H⟩
        ·exact At.mt _ ⟨HS, kf38, by omega, H⟩
      ·rintro x25 w ⟨HS, kf26, _, H⟩
       refine V.mj (σ := arq_Arq) [0] (fun x27 w => St [api_Ctl.at nb1 a2, arq_Arq.at b0 x27, R] w0 w ∧ ∃ kf28, kf28 ≤ kf26 ∧ arq_Arq_numbered.j3 kf28 x27 = some r) (fun _ => []) ?_ ?_
       ·refine go ?_
        obtain ⟨_, HS⟩ := api_Ctl.open HS
        refine go ?_
        refine V.cd H rfl (fun _ H => go ?_) (fun _ H => go ?_)
        ·have HS := HS.b [1]
         refine W.kl H func316 (fun _ h => arq_Arq_come.calls h HS.j1 (rdC.part 1 hr3 rfl)) ?_
         rintro _ _ w H ⟨rfl, HS⟩
         have HS := HS.o1
         refine go ?_
         have HS := api_Ctl.close tv (HS.b [1])
         exact At.mt _ ⟨HS, kf26, by omega, H⟩
        ·have HS := api_Ctl.close tv HS
         exact At.mt _ ⟨HS, kf26, by omega, H⟩
       ·rintro x27 w ⟨HS, kf28, _, H⟩
        refine go ?_
        have HS := HS.b [1]
        refine W.kl H func198 (fun _ h => arq_Arq_pump.calls h HS.j1) ?_
        rintro _ _ w H ⟨rfl, HS⟩
        have HS := HS.o1
        refine go ?_
        have HS := HS.ke [0, 1]
        exact rt
mutual
def arq_Arq_Input.j1 (a0 : arq_Arq) (x32 : Bool) : Option arq_Arq := (if x32 = true then ((arq_Arq_end.f a0).bind fun t35 => some t35) else some a0)
def arq_Arq_Input.j0 (k : Nat) (a0 : arq_Arq) (a1 : List Int) (x8 : api_Ctl) (x9 : Int) (x10 : Int) : Option arq_Arq := (if x10 = 0 then (if x8.Kind = 3 then ((arq_Arq_asked.f k a0 (ior .i64 (w64 ((w64 (a1.getD (0 : Int).toNat 0)) * 2 ^ (min (8 : Int).toNat IntKind.i64.bits))) (w64 (a1.getD (1 : Int).toNat 0))) x8.Poll).bind fun t17 => some t17) else (if x8.Kind = 4 then (if (ior .i64 (w64 ((w64 (a1.getD (0 : Int).toNat 0)) * 2 ^ (min (8 : Int).toNat IntKind.i64.bits))) (w64 (a1.getD (1 : Int).toNat 0))) = a0.tag then ((arq_Arq_accepted.f k a0).bind fun t23 => some t23) else some a0) else (if x8.Kind = 5 then ((arq_Arq_closed.f k a0 (ior .i64 (w64 ((w64 (a1.getD (0 : Int).toNat 0)) * 2 ^ (min (8 : Int).toNat IntKind.i64.bits))) (w64 (a1.getD (1 : Int).toNat 0))) x8.Poll).bind fun t26 => some t26) else (if x8.Kind = 6 then ((arq_Arq_refused.f a0 (ior .i64 (w64 ((w64 (a1.getD (0 : Int).toNat 0)) * 2 ^ (min (8 : Int).toNat IntKind.i64.bits))) (w64 (a1.getD (1 : Int).toNat 0)))).bind fun t29 => some t29) else (if x8.Kind = 7 then (if (ior .i64 (w64 ((w64 (a1.getD (0 : Int).toNat 0)) * 2 ^ (min (8 : Int).toNat IntKind.i64.bits))) (w64 (a1.getD (1 : Int).toNat 0))) = a0.tag then (arq_Arq_Input.j1 a0 (decide (a0.state = 2))) else (arq_Arq_Input.j1 a0 false)) else (if 0 ≤ w64 (2 + x9) ∧ w64 (2 + x9) ≤ (a1.length : Int) ∧ (a1.length : Int) ≤ (a1.length : Int) then ((arq_Arq_numbered.f k a0 (ior .i64 (w64 ((w64 (a1.getD (0 : Int).toNat 0)) * 2 ^ (min (8 : Int).toNat IntKind.i64.bits))) (w64 (a1.getD (1 : Int).toNat 0))) x8 (cut a1 (w64 (2 + x9)) (a1.length : Int))).bind fun t41 => some t41) else none)))))) else some a0)
end
def arq_Arq_Input.f (k : Nat) (a0 : arq_Arq) (a1 : List Int) : Option arq_Arq := (if (a1.length : Int) < 2 then some a0 else (if 0 ≤ (0 : Int) ∧ (0 : Int) < (a1.length : Int) then (if 0 ≤ (1 : Int) ∧ (1 : Int) < (a1.length : Int) then (if 0 ≤ (2 : Int) ∧ (2 : Int) ≤ (a1.length : Int) ∧ (a1.length : Int) ≤ (a1.length : Int) then ((control_Read.f k (cut a1 (2 : Int) (a1.length : Int)) a0.m).bind fun t46 => (arq_Arq_Input.j0 k a0 a1 t46.1 t46.2.1 t46.2.2)) else none) else none) else none))
theorem arq_Arq_Input.calls (H : arq_Arq_Input.f k a0 a1 = some r) (HS : St [arq_Arq.at b0 a0, R] w0 w) (hr1 : dB R sa1 sc1 a1) : Calls Tryz.prog 274 #[pt b0, vs sa1 a1.length sc1] w (Ret fun u w => u = Value.tuple #[] ∧ St [arq_Arq.at b0 r, R] w0 w) := by
 refine calls_enter func274 rfl rfl (go ?_)
 refine V.cd H rfl (fun _ H => go ?_) (fun _ H => go ?_)
 ·exact rt
 ·obtain ⟨c3, H⟩ := ite_n H
  obtain ⟨eb4, eo5, hh⟩ := (rdC.at 1 hr1 HS rfl).some (by decide) c3.1 c3.2; subst hh
  obtain ⟨c6, H⟩ := ite_n H
  apply V.da [] [] [(11, _), (12, _), (13, _), (14, _), (15, _), (16, _), (17, _), (18, _), (19, _), (20, _), (4, _)] mo HS
  rfl
  refine T.ff [0, 1, 4] (fun w HS => ?_) ⟨rd, rd, .n1 12 rfl rfl (fun w HS => X.load underlying5 rfl rfl ((rdC.at 1 hr1 HS rfl).cellI c3.1 c3.2)), rd, .n1 14 rfl rfl (fun w HS => X.shl rfl rfl (by decide)), rd, rd, .n1 17 rfl rfl (fun w HS => X.load underlying5 rfl rfl ((rdC.at 1 hr1 HS rfl).cellI c6.1 c6.2)), rd, .n2 15 19 rfl rfl rfl (fun w HS => X.or rfl rfl), rds⟩
  refine gs ?_
  refine V.mj (σ := Nat × api_Ctl × Int × Int) [0, 1, 4] (fun (nb7, x8, x9, x10) w => St [api_Ctl.at nb7 x8, arq_Arq.at b0 a0, R] w0 w ∧ ∃ kf11, kf11 ≤ k ∧ arq_Arq_Input.j0 kf11 a0 a1 x8 x9 x10 = some r) (fun (nb7, x8, x9, x10) => [(5, pt nb7), (6, vi x9), (7, vi x10)]) ?_ ?_
  ·obtain ⟨c43, H⟩ := ite_n H
   obtain ⟨_, _, _, _, _, _, _, _, _, HS⟩ := arq_Arq.open HS
   apply V.da [6, 11, 12] [7, 8, 9, 10, 13, 14] [(22, _), (23, _), (24, _), (25, _), (26, _), (27, _)] mo HS
   rfl
   refine T.two rfl rfl ⟨.mv 1, .n1 22 rfl rfl (fun w HS => X.slL underlying27 inf5 rfl rfl c43), .mv 0, .nc 24, .fa 25 fo156_0, .ld 26 0 underlying3, tv⟩ (T.step (es := [11, 12]) _ [(23, vs (vaddr (some ⟨eb4, eo5, none⟩) sc1 (2 : Int).toNat 1) (cut a1 (2 : Int) (a1.length : Int)).length (sc1 - (2 : Int).toNat)), (27, vi a0.m)] rfl ⟨.inr ⟨rfl, rfl⟩, ⟨.inr ⟨rfl, rfl⟩, tv⟩⟩ (Or.inl rfl) (by intro d hd; cases hd; exact ⟨by decide, rfl, rfl⟩) [13, 14] [0, 1, 2, 3, 4, 5] rfl rfl rfl rfl rfl (fun w HS => ?_)) (T.step (es := [6, 12]) _ [] rfl tv (Or.inl rfl) (by intro d hd; cases hd; exact ⟨by decide, rfl, rfl⟩) [7, 8, 9, 10, 13, 14] [] rfl rfl rfl rfl rfl (fun w HS => ?_))
   ·have HS : Sep.St _ w0 w := HS
    refine Y.kl H func297 (fun _ h => control_Read.calls h HS.j0 (rdC.part 7 (rdC.subM hr1 c43) rfl)) ?_
    rintro t46 _ w H ⟨rfl, HS⟩
    have HS := HS.o0
    apply T.na [(28, _), (21, _), (29, _), (30, _), (31, _)] HS
    exact nmk
    refine T.e [] [13, 14] [] fun w HS => ?_
    refine ⟨_, Y.alloc (z := Value.agg (#[vi (0), vi (0), vi (0), vb false])) HS ze263, ?_⟩
    rintro _ w ⟨_, rfl, HS⟩
    refine T.nw HS ?_
    refine T.e [5, 29] [] [7, 8] fun w HS => ?_
    refine ⟨_, Y.storeSt (c' := #[vi t46.1.Kind, vi t46.1.Ns, vi t46.1.Nr, vb t46.1.Poll]) 0 [vi t46.1.Kind, vi t46.1.Ns, vi t46.1.Nr, vb t46.1.Poll] HS rfl inf263 rfl rfl rfl rfl rfl rfl, ?_⟩
    rintro _ w HS
    apply T.na [(6, _), (7, _)] HS
    exact nmk
    refine T.ff [0, 1, 4, 5, 6, 7] fun w HS => ?_
    have HS := (arq_Arq.close tv ((api_Ctl.close tv HS).b [1, 1, 1, 1, 1, 1, 1])).b [1]
    exact At.mt (_, _, _, _) ⟨HS, k, by omega, H⟩
   ·have HS : Sep.St _ w0 w := HS
    refine ⟨_, Y.alloc (z := Value.agg (#[vi (0), vi (0), vi (0), vb false])) HS ze263, ?_⟩
    rintro _ w ⟨_, rfl, HS⟩
    refine T.nw HS ?_
    refine T.e [23, 27] [13, 14] [0, 1, 2, 3, 4, 5] (fun w HS => ?_) ⟨rd, .n1 22 rfl rfl (fun w HS => X.slL underlying27 inf5 rfl rfl c43), rds⟩
    refine Y.kl H func297 (fun _ h => control_Read.calls h HS.j0 (rdC.part 8 (rdC.subM hr1 c43) rfl)) ?_
    rintro t50 _ w H ⟨rfl, HS⟩
    have HS := HS.o0
    apply T.na [(28, _), (21, _), (29, _), (30, _), (31, _)] HS
    exact nmk
    refine T.e [5, 29] [] [7, 8] fun w HS => ?_
    refine ⟨_, Y.storeSt (c' := #[vi t50.1.Kind, vi t50.1.Ns, vi t50.1.Nr, vb t50.1.Poll]) 0 [vi t50.1.Kind, vi t50.1.Ns, vi t50.1.Nr, vb t50.1.Poll] HS rfl inf263 rfl rfl rfl rfl rfl rfl, ?_⟩
    rintro _ w HS
    apply T.na [(6, _), (7, _)] HS
    exact nmk
    refine T.ff [0, 1, 4, 5, 6, 7] fun w HS => ?_
    have HS := (arq_Arq.close tv ((api_Ctl.close tv HS).b [1, 1, 1, 1, 1, 1, 1])).b [1]
    exact At.mt (_, _, _, _) ⟨HS, k, by omega, H⟩
  ·rintro ⟨nb7, x8, x9, x10⟩ w ⟨HS, kf11, _, H⟩
   refine go ?_
   refine V.cm H rfl (fun _ H => go ?_) (fun _ H => go ?_)
   ·obtain ⟨_, HS⟩ := api_Ctl.open HS
    refine go ?_
    refine V.cd H rfl (fun _ H => go ?_) (fun _ H => go ?_)
    ·have HS := HS.b [1]
     refine W.kl H func298 (fun _ h => arq_Arq_asked.calls h HS.j1) ?_
     rintro _ _ w H ⟨rfl, HS⟩
     have HS := HS.o1
     refine go ?_
     have HS := HS.ke [0, 1]
     exact rt
    ·refine V.cd H rfl (fun _ H => go ?_) (fun _ H => go ?_)
     ·have HS := HS.fr 1
      obtain ⟨_, _, _, _, _, _, _, _, _, HS⟩ := arq_Arq.open HS
      refine go ?_
      refine V.cd H rfl (fun _ H => go ?_) (fun _ H => go ?_)
      ·have HS := arq_Arq.close tv HS
       refine W.kl H func299 (fun _ h => arq_Arq_accepted.calls h HS.j1) ?_
       rintro _ _ w H ⟨rfl, HS⟩
       have HS := HS.o1
       refine go ?_
       have HS := HS.ke [0, 1]
       exact rt
      ·have HS := (arq_Arq.close tv HS).ke [0, 1]
       exact rt
     ·refine V.cd H rfl (fun _ H => go ?_) (fun _ H => go ?_)
      ·have HS := HS.b [1]
       refine W.kl H func300 (fun _ h => arq_Arq_closed.calls h HS.j1) ?_
       rintro _ _ w H ⟨rfl, HS⟩
       have HS := HS.o1
       refine go ?_
       have HS := HS.ke [0, 1]
       exact rt
      ·refine V.cd H rfl (fun _ H => go ?_) (fun _ H => go ?_)
       ·have HS := HS.b [1]
        refine W.kl H func301 (fun _ h => arq_Arq_refused.calls h HS.j1) ?_
        rintro _ _ w H ⟨rfl, HS⟩
        have HS := HS.o1
        refine go ?_
        have HS := HS.ke [0, 1]
        exact rt
       ·refine V.cd H rfl (fun _ H => ?_) (fun _ H => ?_)
        ·refine V.mj (σ := Bool) [0] (fun x32 w => St [api_Ctl.at nb7 x8, arq_Arq.at b0 a0, R] w0 w ∧ arq_Arq_Input.j1 a0 x32 = some r) (fun x32 => [(87, vb x32)]) ?_ ?_
         ·refine go ?_
          have HS := HS.fr 1
          obtain ⟨_, _, _, _, _, _, _, _, _, HS⟩ := arq_Arq.open HS
          refine go ?_
          refine W.cd 81 H rfl (fun _ H => go ?_) (fun _ H => go ?_)
          ·have HS := (arq_Arq.close tv ((api_Ctl.close tv (HS.b [7])).b [1, 1, 1, 1, 1, 1, 1])).b [1]
           exact At.mt _ ⟨HS, H⟩
          ·have HS := (arq_Arq.close tv ((api_Ctl.close tv (HS.b [7])).b [1, 1, 1, 1, 1, 1, 1])).b [1]
           exact At.mt _ ⟨HS, H⟩
         ·rintro x32 w ⟨HS, H⟩
          refine V.cv H rfl (fun _ H => go ?_) (fun _ H => go ?_)
          ·have HS := HS.b [1]
           refine W.kl H func265 (fun _ h => arq_Arq_end.calls h HS.j1) ?_
           rintro _ _ w H ⟨rfl, HS⟩
           have HS := HS.o1
           refine go ?_
           have HS := HS.ke [0, 1]
           exact rt
          ·have HS := HS.ke [1, 1]
           exact rt
        ·obtain ⟨c40, H⟩ := ite_n H
         apply V.da [7] [] [(36, _), (37, _), (38, _), (39, _), (40, _), (41, _), (42, _)] mo HS
         rfl
         refine T.e [36, 37, 38, 42] [] [0, 1, 2, 3, 4, 5, 6] (fun w HS => ?_) ⟨rd, rd, rd, rd, rd, rd, .n2 39 41 rfl rfl rfl (fun w HS => X.slL underlying27 inf5 rfl rfl c40), rds⟩
         have HS := HS.b [1]
         refine Y.kl H func302 (fun _ h => arq_Arq_numbered.calls h HS.j1 (rdC.part 1 (rdC.subM hr1 c40) rfl)) ?_
         rintro _ _ w H ⟨rfl, HS⟩
         have HS := HS.o1
         refine T.nw HS ?_
         refine T.ff [] fun w HS => ?_
         refine go ?_
         have HS := HS.ke [0, 1]
         exact rt
   ·have HS := HS.ke [1, 1]
    exact rt
mutual
def kcode_Read.j0 (a0 : List Int) (x5 : Bool) : Option (Int × Int × Int) := (if x5 = true then some (0, 0, 2) else some (w64 ((w64 (a0.getD (0 : Int).toNat 0)).tdiv (16)), (w64 (a0.getD (0 : Int).toNat 0)).tmod (16), 0))
end
def kcode_Read.f (a0 : List Int) : Option (Int × Int × Int) := (if (a0.length : Int) < 2 then some (0, 0, 3) else (if 0 ≤ (0 : Int) ∧ (0 : Int) < (a0.length : Int) then (if (a0.length : Int) > 2 then (kcode_Read.j0 a0 true) else (if 0 ≤ (1 : Int) ∧ (1 : Int) < (a0.length : Int) then (if (a0.getD (1 : Int).toNat 0) = (icom .u8 (a0.getD (0 : Int).toNat 0)) then (if (w64 ((w64 (a0.getD (0 : Int).toNat 0)).tdiv (16))) > 8 then (kcode_Read.j0 a0 true) else (kcode_Read.j0 a0 (decide (((w64 (a0.getD (0 : Int).toNat 0)).tmod (16)) > 1)))) else (kcode_Read.j0 a0 true)) else none)) else none))
theorem kcode_Read.calls (H : kcode_Read.f a0 = some r) (HS : St [R] w0 w) (hr0 : dB R sa0 sc0 a0) : Calls Tryz.prog 275 #[vs sa0 a0.length sc0] w (Ret fun u w => u = Value.tuple #[vi r.1, vi r.2.1, vi r.2.2] ∧ St [R] w0 w) := by
 refine calls_enter func275 rfl rfl (go ?_)
 refine V.cd H rfl (fun _ H => go ?_) (fun _ H => go ?_)
 ·exact rt
 ·obtain ⟨c2, H⟩ := ite_n H
  obtain ⟨_, _, hh⟩ := (rdC.at 0 hr0 HS rfl).some (by decide) c2.1 c2.2; subst hh
  apply V.da [] [] [(10, _), (11, _), (12, _), (13, _), (14, _), (15, _), (16, _), (17, _), (18, _), (19, _), (5, _), (6, _)] mo HS
  rfl
  refine T.ff [0, 5, 6] (fun w HS => ?_) ⟨rd, rd, .n1 11 rfl rfl (fun w HS => X.load underlying5 rfl rfl ((rdC.at 0 hr0 HS rfl).cellI c2.1 c2.2)), rd, .n1 13 rfl rfl (fun w HS => X.quo rfl rfl (by decide)), rd, rd, .n1 16 rfl rfl (fun w HS => X.load underlying5 rfl rfl ((rdC.at 0 hr0 HS rfl).cellI c2.1 c2.2)), rd, .n1 18 rfl rfl (fun w HS => X.rem rfl rfl (by decide)), rds⟩
  refine gs ?_
  refine V.seq ?_
  refine V.mj (σ := Bool) [5, 6] (fun x5 w => St [R] w0 w ∧ kcode_Read.j0 a0 x5 = some r) (fun x5 => [(40, vb x5)]) ?_ ?_
  ·refine ite_c H (fun c8 H => ?_) (fun c8 H => ?_)
   ·apply V.da [] [] [(20, _), (21, _), (22, _), (23, _), (24, _), (25, _), (26, _), (27, _), (28, _), (29, _), (30, _), (31, _), (32, _), (33, _), (34, _), (35, _), (36, _), (37, _), (38, _), (39, _), (40, _)] mo HS
    rfl
    refine T.ff [5, 6, 40] fun w HS => ?_
    exact At.mt _ ⟨HS, H⟩
   ·obtain ⟨c9, H⟩ := ite_n H
    refine ite_c H (fun c10 H => ?_) (fun c10 H => ?_)
    ·refine ite_c H (fun c11 H => ?_) (fun c11 H => ?_)
     ·apply V.da [] [] [(20, _), (21, _), (22, _), (23, _), (24, _), (25, _), (26, _), (27, _), (28, _), (29, _), (30, _), (31, _), (32, _), (33, _), (34, _), (35, _), (36, _), (37, _), (38, _), (39, _), (40, _)] mo HS
      rfl
      refine T.ff [5, 6, 40] (fun w HS => ?_) ⟨rd, rd, rd, rd, rd, rd, .gw [(25, _), (23, _)] 3 false 23 ⟨rfl, rfl, tv⟩ rfl (sb (dF c8)) (fun w HS => X.load underlying5 rfl rfl ((rdC.at 0 hr0 HS rfl).cellI c9.1 c9.2)), rd, rd, .gw [(28, _), (23, _)] 3 false 23 ⟨rfl, rfl, tv⟩ rfl (sb (dF c8)) (fun w HS => X.load underlying5 rfl rfl ((rdC.at 0 hr0 HS rfl).cellI c2.1 c2.2)), .gw [(29, _), (23, _)] 3 false 23 ⟨rfl, rfl, tv⟩ rfl (sb (dF c8)) (fun w HS => X.com rfl), rds⟩
      exact At.mt _ ⟨HS, H⟩
     ·apply V.da [] [] [(20, _), (21, _), (22, _), (23, _), (24, _), (25, _), (26, _), (27, _), (28, _), (29, _), (30, _), (31, _), (32, _), (33, _), (34, _), (35, _), (36, _), (37, _), (38, _), (39, _), (40, _)] mo HS
      rfl
      refine T.ff [5, 6, 40] (fun w HS => ?_) ⟨rd, rd, rd, rd, rd, rd, .gw [(25, _), (23, _)] 3 false 23 ⟨rfl, rfl, tv⟩ rfl (sb (dF c8)) (fun w HS => X.load underlying5 rfl rfl ((rdC.at 0 hr0 HS rfl).cellI c9.1 c9.2)), rd, rd, .gw [(28, _), (23, _)] 3 false 23 ⟨rfl, rfl, tv⟩ rfl (sb (dF c8)) (fun w HS => X.load underlying5 rfl rfl ((rdC.at 0 hr0 HS rfl).cellI c2.1 c2.2)), .gw [(29, _), (23, _)] 3 false 23 ⟨rfl, rfl, tv⟩ rfl (sb (dF c8)) (fun w HS => X.com rfl), rds⟩
      exact At.mt _ ⟨HS, H⟩
    ·apply V.da [] [] [(20, _), (21, _), (22, _), (23, _), (24, _), (25, _), (26, _), (27, _), (28, _), (29, _), (30, _), (31, _), (32, _), (33, _), (34, _), (35, _), (36, _), (37, _), (38, _), (39, _), (40, _)] mo HS
     rfl
     refine T.ff [5, 6, 40] (fun w HS => ?_) ⟨rd, rd, rd, rd, rd, rd, .gw [(25, _), (23, _)] 3 false 23 ⟨rfl, rfl, tv⟩ rfl (sb (dF c8)) (fun w HS => X.load underlying5 rfl rfl ((rdC.at 0 hr0 HS rfl).cellI c9.1 c9.2)), rd, rd, .gw [(28, _), (23, _)] 3 false 23 ⟨rfl, rfl, tv⟩ rfl (sb (dF c8)) (fun w HS => X.load underlying5 rfl rfl ((rdC.at 0 hr0 HS rfl).cellI c2.1 c2.2)), .gw [(29, _), (23, _)] 3 false 23 ⟨rfl, rfl, tv⟩ rfl (sb (dF c8)) (fun w HS => X.com rfl), rds⟩
     exact At.mt _ ⟨HS, H⟩
  ·rintro x5 w ⟨HS, H⟩
   refine V.cv H rfl (fun _ H => go ?_) (fun _ H => go ?_)
   ·exact rt
   ·exact rt
def aps_Aps_Remote.f (a0 : aps_Aps) (a1 : Int) : Option aps_Aps := ((request_Of.f a1).bind fun t1 => some ({ a0 with remote := t1 } : aps_Aps))
theorem aps_Aps_Remote.calls (H : aps_Aps_Remote.f a0 a1 = some r) (HS : St [aps_Aps.at b0 a0, R] w0 w) : Calls Tryz.prog 276 #[pt b0, vi a1] w (Ret fun u w => u = Value.tuple #[] ∧ St [aps_Aps.at b0 r, R] w0 w) := by
 refine calls_enter func276 rfl rfl (go ?_)
 refine W.kl H func228 (fun _ h => request_Of.calls h HS.j0) ?_
 rintro _ _ w H ⟨rfl, HS⟩
 have HS := HS.o0
 refine go ?_
 obtain ⟨_, HS⟩ := aps_Aps.open HS
 refine go ?_
 refine W.sr 4 HS rfl rfl rfl fun w HS => go ?_
 have HS := aps_Aps.close tv HS
 exact rt
mutual
def station_Station_came.j0 (k : Nat) (a0 : station_Station) (a1 : Int) (a2 : List Int) (x7 : Bool) : Option station_Station := (if x7 = true then some a0 else (if 0 ≤ (1 : Int) ∧ (1 : Int) < (a2.length : Int) then (if 0 ≤ (2 : Int) ∧ (2 : Int) < (a2.length : Int) then (if 0 ≤ (3 : Int) ∧ (3 : Int) < (a2.length : Int) then (if 0 ≤ (4 : Int) ∧ (4 : Int) < (a2.length : Int) then ((twins_Table_Fresh.f k a0.twins (ior .u32 (ior .u32 (ior .u32 (IntKind.u32.wrap ((IntKind.u32.wrap (a2.getD (1 : Int).toNat 0)) * 2 ^ (min (24 : Int).toNat IntKind.u32.bits))) (IntKind.u32.wrap ((IntKind.u32.wrap (a2.getD (2 : Int).toNat 0)) * 2 ^ (min (16 : Int).toNat IntKind.u32.bits)))) (IntKind.u32.wrap ((IntKind.u32.wrap (a2.getD (3 : Int).toNat 0)) * 2 ^ (min (8 : Int).toNat IntKind.u32.bits)))) (IntKind.u32.wrap (a2.getD (4 : Int).toNat 0)))).bind fun t16 => (if t16.1 = true then (if 0 ≤ (5 : Int) ∧ (5 : Int) ≤ (a2.length : Int) ∧ (a2.length : Int) ≤ (a2.length : Int) then ((arq_Arq_Input.f k a0.arq (cut a2 (5 : Int) (a2.length : Int))).bind fun t20 => some ({ a0 with arq := t20, twins := t16.2 } : station_Station)) else none) else (if 0 ≤ a1 ∧ a1 < 2 then (if a1 = 0 then some (({ a0 with twins := t16.2, sides := (({ a0.sides.1 with counts := ({ a0.sides.1.counts with Twins := station_one.f a0.sides.1.counts.Twins } : api_Counts) } : station_side), a0.sides.2) } : station_Station)) else some (({ a0 with twins := t16.2, sides := (a0.sides.1, ({ a0.sides.2 with counts := ({ a0.sides.2.counts with Twins := station_one.f a0.sides.2.counts.Twins } : api_Counts) } : station_side)) } : station_Station))) else none))) else none) else none) else none) else none))
def station_Station_came.j1 (a0 : station_Station) (a2 : List Int) (x34 : Bool) : Option station_Station := (if x34 = true then (if 0 ≤ (1 : Int) ∧ (1 : Int) ≤ (a2.length : Int) ∧ (a2.length : Int) ≤ (a2.length : Int) then ((kcode_Read.f (cut a2 (1 : Int) (a2.length : Int))).bind fun t38 => (if t38.2.2 = 0 then ((aps_Aps_Remote.f a0.aps t38.1).bind fun t43 => some ({ a0 with aps := t43 } : station_Station)) else some a0)) else none) else some a0)
def station_Station_came.j2 (a0 : station_Station) (a2 : List Int) (x46 : Bool) : Option station_Station := (if x46 = true then (if 0 ≤ (1 : Int) ∧ (1 : Int) ≤ (a2.length : Int) ∧ (a2.length : Int) ≤ (a2.length : Int) then ((kcode_Read.f (cut a2 (1 : Int) (a2.length : Int))).bind fun t50 => (if t50.2.2 = 0 then ((aps_Aps_Remote.f a0.aps t50.1).bind fun t55 => some ({ a0 with aps := t55 } : station_Station)) else some a0)) else none) else some a0)
end
def station_Station_came.f (k : Nat) (a0 : station_Station) (a1 : Int) (a2 : List Int) : Option station_Station := (if 0 ≤ (0 : Int) ∧ (0 : Int) < (a2.length : Int) then (if (a2.getD (0 : Int).toNat 0) = 0 then (if (a2.length : Int) ≥ 5 then ((station_Station_twice.f a0).bind fun t27 => (if t27 = true then (station_Station_came.j0 k a0 a1 a2 false) else ((aps_Aps_Line.f a0.aps).bind fun t32 => (station_Station_came.j0 k a0 a1 a2 (!(decide (a1 = t32))))))) else (if (a2.getD (0 : Int).toNat 0) = 1 then (station_Station_came.j1 a0 a2 (decide (a1 = 1))) else (station_Station_came.j1 a0 a2 false))) else (if (a2.getD (0 : Int).toNat 0) = 1 then (station_Station_came.j2 a0 a2 (decide (a1 = 1))) else (station_Station_came.j2 a0 a2 false))) else none)
theorem station_Station_came.calls (H : station_Station_came.f k a0 a1 a2 = some r) (HS : St [station_Station.at b0 a0, R] w0 w) (hr2 : dB R sa2 sc2 a2) : Calls Tryz.prog 233 #[pt b0, vi a1, vs sa2 a2.length sc2] w (Ret fun u w => u = Value.tuple #[] ∧ St [station_Station.at b0 r, R] w0 w) := by
 refine calls_enter func233 rfl rfl (go ?_)
 obtain ⟨c2, H⟩ := ite_n H
 obtain ⟨_, _, hh⟩ := (rdC.at 1 hr2 HS rfl).some (by decide) c2.1 c2.2; subst hh
 refine go ?_
 refine W.r (X.load underlying5 rfl rfl ((rdC.at 1 hr2 HS rfl).cellI c2.1 c2.2)) rfl (go ?_)
 refine W.cd 15 H rfl (fun _ H => go ?_) (fun _ H => ?_)
 ·refine V.cd H rfl (fun _ H => ?_) (fun _ H => ?_)
  ·refine V.seq ?_
   refine V.mj (σ := Bool) [0, 1, 2] (fun x7 w => St [station_Station.at b0 a0, R] w0 w ∧ ∃ kf8, kf8 ≤ k ∧ station_Station_came.j0 kf8 a0 a1 a2 x7 = some r) (fun x7 => [(31, vb x7)]) ?_ ?_
   ·refine go ?_
    obtain ⟨_, _, _, _, _, _, _, _, _, _, HS⟩ := station_Station.open HS
    refine W.kl H func48 (fun _ h => station_Station_twice.calls h HS.j10) ?_
    rintro _ _ w H ⟨rfl, HS⟩
    have HS := HS.o10
    refine go ?_
    refine W.cx 23 H rfl (fun _ H => go ?_) (fun _ H => go ?_)
    ·have HS := station_Station.close tv HS
     exact At.mt _ ⟨HS, k, by omega, H⟩
    ·have HS := HS.fr 2
     obtain ⟨_, HS⟩ := aps_Aps.open HS
     refine W.kl H func47 (fun _ h => aps_Aps_Line.calls h HS.j1) ?_
     rintro _ _ w H ⟨rfl, HS⟩
     have HS := HS.o1
     refine go ?_
     have HS := station_Station.close tv ((aps_Aps.close tv HS).b [1, 1])
     exact At.mt _ ⟨HS, k, by omega, H⟩
   ·rintro x7 w ⟨HS, kf8, _, H⟩
    refine V.cv H rfl (fun _ H => go ?_) (fun _ H => go ?_)
    ·exact rt
    ·obtain ⟨c10, H⟩ := ite_n H
     obtain ⟨c11, H⟩ := ite_n H
     obtain ⟨c12, H⟩ := ite_n H
     obtain ⟨c13, H⟩ := ite_n H
     apply V.da [] [] [(32, _), (33, _), (34, _), (35, _), (36, _), (37, _), (38, _), (39, _), (40, _), (41, _), (42, _), (43, _), (44, _), (45, _), (46, _), (47, _), (48, _), (49, _), (50, _), (51, _), (52, _), (53, _), (6, _)] mo HS
     rfl
     refine T.ff [0, 1, 2, 6] (fun w HS => ?_) ⟨rd, rd, .n1 33 rfl rfl (fun w HS => X.load underlying5 rfl rfl ((rdC.at 1 hr2 HS rfl).cellI c10.1 c10.2)), rd, .n1 35 rfl rfl (fun w HS => X.shl rfl rfl (by decide)), rd, rd, .n1 38 rfl rfl (fun w HS => X.load underlying5 rfl rfl ((rdC.at 1 hr2 HS rfl).cellI c11.1 c11.2)), rd, .n1 40 rfl rfl (fun w HS => X.shl rfl rfl (by decide)), .n2 36 41 rfl rfl rfl (fun w HS => X.or rfl rfl), rd, rd, .n1 44 rfl rfl (fun w HS => X.load underlying5 rfl rfl ((rdC.at 1 hr2 HS rfl).cellI c12.1 c12.2)), rd, .n1 46 rfl rfl (fun w HS => X.shl rfl rfl (by decide)), .n2 42 47 rfl rfl rfl (fun w HS => X.or rfl rfl), rd, rd, .n1 50 rfl rfl (fun w HS => X.load underlying5 rfl rfl ((rdC.at 1 hr2 HS rfl).cellI c13.1 c13.2)), rd, .n2 48 52 rfl rfl rfl (fun w HS => X.or rfl rfl), rds⟩
     refine go ?_
     obtain ⟨_, _, _, _, _, _, _, _, _, _, HS⟩ := station_Station.open HS
     refine go ?_
     have HS := HS.b [3]
     refine W.kl H func273 (fun _ h => twins_Table_Fresh.calls h HS.j1) ?_
     rintro _ _ w H ⟨rfl, HS⟩
     have HS := HS.o1
     refine go ?_
     refine V.cv H rfl (fun _ H => ?_) (fun _ H => go ?_)
     ·obtain ⟨c19, H⟩ := ite_n H
      apply V.da [6] [] [(60, _), (61, _), (62, _), (63, _), (64, _), (65, _)] mo HS
      rfl
      refine T.e [63, 65] [] [0, 1, 2, 3, 4, 5] (fun w HS => ?_) ⟨rd, rd, rd, rd, rd, .n1 64 rfl rfl (fun w HS => X.slL underlying27 inf5 rfl rfl c19), rds⟩
      have HS := HS.b [2]
      refine Y.kl H func274 (fun _ h => arq_Arq_Input.calls h HS.j1 (rdC.part 9 (rdC.subM hr2 c19) rfl)) ?_
      rintro _ _ w H ⟨rfl, HS⟩
      have HS := HS.o1
      refine T.nw HS ?_
      refine T.ff [] fun w HS => ?_
      refine go ?_
      have HS := station_Station.close tv (HS.b [2, 0, 1])
      exact rt
     ·obtain ⟨c22, H⟩ := ite_n H
      refine ite_c H (fun c23 H => ?_) (fun _ H => ?_)
      ·refine W.r (X.indexArK 0 c23 underlying126 inf125 rfl rfl c22.1 c22.2) rfl (go ?_)
       refine W.e (Y.cl func231 (station_one.cell 1 31 HS rfl rfl rfl)) rfl ?_
       rintro _ w ⟨rfl, HS⟩
       refine go ?_
       have HS := station_Station.close tv (HS.b [1, 1, 1])
       exact rt
      ·have hk24 : a1 = 1 := by omega
       refine W.r (X.indexArK 1 hk24 underlying126 inf125 rfl rfl c22.1 c22.2) rfl (go ?_)
       refine W.e (Y.cl func231 (station_one.cell 1 41 HS rfl rfl rfl)) rfl ?_
       rintro _ w ⟨rfl, HS⟩
       refine go ?_
       have HS := station_Station.close tv (HS.b [1, 1, 1])
       exact rt
  ·refine V.mj (σ := Bool) [0, 2] (fun x34 w => St [station_Station.at b0 a0, R] w0 w ∧ station_Station_came.j1 a0 a2 x34 = some r) (fun x34 => [(75, vb x34)]) ?_ ?_
   ·refine go ?_
    refine W.r (X.load underlying5 rfl rfl ((rdC.at 1 hr2 HS rfl).cellI c2.1 c2.2)) rfl (go ?_)
    refine W.cd 80 H rfl (fun _ H => go ?_) (fun _ H => go ?_)
    ·exact At.mt _ ⟨HS, H⟩
    ·exact At.mt _ ⟨HS, H⟩
   ·rintro x34 w ⟨HS, H⟩
    refine V.cv H rfl (fun _ H => go ?_) (fun _ H => go ?_)
    ·obtain ⟨c37, H⟩ := ite_n H
     refine W.r (X.slL underlying27 inf5 rfl rfl c37) rfl ?_
     refine W.kl H func275 (fun _ h => kcode_Read.calls h HS.j0 (rdC.part 1 (rdC.subM hr2 c37) rfl)) ?_
     rintro _ _ w H ⟨rfl, HS⟩
     have HS := HS.o0
     refine go ?_
     refine V.cd H rfl (fun _ H => go ?_) (fun _ H => go ?_)
     ·obtain ⟨_, _, _, _, _, _, _, _, _, _, HS⟩ := station_Station.open HS
      refine go ?_
      have HS := HS.b [2]
      refine W.kl H func276 (fun _ h => aps_Aps_Remote.calls h HS.j1) ?_
      rintro _ _ w H ⟨rfl, HS⟩
      have HS := HS.o1
      refine go ?_
      have HS := station_Station.close tv (HS.b [1, 1])
      exact rt
     ·exact rt
    ·exact rt
 ·refine gs ?_
  refine V.mj (σ := Bool) [0, 2] (fun x46 w => St [station_Station.at b0 a0, R] w0 w ∧ station_Station_came.j2 a0 a2 x46 = some r) (fun x46 => [(75, vb x46)]) ?_ ?_
  ·refine go ?_
   refine W.r (X.load underlying5 rfl rfl ((rdC.at 1 hr2 HS rfl).cellI c2.1 c2.2)) rfl (go ?_)
   refine W.cd 80 H rfl (fun _ H => go ?_) (fun _ H => go ?_)
   ·exact At.mt _ ⟨HS, H⟩
   ·exact At.mt _ ⟨HS, H⟩
  ·rintro x46 w ⟨HS, H⟩
   refine V.cv H rfl (fun _ H => go ?_) (fun _ H => go ?_)
   ·obtain ⟨c49, H⟩ := ite_n H
    refine W.r (X.slL underlying27 inf5 rfl rfl c49) rfl ?_
    refine W.kl H func275 (fun _ h => kcode_Read.calls h HS.j0 (rdC.part 1 (rdC.subM hr2 c49) rfl)) ?_
    rintro _ _ w H ⟨rfl, HS⟩
    have HS := HS.o0
    refine go ?_
    refine V.cd H rfl (fun _ H => go ?_) (fun _ H => go ?_)
    ·obtain ⟨_, _, _, _, _, _, _, _, _, _, HS⟩ := station_Station.open HS
     refine go ?_
     have HS := HS.b [2]
     refine W.kl H func276 (fun _ h => aps_Aps_Remote.calls h HS.j1) ?_
     rintro _ _ w H ⟨rfl, HS⟩
     have HS := HS.o1
     refine go ?_
     have HS := station_Station.close tv (HS.b [1, 1])
     exact rt
    ·exact rt
   ·exact rt
end Go.Proofs.YtgkjmdapodgnfaaGreat

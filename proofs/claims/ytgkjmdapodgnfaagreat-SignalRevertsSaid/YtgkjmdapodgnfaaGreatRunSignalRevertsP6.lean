/- SignalReverts: the functions that its law reaches, as plain functions, and that the machine's calls come to what these say. Conditions: those that stand at each. -/
import Derived.Test.YtgkjmdapodgnfaaGreatRunSignalRevertsP5
set_option linter.all false
set_option maxRecDepth 100000
set_option maxHeartbeats 4000000
set_option synthInstance.maxSize 100000
set_option synthInstance.maxHeartbeats 1000000
namespace Go.Proofs.YtgkjmdapodgnfaaGreat
open Go.RowKit Go.Proofs.YtgkjmdapodgnfaaGreat.Sep Go.Proofs.YtgkjmdapodgnfaaGreat.Walk Go.Proofs.Tryz
attribute [local irreducible] V W At T Code.rounds RdO RdOk
set_option autoImplicit true
set_option relaxedAutoImplicit true
mutual
def pipe_Pipe_Fault.j0 (a0 : pipe_Pipe) (a2 : Int) (a3 : Int) (x15 : Bool) : Option (Bool × pipe_Pipe) := (if x15 = true then some (false, a0) else (if 0 ≤ a2 ∧ a2 < (a0.b.length : Int) then some (true, ({ a0 with b := a0.b.set a2.toNat a3 } : pipe_Pipe)) else none))
def pipe_Pipe_Fault.j1 (a0 : pipe_Pipe) (a2 : Int) (a3 : Int) (x28 : Bool) : Option (Bool × pipe_Pipe) := (if x28 = true then some (false, a0) else ((slices_Insert_Sbytebyte.f a0.b a2 ([a3] : List Int)).bind fun t36 => some (true, ({ a0 with b := t36 } : pipe_Pipe))))
end
def pipe_Pipe_Fault.f (a0 : pipe_Pipe) (a1 : Int) (a2 : Int) (a3 : Int) : Option (Bool × pipe_Pipe) := (if a1 = 0 then some (true, ({ a0 with cut := false, stall := false } : pipe_Pipe)) else (if a1 = 1 then some (true, ({ a0 with cut := true } : pipe_Pipe)) else (if a1 = 2 then some (true, ({ a0 with stall := true } : pipe_Pipe)) else (if a1 = 3 then ((pipe_Pipe_gone.f a0 a2).bind fun t11 => some (true, t11.2)) else (if a1 = 4 then (if a2 < 0 then (pipe_Pipe_Fault.j0 a0 a2 a3 true) else (pipe_Pipe_Fault.j0 a0 a2 a3 (decide (a2 ≥ (a0.b.length : Int))))) else (if a1 = 5 then (if a2 < 0 then (pipe_Pipe_Fault.j1 a0 a2 a3 true) else (if a2 > (a0.b.length : Int) then (pipe_Pipe_Fault.j1 a0 a2 a3 true) else ((pipe_Pipe_Room.f a0).bind fun t42 => (pipe_Pipe_Fault.j1 a0 a2 a3 (decide (t42 = 0)))))) else some (false, a0)))))))
theorem pipe_Pipe_Fault.calls (H : pipe_Pipe_Fault.f a0 a1 a2 a3 = some r) (HS : St [pipe_Pipe.at b0 a0, R] w0 w) : Calls Tryz.prog 96 #[pt b0, vi a1, vi a2, Value.int .u8 a3] w (Ret fun u w => u = vb r.1 ∧ St [pipe_Pipe.at b0 r.2, R] w0 w) := by
 unfold pipe_Pipe_Fault.f at H
 refine calls_enter func96 rfl rfl ?_
 have H : _ = some r := H
 refine go ?_
 refine V.cd H rfl (fun _ H => go ?_) (fun _ H => go ?_)
 ·obtain ⟨_, _, _, HS⟩ := pipe_Pipe.open HS
  refine go ?_
  refine W.sr 2 HS rfl rfl rfl fun w HS => go ?_
  refine W.sr 3 HS rfl rfl rfl fun w HS => go ?_
  have HS := pipe_Pipe.close tv HS
  exact rt
 ·refine V.cd H rfl (fun _ H => go ?_) (fun _ H => go ?_)
  ·obtain ⟨_, _, _, HS⟩ := pipe_Pipe.open HS
   refine go ?_
   refine W.sr 2 HS rfl rfl rfl fun w HS => go ?_
   have HS := pipe_Pipe.close tv HS
   exact rt
  ·refine V.cd H rfl (fun _ H => go ?_) (fun _ H => go ?_)
   ·obtain ⟨_, _, _, HS⟩ := pipe_Pipe.open HS
    refine go ?_
    refine W.sr 3 HS rfl rfl rfl fun w HS => go ?_
    have HS := pipe_Pipe.close tv HS
    exact rt
   ·refine V.cd H rfl (fun _ H => go ?_) (fun _ H => go ?_)
    ·refine W.kl H func142 (fun _ h => pipe_Pipe_gone.calls h HS.j1) ?_
     rintro _ _ w H ⟨_, _, rfl, HS⟩
     have HS := HS.o2
     refine go ?_
     have HS := HS.ke [1, 1]
     exact rt
    ·refine V.cd H rfl (fun _ H => ?_) (fun _ H => go ?_)
     ·refine V.seq ?_
      refine V.mj (σ := Bool) [0, 2, 3] (fun x15 w => St [pipe_Pipe.at b0 a0, R] w0 w ∧ pipe_Pipe_Fault.j0 a0 a2 a3 x15 = some r) (fun x15 => [(45, vb x15)]) ?_ ?_
      ·refine go ?_
       refine W.cd 37 H rfl (fun _ H => go ?_) (fun _ H => go ?_)
       ·exact At.mt _ ⟨HS, H⟩
       ·obtain ⟨_, _, _, HS⟩ := pipe_Pipe.open HS
        refine go ?_
        have HS := pipe_Pipe.close tv HS
        exact At.mt _ ⟨HS, H⟩
      ·rintro x15 w ⟨HS, H⟩
       unfold pipe_Pipe_Fault.j0 at H
       refine V.cv H rfl (fun _ H => go ?_) (fun _ H => go ?_)
       ·exact rt
       ·obtain ⟨_, c1_18, _, HS⟩ := pipe_Pipe.open HS
        refine go ?_
        obtain ⟨c20, H⟩ := ite_n H
        obtain ⟨eb21, eo22, hh⟩ := (rdC.at 1 row_rd HS rfl).some (by decide) c20.1 c20.2; subst hh
        refine go ?_
        refine W.en (Y.storeRowF (Value.int .u8) (fun _ => rfl) 1 HS rfl inf5 rfl rfl c20.1 c20.2) rfl ?_
        rintro _ w HS
        have HS : Sep.St [blk b0 (#[vi a0.room, vs (some ⟨eb21, eo22, none⟩) (a0.b.set a2.toNat a3).length c1_18, vb a0.cut, vb a0.stall]) 187, row 5 1 (.slice (some ⟨eb21, eo22, none⟩) (a0.b.set a2.toNat a3).length c1_18) (a0.b.set a2.toNat a3).length ((a0.b.set a2.toNat a3).map (Value.int .u8)), R] w0 w := by simpa only [List.length_set, List.set_cons_succ, List.set_cons_zero] using HS
        refine W.again 49 (v := vs (some ⟨eb21, eo22, none⟩) (a0.b.set a2.toNat a3).length c1_18) (by rw [List.length_set]; rfl) (go ?_)
        have HS := pipe_Pipe.close tv HS
        exact rt
     ·refine V.cd H rfl (fun _ H => ?_) (fun _ H => go ?_)
      ·refine V.seq ?_
       refine V.mj (σ := Bool) [0, 2, 3] (fun x28 w => St [pipe_Pipe.at b0 a0, R] w0 w ∧ pipe_Pipe_Fault.j1 a0 a2 a3 x28 = some r) (fun x28 => [(70, vb x28)]) ?_ ?_
       ·refine go ?_
        refine W.cd 57 H rfl (fun _ H => go ?_) (fun _ H => go ?_)
        ·exact At.mt _ ⟨HS, H⟩
        ·obtain ⟨_, _, _, HS⟩ := pipe_Pipe.open HS
         refine go ?_
         refine W.cd 66 H rfl (fun _ H => go ?_) (fun _ H => go ?_)
         ·have HS := pipe_Pipe.close tv HS
          exact At.mt _ ⟨HS, H⟩
         ·refine W.kl H func143 (fun _ h => pipe_Pipe_Room.calls h HS.j2) ?_
          rintro _ _ w H ⟨rfl, HS⟩
          have HS := HS.o2
          refine go ?_
          have HS := pipe_Pipe.close tv HS
          exact At.mt _ ⟨HS, H⟩
       ·rintro x28 w ⟨HS, H⟩
        unfold pipe_Pipe_Fault.j1 at H
        refine V.cv H rfl (fun _ H => go ?_) (fun _ H => go ?_)
        ·exact rt
        ·obtain ⟨_, _, _, HS⟩ := pipe_Pipe.open HS
         refine go ?_
         refine W.e (Y.ls (e := 5) (Value.int .u8) ([a3] : List Int) HS rfl rfl (fun _ => by kernel_rfl)) rfl ?_
         rintro _ w ⟨_, rfl, HS⟩
         have HS := HS.b [2]
         refine W.kl H func144 (fun _ h => slices_Insert_Sbytebyte.calls h HS.j2) ?_
         rintro _ _ w H ⟨_, _, rfl, HS⟩
         have HS := HS.o1
         refine go ?_
         refine W.sr 1 HS rfl rfl rfl fun w HS => go ?_
         have HS := pipe_Pipe.close tv (HS.b [1])
         exact rt
      ·exact rt
def world_World_Fault.f (a0 : world_World) (a1 : Int) (a2 : Int) (a3 : Int) (a4 : Int) (a5 : Int) : Option (Bool × world_World) := (if a1 ≥ 0 then (if a1 < 2 then (if a2 ≥ 0 then (if a2 < 2 then (if 0 ≤ a1 ∧ a1 < 2 then (if a1 = 0 then (if 0 ≤ a2 ∧ a2 < 2 then (if a2 = 0 then ((pipe_Pipe_Fault.f a0.ways.1.1.pipe a3 a4 a5).bind fun t11 => some (t11.1, ({ a0 with ways := ((({ a0.ways.1.1 with pipe := t11.2 } : world_way), a0.ways.1.2), a0.ways.2) } : world_World))) else ((pipe_Pipe_Fault.f a0.ways.1.2.pipe a3 a4 a5).bind fun t14 => some (t14.1, ({ a0 with ways := ((a0.ways.1.1, ({ a0.ways.1.2 with pipe := t14.2 } : world_way)), a0.ways.2) } : world_World)))) else none) else (if 0 ≤ a2 ∧ a2 < 2 then (if a2 = 0 then ((pipe_Pipe_Fault.f a0.ways.2.1.pipe a3 a4 a5).bind fun t19 => some (t19.1, ({ a0 with ways := (a0.ways.1, (({ a0.ways.2.1 with pipe := t19.2 } : world_way), a0.ways.2.2)) } : world_World))) else ((pipe_Pipe_Fault.f a0.ways.2.2.pipe a3 a4 a5).bind fun t22 => some (t22.1, ({ a0 with ways := (a0.ways.1, (a0.ways.2.1, ({ a0.ways.2.2 with pipe := t22.2 } : world_way))) } : world_World)))) else none)) else none) else some (false, a0)) else some (false, a0)) else some (false, a0)) else some (false, a0))
theorem world_World_Fault.calls (H : world_World_Fault.f a0 a1 a2 a3 a4 a5 = some r) (HS : St [world_World.at b0 a0, R] w0 w) : Calls Tryz.prog 63 #[pt b0, vi a1, vi a2, vi a3, vi a4, Value.int .u8 a5] w (Ret fun u w => u = vb r.1 ∧ St [world_World.at b0 r.2, R] w0 w) := by
 refine calls_enter func63 rfl rfl (go ?_)
 refine W.inl (Y.cl (vs := [pt b0, vi a1, vi a2]) func95 (calls_enter func95 rfl rfl ?_)) rfl rfl rfl
 refine go ?_
 refine W.inl (Y.cl (vs := [vi a1]) func45 (calls_enter func45 rfl rfl ?_)) rfl rfl rfl
 refine go ?_
 refine W.cd 5 H rfl (fun _ H => go ?_) (fun _ H => go ?_)
 ·refine At.ret1 rfl rfl ⟨_, rfl, ?_⟩
  refine go ?_
  refine W.cm 11 H rfl (fun _ H => go ?_) (fun _ H => go ?_)
  ·refine W.inl (Y.cl (vs := [vi a2]) func45 (calls_enter func45 rfl rfl ?_)) rfl rfl rfl
   refine go ?_
   refine W.cd 5 H rfl (fun _ H => go ?_) (fun _ H => go ?_)
   ·refine At.ret1 rfl rfl ⟨_, rfl, ?_⟩
    refine go ?_
    refine V.cm H rfl (fun _ H => go ?_) (fun _ H => go ?_)
    ·obtain ⟨_, _, _, _, _, _, _, _, _, _, _, _, _, _, _, _, _, _, _, _, _, _, _, _, _, _, _, _, _, _, _, HS⟩ := world_World.open HS
     refine go ?_
     obtain ⟨c7, H⟩ := ite_n H
     refine ite_c H (fun c8 H => ?_) (fun _ H => ?_)
     ·refine W.r (X.indexArK 0 c8 underlying115 inf114 rfl rfl c7.1 c7.2) rfl ?_
      obtain ⟨c9, H⟩ := ite_n H
      refine ite_c H (fun c10 H => ?_) (fun _ H => ?_)
      ·refine W.r (X.indexArK 0 c10 underlying114 inf113 rfl rfl c9.1 c9.2) rfl (go ?_)
       refine At.ret2 rfl rfl rfl ⟨_, rfl, ?_⟩
       refine go ?_
       have HS := HS.b [3]
       refine W.kl H func96 (fun _ h => pipe_Pipe_Fault.calls h HS.j1) ?_
       rintro _ _ w H ⟨rfl, HS⟩
       have HS := HS.o1
       refine go ?_
       have HS := world_World.close tv (HS.b [1, 1, 1])
       exact rt
      ·have hk13 : a2 = 1 := by omega
       refine W.r (X.indexArK 1 hk13 underlying114 inf113 rfl rfl c9.1 c9.2) rfl (go ?_)
       refine At.ret2 rfl rfl rfl ⟨_, rfl, ?_⟩
       refine go ?_
       have HS := HS.b [8]
       refine W.kl H func96 (fun _ h => pipe_Pipe_Fault.calls h HS.j1) ?_
       rintro _ _ w H ⟨rfl, HS⟩
       have HS := HS.o1
       refine go ?_
       have HS := world_World.close tv (HS.b [1, 1, 1, 1, 1, 1, 1, 1])
       exact rt
     ·have hk16 : a1 = 1 := by omega
      refine W.r (X.indexArK 1 hk16 underlying115 inf114 rfl rfl c7.1 c7.2) rfl ?_
      obtain ⟨c17, H⟩ := ite_n H
      refine ite_c H (fun c18 H => ?_) (fun _ H => ?_)
      ·refine W.r (X.indexArK 0 c18 underlying114 inf113 rfl rfl c17.1 c17.2) rfl (go ?_)
       refine At.ret2 rfl rfl rfl ⟨_, rfl, ?_⟩
       refine go ?_
       have HS := HS.b [13]
       refine W.kl H func96 (fun _ h => pipe_Pipe_Fault.calls h HS.j1) ?_
       rintro _ _ w H ⟨rfl, HS⟩
       have HS := HS.o1
       refine go ?_
       have HS := world_World.close tv (HS.b [1, 1, 1, 1, 1, 1, 1, 1, 1, 1, 1, 1, 1])
       exact rt
      ·have hk21 : a2 = 1 := by omega
       refine W.r (X.indexArK 1 hk21 underlying114 inf113 rfl rfl c17.1 c17.2) rfl (go ?_)
       refine At.ret2 rfl rfl rfl ⟨_, rfl, ?_⟩
       refine go ?_
       have HS := HS.b [18]
       refine W.kl H func96 (fun _ h => pipe_Pipe_Fault.calls h HS.j1) ?_
       rintro _ _ w H ⟨rfl, HS⟩
       have HS := HS.o1
       refine go ?_
       have HS := world_World.close tv (HS.b [1, 1, 1, 1, 1, 1, 1, 1, 1, 1, 1, 1, 1, 1, 1, 1, 1, 1])
       exact rt
    ·refine At.ret2 rfl rfl rfl ⟨_, rfl, ?_⟩
     refine go ?_
     exact rt
   ·refine At.ret1 rfl rfl ⟨_, rfl, ?_⟩
    refine go ?_
    refine At.ret2 rfl rfl rfl ⟨_, rfl, ?_⟩
    refine go ?_
    exact rt
  ·refine At.ret2 rfl rfl rfl ⟨_, rfl, ?_⟩
   refine go ?_
   exact rt
 ·refine At.ret1 rfl rfl ⟨_, rfl, ?_⟩
  refine go ?_
  refine At.ret2 rfl rfl rfl ⟨_, rfl, ?_⟩
  refine go ?_
  exact rt
def arq_Arq_Connect.f (k : Nat) (a0 : arq_Arq) : Option (Int × arq_Arq) := (if a0.state = 0 then ((serial_Next.f a0.tag 65536).bind fun t5 => ((arq_Arq_tell.f k ({ a0 with state := 1, tag := t5, tries := 0 } : arq_Arq) ({ Kind := 3, Ns := 0, Nr := 0, Poll := true } : api_Ctl)).bind fun t7 => ((arq_Arq_start.f t7).bind fun t9 => some (0, t9)))) else some (8, a0))
theorem arq_Arq_Connect.calls (H : arq_Arq_Connect.f k a0 = some r) (HS : St [arq_Arq.at b0 a0, R] w0 w) : Calls Tryz.prog 145 #[pt b0] w (Ret fun u w => u = vi r.1 ∧ St [arq_Arq.at b0 r.2, R] w0 w) := by
 refine calls_enter func145 rfl rfl (go ?_)
 obtain ⟨_, _, _, _, _, _, _, _, _, HS⟩ := arq_Arq.open HS
 refine go ?_
 refine V.cm H rfl (fun _ H => go ?_) (fun _ H => go ?_)
 ·refine W.kl H func193 (fun _ h => serial_Next.calls h HS.j0) ?_
  rintro _ _ w H ⟨rfl, HS⟩
  have HS := HS.o0
  refine go ?_
  refine W.sr 5 HS rfl rfl rfl fun w HS => go ?_
  refine W.sr 4 HS rfl rfl rfl fun w HS => go ?_
  refine W.sr 6 HS rfl rfl rfl fun w HS => go ?_
  refine W.r (X.bd (Value.agg #[vi (3), vi (0), vi (0), vb true]) rfl (fun _ => by kernel_rfl)) rfl ?_
  have HS := arq_Arq.close tv HS
  refine W.kl H func194 (fun _ h => arq_Arq_tell.calls h HS.j1) ?_
  rintro _ _ w H ⟨rfl, HS⟩
  have HS := HS.o1
  refine go ?_
  refine W.kl H func195 (fun _ h => arq_Arq_start.calls h HS.j1) ?_
  rintro _ _ w H ⟨rfl, HS⟩
  have HS := HS.o1
  refine go ?_
  exact rt
 ·have HS := arq_Arq.close tv HS
  exact rt
def station_Station_Connect.f (k : Nat) (a0 : station_Station) : Option (Int × station_Station) := ((arq_Arq_Connect.f k a0.arq).bind fun t3 => some (t3.1, ({ a0 with arq := t3.2 } : station_Station)))
theorem station_Station_Connect.calls (H : station_Station_Connect.f k a0 = some r) (HS : St [station_Station.at b0 a0, R] w0 w) : Calls Tryz.prog 97 #[pt b0] w (Ret fun u w => u = vi r.1 ∧ St [station_Station.at b0 r.2, R] w0 w) := by
 refine calls_enter func97 rfl rfl (go ?_)
 obtain ⟨_, _, _, _, _, _, _, _, _, _, HS⟩ := station_Station.open HS
 refine go ?_
 have HS := HS.b [1]
 refine W.kl H func145 (fun _ h => arq_Arq_Connect.calls h HS.j1) ?_
 rintro _ _ w H ⟨rfl, HS⟩
 have HS := HS.o1
 refine go ?_
 have HS := station_Station.close tv (HS.b [1])
 exact rt
mutual
def arq_Arq_Close.j0 (k : Nat) (a0 : arq_Arq) (x2 : Bool) : Option (Int × arq_Arq) := (if x2 = true then some (7, a0) else ((arq_Arq_fresh.f a0 3).bind fun t5 => ((arq_Arq_tell.f k t5 ({ Kind := 5, Ns := 0, Nr := 0, Poll := true } : api_Ctl)).bind fun t7 => ((arq_Arq_start.f t7).bind fun t9 => some (0, t9)))))
end
def arq_Arq_Close.f (k : Nat) (a0 : arq_Arq) : Option (Int × arq_Arq) := (if a0.state = 0 then (arq_Arq_Close.j0 k a0 true) else (arq_Arq_Close.j0 k a0 (decide (a0.state = 3))))
theorem arq_Arq_Close.calls (H : arq_Arq_Close.f k a0 = some r) (HS : St [arq_Arq.at b0 a0, R] w0 w) : Calls Tryz.prog 146 #[pt b0] w (Ret fun u w => u = vi r.1 ∧ St [arq_Arq.at b0 r.2, R] w0 w) := by
 refine calls_enter func146 rfl rfl ?_
 refine V.seq ?_
 refine gs ?_
 refine V.seq ?_
 refine V.mj (σ := Bool) [0] (fun x2 w => St [arq_Arq.at b0 a0, R] w0 w ∧ ∃ kf3, kf3 ≤ k ∧ arq_Arq_Close.j0 kf3 a0 x2 = some r) (fun x2 => [(14, vb x2)]) ?_ ?_
 ·refine go ?_
  obtain ⟨_, _, _, _, _, _, _, _, _, HS⟩ := arq_Arq.open HS
  refine go ?_
  refine W.cd 8 H rfl (fun _ H => go ?_) (fun _ H => go ?_)
  ·have HS := arq_Arq.close tv HS
   exact At.mt _ ⟨HS, k, by omega, H⟩
  ·have HS := arq_Arq.close tv HS
   exact At.mt _ ⟨HS, k, by omega, H⟩
 ·rintro x2 w ⟨HS, kf3, _, H⟩
  refine V.cv H rfl (fun _ H => go ?_) (fun _ H => go ?_)
  ·exact rt
  ·refine W.kl H func196 (fun _ h => arq_Arq_fresh.calls h HS.j1) ?_
   rintro _ _ w H ⟨rfl, HS⟩
   have HS := HS.o1
   refine go ?_
   refine W.r (X.bd (Value.agg #[vi (5), vi (0), vi (0), vb true]) rfl (fun _ => by kernel_rfl)) rfl ?_
   refine W.kl H func194 (fun _ h => arq_Arq_tell.calls h HS.j1) ?_
   rintro _ _ w H ⟨rfl, HS⟩
   have HS := HS.o1
   refine go ?_
   refine W.kl H func195 (fun _ h => arq_Arq_start.calls h HS.j1) ?_
   rintro _ _ w H ⟨rfl, HS⟩
   have HS := HS.o1
   refine go ?_
   exact rt
def station_Station_Close.f (k : Nat) (a0 : station_Station) : Option (Int × station_Station) := ((arq_Arq_Close.f k a0.arq).bind fun t3 => some (t3.1, ({ a0 with arq := t3.2 } : station_Station)))
theorem station_Station_Close.calls (H : station_Station_Close.f k a0 = some r) (HS : St [station_Station.at b0 a0, R] w0 w) : Calls Tryz.prog 98 #[pt b0] w (Ret fun u w => u = vi r.1 ∧ St [station_Station.at b0 r.2, R] w0 w) := by
 refine calls_enter func98 rfl rfl (go ?_)
 obtain ⟨_, _, _, _, _, _, _, _, _, _, HS⟩ := station_Station.open HS
 refine go ?_
 have HS := HS.b [1]
 refine W.kl H func146 (fun _ h => arq_Arq_Close.calls h HS.j1) ?_
 rintro _ _ w H ⟨rfl, HS⟩
 have HS := HS.o1
 refine go ?_
 have HS := station_Station.close tv (HS.b [1])
 exact rt
def backlog_Log_Add.f (a0 : backlog_Log) (a1 : List Int) : Option (Int × backlog_Log) := (if (w64 ((a0.l.length : Int) - a0.out)) ≥ a0.queue then some (6, a0) else ((slices_Clone_Sbytebyte.f a1).bind fun t5 => (if (a0.l.length : Int) + (([t5] : List (List Int))).length ≤ 1099511627776 then some (0, ({ a0 with l := a0.l ++ ([t5] : List (List Int)) } : backlog_Log)) else none)))
theorem backlog_Log_Add.calls (H : backlog_Log_Add.f a0 a1 = some r) (HS : St [backlog_Log.at b0 a0, R] w0 w) (hr1 : dB R sa1 sc1 a1) : Calls Tryz.prog 197 #[pt b0, vs sa1 a1.length sc1] w (Ret fun u w => u = vi r.1 ∧ St [backlog_Log.at b0 r.2, R] w0 w) := by
 refine calls_enter func197 rfl rfl (go ?_)
 obtain ⟨_, _, _, _, HS⟩ := backlog_Log.open HS
 apply V.da [] [] [(5, _), (6, _), (7, _), (8, _), (9, _), (10, _), (11, _), (12, _), (13, _), (14, _), (15, _), (16, _), (17, _), (18, _), (19, _)] mo HS
 rfl
 refine T.ff [0, 1, 19] fun w HS => ?_
 refine go ?_
 refine V.cd H rfl (fun _ H => go ?_) (fun _ H => go ?_)
 ·have HS := backlog_Log.close tv HS
  exact rt
 ·apply V.da [6, 7, 8, 11] [9, 10] [(20, _), (21, _), (22, _), (23, _), (24, _), (25, _)] mo HS
  rfl
  refine T.e [25] [9, 10] [5] fun w HS => ?_
  refine Y.kl H func189 (fun _ h => slices_Clone_Sbytebyte.calls h HS.j0 (rdC.part 3 hr1 rfl)) ?_
  rintro t5 _ w H ⟨at5_0, ct5_0, rfl, HS⟩
  have HS := HS.o1
  refine T.nw HS ?_
  refine T.e [26] [9, 10] [] fun w HS => ?_
  have HS := St.row_freeze HS
  refine ⟨_, Y.lc (e := 27) (sz := 1) [vs at5_0 t5.length ct5_0] HS rfl rfl (fun _ => by kernel_rfl), ?_⟩
  rintro _ w ⟨_, rfl, HS⟩
  have HS := St.tie_cons (((St.sl_close (E := (El.int .u8)) (St.swap (St.put (A := tie (El.int .u8) (t5.map (Value.int .u8)) t5) (fun _ => int_tie) ((St.put (A := tie (El.sl (El.int .u8)) ([]) (([] : List (List Int)))) (fun _ => tie.nil) HS).more 2 rfl (fun _ t => t) fsl.pers)))).fr 1).fr 1)
  refine T.nw HS ?_
  refine T.e [24, 27] [] [1, 2, 3, 4] fun w HS => ?_
  obtain ⟨_, H⟩ := ite_n H
  refine ⟨_, Y.app (xs := a0.l) (ys := ([t5] : List (List Int))) 4 underlying53 ap27 rfl (by decide) HS rfl rfl rfl (rdC.at 1 row_rd HS rfl) (St.tie_one 0 HS rfl) (by omega) (by omega), ?_⟩
  rintro _ w ⟨_, _, rfl, HS⟩
  have HS := St.tie_app 1 (HS.fr 5) rfl
  apply T.na [(28, _), (29, _), (30, _)] HS
  exact nmk
  refine T.e [28, 30] [] [0, 9, 10] fun w HS => ?_
  refine Y.sr 5 HS rfl rfl rfl fun _ w HS => ?_
  refine T.nn HS ?_
  refine T.ff [] fun w HS => ?_
  refine go ?_
  have HS := (backlog_Log.close tv (HS.b [4, 4])).ke [0, 3]
  exact rt
def arq_Arq_Send.f (k : Nat) (a0 : arq_Arq) (a1 : List Int) : Option (Int × arq_Arq) := (if (a1.length : Int) > a0.size then some (5, a0) else (if a0.state = 2 then ((backlog_Log_Add.f a0.log a1).bind fun t12 => (if t12.1 = 0 then ((arq_Arq_pump.f k ({ a0 with log := t12.2, sent := w64 (a0.sent + 1) } : arq_Arq)).bind fun t15 => some (0, t15)) else some (t12.1, ({ a0 with log := t12.2 } : arq_Arq)))) else some (7, a0)))
theorem arq_Arq_Send.calls (H : arq_Arq_Send.f k a0 a1 = some r) (HS : St [arq_Arq.at b0 a0, R] w0 w) (hr1 : dB R sa1 sc1 a1) : Calls Tryz.prog 147 #[pt b0, vs sa1 a1.length sc1] w (Ret fun u w => u = vi r.1 ∧ St [arq_Arq.at b0 r.2, R] w0 w) := by
 refine calls_enter func147 rfl rfl (go ?_)
 obtain ⟨_, _, _, _, _, _, _, _, _, HS⟩ := arq_Arq.open HS
 refine go ?_
 refine V.cd H rfl (fun _ H => go ?_) (fun _ H => go ?_)
 ·have HS := arq_Arq.close tv HS
  exact rt
 ·refine V.cm H rfl (fun _ H => go ?_) (fun _ H => go ?_)
  ·have HS := HS.b [1]
   refine W.kl H func197 (fun _ h => backlog_Log_Add.calls h HS.j1 (rdC.part 6 hr1 rfl)) ?_
   rintro _ _ w H ⟨rfl, HS⟩
   have HS := HS.o1
   refine go ?_
   refine V.cm H rfl (fun _ H => go ?_) (fun _ H => go ?_)
   ·refine W.sr 13 HS rfl rfl rfl fun w HS => go ?_
    have HS := arq_Arq.close tv (HS.b [1])
    refine W.kl H func198 (fun _ h => arq_Arq_pump.calls h HS.j1) ?_
    rintro _ _ w H ⟨rfl, HS⟩
    have HS := HS.o1
    refine go ?_
    exact rt
   ·have HS := arq_Arq.close tv (HS.b [1])
    exact rt
  ·have HS := arq_Arq.close tv HS
   exact rt
def station_Station_Send.f (k : Nat) (a0 : station_Station) (a1 : List Int) : Option (Int × station_Station) := ((arq_Arq_Send.f k a0.arq a1).bind fun t3 => some (t3.1, ({ a0 with arq := t3.2 } : station_Station)))
theorem station_Station_Send.calls (H : station_Station_Send.f k a0 a1 = some r) (HS : St [station_Station.at b0 a0, R] w0 w) (hr1 : dB R sa1 sc1 a1) : Calls Tryz.prog 99 #[pt b0, vs sa1 a1.length sc1] w (Ret fun u w => u = vi r.1 ∧ St [station_Station.at b0 r.2, R] w0 w) := by
 refine calls_enter func99 rfl rfl (go ?_)
 obtain ⟨_, _, _, _, _, _, _, _, _, _, HS⟩ := station_Station.open HS
 refine go ?_
 have HS := HS.b [1]
 refine W.kl H func147 (fun _ h => arq_Arq_Send.calls h HS.j1 (rdC.part 9 hr1 rfl)) ?_
 rintro _ _ w H ⟨rfl, HS⟩
 have HS := HS.o1
 refine go ?_
 have HS := station_Station.close tv (HS.b [1])
 exact rt
def reorder_Order_Take.f (a0 : reorder_Order) : Option (List Int × Bool × reorder_Order) := (if (a0.ready.length : Int) = 0 then some (([] : List Int), false, a0) else (if 0 ≤ (0 : Int) ∧ (0 : Int) < (a0.ready.length : Int) then (if 0 ≤ (1 : Int) ∧ (1 : Int) ≤ (a0.ready.length : Int) ∧ (a0.ready.length : Int) ≤ (a0.ready.length : Int) then some (a0.ready.getD (0 : Int).toNat [], true, ({ a0 with ready := cut a0.ready (1 : Int) (a0.ready.length : Int) } : reorder_Order)) else none) else none))
theorem reorder_Order_Take.calls (H : reorder_Order_Take.f a0 = some r) (HS : St [reorder_Order.at b0 a0, R] w0 w) : Calls Tryz.prog 243 #[pt b0] w (Ret fun u w => ∃ aq0 cq0, u = Value.tuple #[vs aq0 r.1.length cq0, vb r.2.1] ∧ St [fB aq0 cq0 r.1, reorder_Order.at b0 r.2.2, R] w0 w) := by
 refine calls_enter func243 rfl rfl (go ?_)
 obtain ⟨_, _, _, _, _, _, HS⟩ := reorder_Order.open HS
 refine go ?_
 refine V.cd H rfl (fun _ H => go ?_) (fun _ H => go ?_)
 ·have HS := (reorder_Order.close tv ((St.row_freeze (row_nilF (Value.int .u8) 5 1 HS)).b [1, 1, 1, 1, 1])).b [1]
  exact rt
 ·obtain ⟨c4, H⟩ := ite_n H
  obtain ⟨_, _, hh⟩ := (rdC.at 3 row_rd HS rfl).some (by decide) c4.1 c4.2; subst hh
  refine go ?_
  obtain ⟨_, hc8, HS⟩ := St.tie_at 4 HS rfl ([]) c4.1 c4.2
  obtain ⟨_, _, he12, HN⟩ := St.sl_openF (Value.int .u8) (fun t => tie_int t) HS; clear HS; subst he12; have HS := HN
  refine W.r (X.load underlying27 rfl rfl ((rdC.at 4 row_rd HS rfl).cellEl0 (hc8 0 _ rfl))) rfl (go ?_)
  obtain ⟨c13, H⟩ := ite_n H
  refine W.r (X.slL underlying53 inf27 rfl rfl c13) rfl (go ?_)
  refine W.sr 4 HS rfl rfl rfl fun w HS => go ?_
  have HS := (reorder_Order.close tv ((St.tie_cut (1 : Int) (a0.ready.length : Int) ((St.row_sub (HS.fr 4) c13).fr 5)).b [3, 3, 3, 1])).b [1]
  exact rt
def arq_Arq_Recv.f (a0 : arq_Arq) : Option (List Int × Bool × arq_Arq) := ((reorder_Order_Take.f a0.order).bind fun t3 => some (t3.1, t3.2.1, ({ a0 with order := t3.2.2 } : arq_Arq)))
theorem arq_Arq_Recv.calls (H : arq_Arq_Recv.f a0 = some r) (HS : St [arq_Arq.at b0 a0, R] w0 w) : Calls Tryz.prog 199 #[pt b0] w (Ret fun u w => ∃ aq0 cq0, u = Value.tuple #[vs aq0 r.1.length cq0, vb r.2.1] ∧ St [fB aq0 cq0 r.1, arq_Arq.at b0 r.2.2, R] w0 w) := by
 refine calls_enter func199 rfl rfl (go ?_)
 obtain ⟨_, _, _, _, _, _, _, _, _, HS⟩ := arq_Arq.open HS
 refine go ?_
 have HS := HS.b [2]
 refine W.kl H func243 (fun _ h => reorder_Order_Take.calls h HS.j1) ?_
 rintro _ _ w H ⟨_, _, rfl, HS⟩
 have HS := HS.o2
 refine go ?_
 have HS := (arq_Arq.close tv (HS.b [2, 2, 1, 1, 1, 1, 1])).b [1]
 exact rt
def station_Station_Recv.f (a0 : station_Station) : Option (List Int × Bool × station_Station) := ((arq_Arq_Recv.f a0.arq).bind fun t3 => some (t3.1, t3.2.1, ({ a0 with arq := t3.2.2 } : station_Station)))
theorem station_Station_Recv.calls (H : station_Station_Recv.f a0 = some r) (HS : St [station_Station.at b0 a0, R] w0 w) : Calls Tryz.prog 148 #[pt b0] w (Ret fun u w => ∃ aq0 cq0, u = Value.tuple #[vs aq0 r.1.length cq0, vb r.2.1] ∧ St [fB aq0 cq0 r.1, station_Station.at b0 r.2.2, R] w0 w) := by
 refine calls_enter func148 rfl rfl (go ?_)
 obtain ⟨_, _, _, _, _, _, _, _, _, _, HS⟩ := station_Station.open HS
 refine go ?_
 have HS := HS.b [1]
 refine W.kl H func199 (fun _ h => arq_Arq_Recv.calls h HS.j1) ?_
 rintro _ _ w H ⟨_, _, rfl, HS⟩
 have HS := HS.o2
 refine go ?_
 have HS := (station_Station.close tv (HS.b [2, 1, 1, 1, 1, 1, 1, 1, 1, 1])).b [1]
 exact rt
mutual
def aps_Aps_Command.j1 (a0 : aps_Aps) (a1 : Int) (x7 : Bool) : Option (Bool × aps_Aps) := (if x7 = true then some (true, ({ ({ a0 with command := a1 } : aps_Aps) with own := 0 } : aps_Aps)) else some (true, ({ a0 with command := a1 } : aps_Aps)))
def aps_Aps_Command.j0 (a0 : aps_Aps) (a1 : Int) (x2 : Bool) : Option (Bool × aps_Aps) := (if x2 = true then some (false, a0) else (if a1 = 0 then (if a0.own = 1 then (aps_Aps_Command.j1 a0 a1 true) else (aps_Aps_Command.j1 a0 a1 (decide (a0.own = 2)))) else (aps_Aps_Command.j1 a0 a1 false)))
end
def aps_Aps_Command.f (a0 : aps_Aps) (a1 : Int) : Option (Bool × aps_Aps) := (if a1 < 0 then (aps_Aps_Command.j0 a0 a1 true) else (aps_Aps_Command.j0 a0 a1 (decide (a1 > 3))))
theorem aps_Aps_Command.calls (H : aps_Aps_Command.f a0 a1 = some r) (HS : St [aps_Aps.at b0 a0, R] w0 w) : Calls Tryz.prog 149 #[pt b0, vi a1] w (Ret fun u w => u = vb r.1 ∧ St [aps_Aps.at b0 r.2, R] w0 w) := by
 refine calls_enter func149 rfl rfl ?_
 refine V.seq ?_
 refine gs ?_
 refine V.seq ?_
 refine V.mj (σ := Bool) [0, 1] (fun x2 w => St [aps_Aps.at b0 a0, R] w0 w ∧ aps_Aps_Command.j0 a0 a1 x2 = some r) (fun x2 => [(10, vb x2)]) ?_ ?_
 ·refine go ?_
  refine W.cd 7 H rfl (fun _ H => go ?_) (fun _ H => go ?_)
  ·exact At.mt _ ⟨HS, H⟩
  ·exact At.mt _ ⟨HS, H⟩
 ·rintro x2 w ⟨HS, H⟩
  refine V.cv H rfl (fun _ H => go ?_) (fun _ H => go ?_)
  ·exact rt
  ·obtain ⟨_, HS⟩ := aps_Aps.open HS
   refine go ?_
   refine W.sr 3 HS rfl rfl rfl fun w HS => ?_
   refine gs ?_
   refine V.seq ?_
   refine V.mj (σ := Bool) [0] (fun x7 w => St [aps_Aps.at b0 ({ a0 with command := a1 } : aps_Aps), R] w0 w ∧ aps_Aps_Command.j1 a0 a1 x7 = some r) (fun x7 => [(30, vb x7)]) ?_ ?_
   ·refine go ?_
    refine W.cd 17 H rfl (fun _ H => go ?_) (fun _ H => go ?_)
    ·refine W.cd 23 H rfl (fun _ H => go ?_) (fun _ H => go ?_)
     ·have HS := aps_Aps.close tv HS
      exact At.mt _ ⟨HS, H⟩
     ·have HS := aps_Aps.close tv HS
      exact At.mt _ ⟨HS, H⟩
    ·have HS := aps_Aps.close tv HS
     exact At.mt _ ⟨HS, H⟩
   ·rintro x7 w ⟨HS, H⟩
    refine V.cv H rfl (fun _ H => go ?_) (fun _ H => go ?_)
    ·obtain ⟨_, HS⟩ := aps_Aps.open HS
     refine go ?_
     refine W.sr 5 HS rfl rfl rfl fun w HS => go ?_
     have HS := aps_Aps.close tv HS
     exact rt
    ·exact rt
def station_Station_Command.f (a0 : station_Station) (a1 : Int) : Option (Bool × station_Station) := ((aps_Aps_Command.f a0.aps a1).bind fun t3 => some (t3.1, ({ a0 with aps := t3.2 } : station_Station)))
theorem station_Station_Command.calls (H : station_Station_Command.f a0 a1 = some r) (HS : St [station_Station.at b0 a0, R] w0 w) : Calls Tryz.prog 101 #[pt b0, vi a1] w (Ret fun u w => u = vb r.1 ∧ St [station_Station.at b0 r.2, R] w0 w) := by
 refine calls_enter func101 rfl rfl (go ?_)
 obtain ⟨_, _, _, _, _, _, _, _, _, _, HS⟩ := station_Station.open HS
 refine go ?_
 have HS := HS.b [2]
 refine W.kl H func149 (fun _ h => aps_Aps_Command.calls h HS.j1) ?_
 rintro _ _ w H ⟨rfl, HS⟩
 have HS := HS.o1
 refine go ?_
 have HS := station_Station.close tv (HS.b [1, 1])
 exact rt
structure api_Op where
 Kind : Int
 At : Int
 Line : Int
 N : Int
 Fault : Int
 B : List Int
deriving DecidableEq, Inhabited
abbrev api_Op.Q (b : Nat) (l0 l1 l2 l3 l4 : Int) (l5 : List Int) (a5 : Option Addr) (c5 : Nat) (L : List As) : List As := blk b (#[vi l0, vi l1, vi l2, vi l3, vi l4, vs a5 l5.length c5]) 29 :: fsl 1 (.slice a5 l5.length c5) l5.length (l5.map (Value.int .u8)) :: L
abbrev api_Op.P (b : Nat) (x : api_Op) (a5 : Option Addr) (c5 : Nat) (L : List As) : List As := api_Op.Q b x.Kind x.At x.Line x.N x.Fault x.B a5 c5 L
def api_Op.at (b : Nat) (x : api_Op) : As := fun h => True ∧ ∃ a5 : Option Addr, ∃ c5 : Nat, Sp (api_Op.P b x a5 c5 []) h
theorem api_Op.open {b : Nat} {x : api_Op} {L : List As} {w0 w : World} (hs : Sep.St (api_Op.at b x :: L) w0 w) : ∃ a5 : Option Addr, ∃ c5 : Nat, True ∧ Sep.St (api_Op.P b x a5 c5 L) w0 w := by
 obtain ⟨ho, ht, hu, h, hon, h1, h2, hd, e1, e2, ⟨hi, a5, c5, hA⟩, hl⟩ := hs
 exact ⟨a5, c5, hi, St.open (m := api_Op.P b x a5 c5 []) ⟨ho, ht, hu, h, hon, h1, h2, hd, e1, e2, hA, hl⟩⟩
theorem api_Op.close {b : Nat} {l0 l1 l2 l3 l4 : Int} {l5 : List Int} {a5 : Option Addr} {c5 : Nat} {L : List As} {w0 w : World} (hi : True) (hs : Sep.St (api_Op.Q b l0 l1 l2 l3 l4 l5 a5 c5 L) w0 w) : Sep.St (api_Op.at b ({ Kind := l0, At := l1, Line := l2, N := l3, Fault := l4, B := l5 } : api_Op) :: L) w0 w := by
 have h2 := St.join (m := api_Op.Q b l0 l1 l2 l3 l4 l5 a5 c5 []) hs
 exact h2.mono fun h hh => ⟨hi, _, _, hh⟩
mutual
def signalman_player_do.l0 : Nat → signalman_player → api_Op → Bool → (List Int) → station_Station → (List api_Event) → Option (Int × signalman_player)
 | 0, _, _, _, _, _, _ => none
 | k + 1, a0, a1, x66, x69, x70, x73 => (if x66 = true then ((world_World_Now.f ({ a0.w with stations := (x70, a0.w.stations.2), ways := a0.w.ways } : world_World)).bind fun t78 => (if (x73.length : Int) + (([({ Step := t78, At := a1.At, Ind := 0, B := x69 } : api_Event)] : List api_Event)).length ≤ 1099511627776 then ((station_Station_Recv.f x70).bind fun t86 => (signalman_player_do.l0 k a0 a1 t86.2.1 t86.1 t86.2.2 (x73 ++ ([({ Step := t78, At := a1.At, Ind := 0, B := x69 } : api_Event)] : List api_Event)))) else none)) else some (0, ({ w := ({ a0.w with stations := (x70, a0.w.stations.2), ways := a0.w.ways } : world_World), out := x73 } : signalman_player)))
def signalman_player_do.l1 : Nat → signalman_player → api_Op → Bool → (List Int) → station_Station → (List api_Event) → Option (Int × signalman_player)
 | 0, _, _, _, _, _, _ => none
 | k + 1, a0, a1, x134, x137, x138, x141 => (if x134 = true then ((world_World_Now.f ({ a0.w with stations := (a0.w.stations.1, x138), ways := a0.w.ways } : world_World)).bind fun t146 => (if (x141.length : Int) + (([({ Step := t146, At := a1.At, Ind := 0, B := x137 } : api_Event)] : List api_Event)).length ≤ 1099511627776 then ((station_Station_Recv.f x138).bind fun t154 => (signalman_player_do.l1 k a0 a1 t154.2.1 t154.1 t154.2.2 (x141 ++ ([({ Step := t146, At := a1.At, Ind := 0, B := x137 } : api_Event)] : List api_Event)))) else none)) else some (0, ({ w := ({ a0.w with stations := (a0.w.stations.1, x138), ways := a0.w.ways } : world_World), out := x141 } : signalman_player)))
end
def signalman_player_do.f (k : Nat) (a0 : signalman_player) (a1 : api_Op) : Option (Int × signalman_player) := (if a1.Kind = 1 then ((signalman_player_steps.f k a0 a1.N).bind fun t5 => ((signalman_wrong.f (decide (a1.N < 0))).bind fun t7 => some (t7, t5))) else (if a1.Kind = 7 then ((signalman_first.f a1.B).bind fun t12 => ((world_World_Fault.f a0.w a1.Line a1.At a1.Fault a1.N t12).bind fun t14 => ((signalman_wrong.f (!t14.1)).bind fun t16 => some (t16, ({ w := t14.2, out := a0.out } : signalman_player))))) else (if a1.At ≥ 0 then (if a1.At < 2 then (if 0 ≤ a1.At ∧ a1.At < 2 then (if a1.At = 0 then (if a1.Kind = 2 then ((station_Station_Connect.f k a0.w.stations.1).bind fun t53 => some (t53.1, ({ w := ({ a0.w with stations := (t53.2, a0.w.stations.2), ways := a0.w.ways } : world_World), out := a0.out } : signalman_player))) else (if a1.Kind = 3 then ((station_Station_Close.f k a0.w.stations.1).bind fun t56 => some (t56.1, ({ w := ({ a0.w with stations := (t56.2, a0.w.stations.2), ways := a0.w.ways } : world_World), out := a0.out } : signalman_player))) else (if a1.Kind = 4 then ((station_Station_Send.f k a0.w.stations.1 a1.B).bind fun t59 => some (t59.1, ({ w := ({ a0.w with stations := (t59.2, a0.w.stations.2), ways := a0.w.ways } : world_World), out := a0.out } : signalman_player))) else (if a1.Kind = 5 then ((station_Station_Recv.f a0.w.stations.1).bind fun t62 => (signalman_player_do.l0 k a0 a1 t62.2.1 t62.1 t62.2.2 a0.out)) else (if a1.Kind = 6 then ((station_Station_Command.f a0.w.stations.1 a1.N).bind fun t89 => ((signalman_wrong.f (!t89.1)).bind fun t91 => some (t91, ({ w := ({ a0.w with stations := (t89.2, a0.w.stations.2), ways := a0.w.ways } : world_World), out := a0.out } : signalman_player)))) else some (1, a0)))))) else (if a1.Kind = 2 then ((station_Station_Connect.f k a0.w.stations.2).bind fun t121 => some (t121.1, ({ w := ({ a0.w with stations := (a0.w.stations.1, t121.2), ways := a0.w.ways } : world_World), out := a0.out } : signalman_player))) else (if a1.Kind = 3 then ((station_Station_Close.f k a0.w.stations.2).bind fun t124 => some (t124.1, ({ w := ({ a0.w with stations := (a0.w.stations.1, t124.2), ways := a0.w.ways } : world_World), out := a0.out } : signalman_player))) else (if a1.Kind = 4 then ((station_Station_Send.f k a0.w.stations.2 a1.B).bind fun t127 => some (t127.1, ({ w := ({ a0.w with stations := (a0.w.stations.1, t127.2), ways := a0.w.ways } : world_World), out := a0.out } : signalman_player))) else (if a1.Kind = 5 then ((station_Station_Recv.f a0.w.stations.2).bind fun t130 => (signalman_player_do.l1 k a0 a1 t130.2.1 t130.1 t130.2.2 a0.out)) else (if a1.Kind = 6 then ((station_Station_Command.f a0.w.stations.2 a1.N).bind fun t157 => ((signalman_wrong.f (!t157.1)).bind fun t159 => some (t159, ({ w := ({ a0.w with stations := (a0.w.stations.1, t157.2), ways := a0.w.ways } : world_World), out := a0.out } : signalman_player)))) else some (1, a0))))))) else none) else some (1, a0)) else some (1, a0))))
theorem signalman_player_do.calls (H : signalman_player_do.f k a0 a1 = some r) (HS : St [signalman_player.at b0 a0, R] w0 w) (hr1_5 : dB R sa1_5 sc1_5 a1.B) : Calls Tryz.prog 43 #[pt b0, Value.agg #[vi a1.Kind, vi a1.At, vi a1.Line, vi a1.N, vi a1.Fault, vs sa1_5 a1.B.length sc1_5]] w (Ret fun u w => u = vi r.1 ∧ St [signalman_player.at b0 r.2, R] w0 w) := by
 refine calls_enter func43 rfl rfl (go ?_)
 refine W.e (Y.box HS rfl) rfl ?_
 rintro _ w ⟨nb1, rfl, HS⟩
 refine go ?_
 refine V.cd H rfl (fun _ H => go ?_) (fun _ H => go ?_)
 ·have HS := HS.b [1]
  refine W.kl H func61 (fun _ h => signalman_player_steps.calls h HS.j1) ?_
  rintro _ _ w H ⟨rfl, HS⟩
  have HS := HS.o1
  refine go ?_
  refine W.kl H func62 (fun _ h => signalman_wrong.calls h HS.j0) ?_
  rintro _ _ w H ⟨rfl, HS⟩
  have HS := HS.o0
  refine go ?_
  have HS := HS.ke [0, 1]
  exact rt
 ·refine V.cd H rfl (fun _ H => go ?_) (fun _ H => go ?_)
  ·have HS := HS.fr 1
   obtain ⟨_, _, _, _, _, HS⟩ := signalman_player.open HS
   apply V.da [14, 15, 17] [16, 18] [(20, _), (21, _), (22, _), (23, _), (24, _), (25, _), (26, _), (27, _), (28, _), (29, _), (30, _), (31, _), (32, _), (33, _)] mo HS
   rfl
   refine T.e [33] [16, 18] [12, 13] fun w HS => ?_
   refine Y.kl H func64 (fun _ h => signalman_first.calls h HS.j0 (rdC.part 5 hr1_5 rfl)) ?_
   rintro _ _ w H ⟨rfl, HS⟩
   have HS := HS.o0
   refine T.nw HS ?_
   refine T.e [23, 25, 27, 29, 31, 34] [18] [0, 1, 2, 3, 4, 5, 6, 7, 8, 9, 10, 11] fun w HS => ?_
   have HS := HS.b [1]
   refine Y.kl H func63 (fun _ h => world_World_Fault.calls h HS.j1) ?_
   rintro _ _ w H ⟨rfl, HS⟩
   have HS := HS.o1
   apply T.na [(35, _), (36, _)] HS
   exact nmk
   refine T.e [36] [] [16] fun w HS => ?_
   refine Y.kl H func62 (fun _ h => signalman_wrong.calls h HS.j0) ?_
   rintro _ _ w H ⟨rfl, HS⟩
   have HS := HS.o0
   apply T.na [(37, _), (4, _)] HS
   exact nmk
   refine T.ff [4] fun w HS => ?_
   refine go ?_
   have HS := (signalman_player.close tv (HS.b [1])).ke [0, 1]
   exact rt
  ·have HS := HS.fr 1
   obtain ⟨b0_18, _, _, _, _, HS⟩ := signalman_player.open HS
   apply V.da [6] [7] [(38, _), (39, _), (40, _), (41, _), (42, _), (43, _)] mo HS
   rfl
   refine T.e [41, 43] [] [0, 1, 2, 3, 4, 5] fun w HS => ?_
   refine ⟨_, Y.cl (vs := [pt b0_18, vi a1.At]) func30 (calls_enter func30 rfl rfl ?_), fun _ _ h => h⟩
   refine go ?_
   refine W.inl (Y.cl (vs := [vi a1.At]) func45 (calls_enter func45 rfl rfl ?_)) rfl rfl rfl
   refine go ?_
   refine W.cd 5 H rfl (fun _ H => go ?_) (fun _ H => go ?_)
   ·refine At.ret1 rfl rfl ⟨_, rfl, ?_⟩
    refine go ?_
    refine V.cm H rfl (fun _ H => go ?_) (fun _ H => go ?_)
    ·have HS := HS.fr 1
     obtain ⟨b16_22, b17_22, b18_22, a19_22, c19_22, d19_22, a20_22, c20_22, d20_22, b21_22, a22_22, c22_22, d22_22, a23_22, c23_22, d23_22, b24_22, a25_22, c25_22, d25_22, a26_22, c26_22, d26_22, b27_22, a28_22, c28_22, d28_22, a29_22, c29_22, d29_22, _, HS⟩ := world_World.open HS
     refine go ?_
     obtain ⟨c24, H⟩ := ite_n H
     refine ite_c H (fun c25 H => ?_) (fun _ H => ?_)
     ·refine W.r (X.indexArK 0 c25 underlying110 inf69 rfl rfl c24.1 c24.2) rfl (go ?_)
      refine At.ret1 rfl rfl ⟨_, rfl, ?_⟩
      apply T.na [(44, _), (5, _)] HS
      exact nmk
      refine T.ff [0, 3, 5] fun w HS => ?_
      refine go ?_
      refine W.r (X.eqP underlying69 rfl rfl) rfl (go ?_)
      refine W.inl (Y.cl (vs := [pt b0, Value.agg #[vi a1.Kind, vi a1.At, vi a1.Line, vi a1.N, vi a1.Fault, vs sa1_5 a1.B.length sc1_5], pt b16_22]) func65 (calls_enter func65 rfl rfl ?_)) rfl rfl rfl
      refine go ?_
      refine W.e (Y.box HS rfl) rfl ?_
      rintro _ w ⟨nb51, rfl, HS⟩
      refine go ?_
      refine V.cd H rfl (fun _ H => go ?_) (fun _ H => go ?_)
      ·have HS := HS.b [2]
       refine W.kl H func97 (fun _ h => station_Station_Connect.calls h HS.j1) ?_
       rintro _ _ w H ⟨rfl, HS⟩
       have HS := HS.o1
       refine go ?_
       refine At.ret1 rfl rfl ⟨_, rfl, ?_⟩
       refine go ?_
       have HS := (signalman_player.close tv ((world_World.close tv (HS.b [2, 0, 1, 1, 1, 1, 1, 1, 1, 1, 1, 1, 1, 1, 1, 1, 1, 1, 1, 1, 1, 1, 1])).b [2, 0, 1, 1])).ke [0, 2]
       exact rt
      ·refine V.cd H rfl (fun _ H => go ?_) (fun _ H => go ?_)
       ·have HS := HS.b [2]
        refine W.kl H func98 (fun _ h => station_Station_Close.calls h HS.j1) ?_
        rintro _ _ w H ⟨rfl, HS⟩
        have HS := HS.o1
        refine go ?_
        refine At.ret1 rfl rfl ⟨_, rfl, ?_⟩
        refine go ?_
        have HS := (signalman_player.close tv ((world_World.close tv (HS.b [2, 0, 1, 1, 1, 1, 1, 1, 1, 1, 1, 1, 1, 1, 1, 1, 1, 1, 1, 1, 1, 1, 1])).b [2, 0, 1, 1])).ke [0, 2]
        exact rt
       ·refine V.cd H rfl (fun _ H => go ?_) (fun _ H => go ?_)
        ·have HS := HS.b [2]
         refine W.kl H func99 (fun _ h => station_Station_Send.calls h HS.j1 (rdC.part 27 hr1_5 rfl)) ?_
         rintro _ _ w H ⟨rfl, HS⟩
         have HS := HS.o1
         refine go ?_
         refine At.ret1 rfl rfl ⟨_, rfl, ?_⟩
         refine go ?_
         have HS := (signalman_player.close tv ((world_World.close tv (HS.b [2, 0, 1, 1, 1, 1, 1, 1, 1, 1, 1, 1, 1, 1, 1, 1, 1, 1, 1, 1, 1, 1, 1])).b [2, 0, 1, 1])).ke [0, 2]
         exact rt
        ·refine V.cd H rfl (fun _ H => go ?_) (fun _ H => go ?_)
         ·refine W.inl (Y.cl (vs := [pt b0, vi a1.At, pt b16_22]) func100 (calls_enter func100 rfl rfl ?_)) rfl rfl rfl
          refine go ?_
          have HS := HS.b [2]
          refine W.kl H func148 (fun _ h => station_Station_Recv.calls h HS.j1) ?_
          rintro _ _ w H ⟨_, _, rfl, HS⟩
          have HS := HS.o2
          refine go ?_
          refine V.lj (σ := Bool × Option Addr × Nat × List Int × station_Station × Option Addr × Nat × List Value × List api_Event) [0, 1, 2] (fun kq (x66, ra67, rc68, x69, x70, ra71, rc72, rd74, x73) w => St [fB ra67 rc68 x69, station_Station.at b16_22 x70, blk nb51 (#[vi a1.Kind, vi a1.At, vi a1.Line, vi a1.N, vi a1.Fault, vs sa1_5 a1.B.length sc1_5]) 29, blk b0_18 (#[vi a0.w.c.Mode, vi a0.w.c.Modulus, vi a0.w.c.Window, vi a0.w.c.T1, vi a0.w.c.N2, vi a0.w.c.Hold, vi a0.w.c.Wait, vi a0.w.c.Keep, vi a0.w.c.Queue, vi a0.w.c.Size, vi a0.w.c.Ring, vi a0.w.c.Rate, vi a0.w.c.Bad, vi a0.w.c.Good, vb a0.w.c.Revert, vb a0.w.c.Wide, pt b16_22, pt b17_22, pt b18_22, vs a19_22 a0.w.ways.1.1.sent.length c19_22, vs a20_22 a0.w.ways.1.1.got.length c20_22, pt b21_22, vs a22_22 a0.w.ways.1.2.sent.length c22_22, vs a23_22 a0.w.ways.1.2.got.length c23_22, pt b24_22, vs a25_22 a0.w.ways.2.1.sent.length c25_22, vs a26_22 a0.w.ways.2.1.got.length c26_22, pt b27_22, vs a28_22 a0.w.ways.2.2.sent.length c28_22, vs a29_22 a0.w.ways.2.2.got.length c29_22, vi a0.w.now]) 117, station_Station.at b17_22 a0.w.stations.2, pipe_Pipe.at b18_22 a0.w.ways.1.1.pipe, row 27 1 (.slice a19_22 a0.w.ways.1.1.sent.length c19_22) a0.w.ways.1.1.sent.length d19_22, tie (El.sl (El.int .u8)) d19_22 a0.w.ways.1.1.sent, row 27 1 (.slice a20_22 a0.w.ways.1.1.got.length c20_22) a0.w.ways.1.1.got.length d20_22, tie (El.sl (El.int .u8)) d20_22 a0.w.ways.1.1.got, pipe_Pipe.at b21_22 a0.w.ways.1.2.pipe, row 27 1 (.slice a22_22 a0.w.ways.1.2.sent.length c22_22) a0.w.ways.1.2.sent.length d22_22, tie (El.sl (El.int .u8)) d22_22 a0.w.ways.1.2.sent, row 27 1 (.slice a23_22 a0.w.ways.1.2.got.length c23_22) a0.w.ways.1.2.got.length d23_22, tie (El.sl (El.int .u8)) d23_22 a0.w.ways.1.2.got, pipe_Pipe.at b24_22 a0.w.ways.2.1.pipe, row 27 1 (.slice a25_22 a0.w.ways.2.1.sent.length c25_22) a0.w.ways.2.1.sent.length d25_22, tie (El.sl (El.int .u8)) d25_22 a0.w.ways.2.1.sent, row 27 1 (.slice a26_22 a0.w.ways.2.1.got.length c26_22) a0.w.ways.2.1.got.length d26_22, tie (El.sl (El.int .u8)) d26_22 a0.w.ways.2.1.got, pipe_Pipe.at b27_22 a0.w.ways.2.2.pipe, row 27 1 (.slice a28_22 a0.w.ways.2.2.sent.length c28_22) a0.w.ways.2.2.sent.length d28_22, tie (El.sl (El.int .u8)) d28_22 a0.w.ways.2.2.sent, row 27 1 (.slice a29_22 a0.w.ways.2.2.got.length c29_22) a0.w.ways.2.2.got.length d29_22, tie (El.sl (El.int .u8)) d29_22 a0.w.ways.2.2.got, blk b0 (#[pt b0_18, vs ra71 x73.length rc72]) 72, row 56 4 (.slice ra71 x73.length rc72) x73.length rd74, tie api_Event.El rd74 x73, blk nb1 (#[vi a1.Kind, vi a1.At, vi a1.Line, vi a1.N, vi a1.Fault, vs sa1_5 a1.B.length sc1_5]) 29, R] w0 w ∧ signalman_player_do.l0 kq a0 a1 x66 x69 x70 x73 = some r ∧ kq ≤ k) (fun (x66, ra67, rc68, x69, x70, ra71, rc72, rd74, x73) => [(6, vs ra67 x69.length rc68), (7, vb x66)]) (_, _, _, _, _, _, _, _, _) ⟨HS, H, Nat.le_refl _⟩ ?_
          rintro kq75 ⟨x66, ra67, rc68, x69, x70, ra71, rc72, rd74, x73⟩ w ⟨HS, H, _⟩
          cases kq75 with
          | zero => exact absurd H (by simp [signalman_player_do.l0])
          | succ kq75 =>
           simp only [signalman_player_do.l0] at H
           refine go ?_
           refine V.cv H rfl (fun _ H => go ?_) (fun _ H => go ?_)
           ·apply V.da [9, 13, 14, 17] [12, 15, 16] [(19, _), (20, _), (21, _), (22, _), (23, _), (24, _), (25, _), (26, _), (27, _), (29, _), (30, _)] mo HS
            rfl
            refine T.e [27] [15, 16] [5, 6, 7, 8] fun w HS => ?_
            have HS := HS.b [3, 1, 2, 2, 2, 2, 2, 2, 2, 2, 2, 2, 2, 2, 2, 2, 2, 2, 2, 2, 2, 2, 2]
            refine Y.kl H func67 (fun _ h => world_World_Now.calls h HS.j23) ?_
            rintro t78 _ w H ⟨rfl, HS⟩
            have HS := HS.o23
            apply T.na [(28, _), (31, _)] HS
            exact nmk
            refine T.e [31] [15, 16] [10, 11, 12] (fun w HS => ?_) ⟨rd, rd, rd, rd, rd, rd, rd, .ns [(28, _), (29, _), (30, _)] ⟨rfl, rfl, rfl, tv⟩ rfl (fun w HS => X.bd (Value.agg #[vi t78, vi a1.At, vi (0), vs ra67 x69.length rc68]) rfl (fun _ => by kernel_rfl)), rds⟩
            refine ⟨_, Y.lc (e := 56) (sz := 4) [vi t78, vi a1.At, vi (0), vs ra67 x69.length rc68] HS rfl rfl (fun _ => by kernel_rfl), ?_⟩
            rintro _ w ⟨_, rfl, HS⟩
            have HS := St.tie_cons (((api_Event.pack (x := ({ Step := t78, At := a1.At, Ind := 0, B := x69 } : api_Event)) ((St.put (A := tie api_Event.El ([]) ([] : List api_Event)) (fun _ => tie.nil) HS).more 25 rfl (fun _ t => t) fsl.pers)).fr 1).fr 1)
            refine T.nw HS ?_
            refine T.e [23, 32] [] [1, 2, 3, 4] fun w HS => ?_
            obtain ⟨_, H⟩ := ite_n H
            refine ⟨_, Y.app (xs := x73) (ys := ([({ Step := t78, At := a1.At, Ind := 0, B := x69 } : api_Event)] : List api_Event)) 28 underlying39 ap56 rfl (by decide) HS rfl rfl rfl (rdC.at 1 row_rd HS rfl) (St.tie_one 0 HS rfl) (by omega) (by omega), ?_⟩
            rintro _ w ⟨_, _, rfl, HS⟩
            have HS := St.tie_app 1 (HS.fr 29) rfl
            apply T.na [(33, _), (34, _), (35, _)] HS
            exact nmk
            refine T.e [33, 35] [] [0, 15, 16] fun w HS => ?_
            refine Y.sr 1 HS rfl rfl rfl fun _ w HS => ?_
            refine T.nn HS ?_
            refine T.ff [0, 1, 2] fun w HS => ?_
            refine go ?_
            have HS := HS.b [4]
            refine W.kl H func148 (fun _ h => station_Station_Recv.calls h HS.j1) ?_
            rintro _ _ w H ⟨_, _, rfl, HS⟩
            have HS := HS.o2
            refine go ?_
            have HS := HS.ke [0, 0, 26, 3, 3, 3, 3, 3, 3, 3, 3, 3, 3, 3, 3, 3, 3, 3, 3, 3, 3, 3, 3, 3, 3, 4, 4, 0, 3, 3]
            exact At.rn (_, _, _, _, _, _, _, _, _) ⟨HS, H, by omega⟩
           ·refine At.end0 rfl ⟨_, rfl, ?_⟩
            refine go ?_
            refine At.ret1 rfl rfl ⟨_, rfl, ?_⟩
            refine go ?_
            have HS := (signalman_player.close tv ((world_World.close tv (HS.b [3, 1, 2, 2, 2, 2, 2, 2, 2, 2, 2, 2, 2, 2, 2, 2, 2, 2, 2, 2, 2, 2, 2])).b [3, 0, 2, 2])).ke [0, 3]
            exact rt
         ·refine V.cd H rfl (fun _ H => go ?_) (fun _ H => go ?_)
          ·have HS := HS.b [2]
           refine W.kl H func101 (fun _ h => station_Station_Command.calls h HS.j1) ?_
           rintro _ _ w H ⟨rfl, HS⟩
           have HS := HS.o1
           refine go ?_
           refine W.kl H func62 (fun _ h => signalman_wrong.calls h HS.j0) ?_
           rintro _ _ w H ⟨rfl, HS⟩
           have HS := HS.o0
           refine go ?_
           refine At.ret1 rfl rfl ⟨_, rfl, ?_⟩
           refine go ?_
           have HS := (signalman_player.close tv ((world_World.close tv (HS.b [2, 0, 1, 1, 1, 1, 1, 1, 1, 1, 1, 1, 1, 1, 1, 1, 1, 1, 1, 1, 1, 1, 1])).b [2, 0, 1, 1])).ke [0, 2]
           exact rt
          ·refine At.ret1 rfl rfl ⟨_, rfl, ?_⟩
           refine go ?_
           have HS := (signalman_player.close tv ((world_World.close tv (HS.b [1, 1, 1, 1, 1, 1, 1, 1, 1, 1, 1, 1, 1, 1, 1, 1, 1, 1, 1, 1, 1, 1, 1])).b [2, 0, 1, 1])).ke [0, 2]
           exact rt
     ·have hk93 : a1.At = 1 := by omega
      refine W.r (X.indexArK 1 hk93 underlying110 inf69 rfl rfl c24.1 c24.2) rfl (go ?_)
      refine At.ret1 rfl rfl ⟨_, rfl, ?_⟩
      apply T.na [(44, _), (5, _)] HS
      exact nmk
      refine T.ff [0, 3, 5] fun w HS => ?_
      refine go ?_
      refine W.r (X.eqP underlying69 rfl rfl) rfl (go ?_)
      refine W.inl (Y.cl (vs := [pt b0, Value.agg #[vi a1.Kind, vi a1.At, vi a1.Line, vi a1.N, vi a1.Fault, vs sa1_5 a1.B.length sc1_5], pt b17_22]) func65 (calls_enter func65 rfl rfl ?_)) rfl rfl rfl
      refine go ?_
      refine W.e (Y.box HS rfl) rfl ?_
      rintro _ w ⟨nb119, rfl, HS⟩
      refine go ?_
      refine V.cd H rfl (fun _ H => go ?_) (fun _ H => go ?_)
      ·have HS := HS.b [3]
       refine W.kl H func97 (fun _ h => station_Station_Connect.calls h HS.j1) ?_
       rintro _ _ w H ⟨rfl, HS⟩
       have HS := HS.o1
       refine go ?_
       refine At.ret1 rfl rfl ⟨_, rfl, ?_⟩
       refine go ?_
       have HS := (signalman_player.close tv ((world_World.close tv (HS.b [2, 2, 0, 1, 1, 1, 1, 1, 1, 1, 1, 1, 1, 1, 1, 1, 1, 1, 1, 1, 1, 1, 1])).b [2, 0, 1, 1])).ke [0, 2]
       exact rt
      ·refine V.cd H rfl (fun _ H => go ?_) (fun _ H => go ?_)
       ·have HS := HS.b [3]
        refine W.kl H func98 (fun _ h => station_Station_Close.calls h HS.j1) ?_
        rintro _ _ w H ⟨rfl, HS⟩
        have HS := HS.o1
        refine go ?_
        refine At.ret1 rfl rfl ⟨_, rfl, ?_⟩
        refine go ?_
        have HS := (signalman_player.close tv ((world_World.close tv (HS.b [2, 2, 0, 1, 1, 1, 1, 1, 1, 1, 1, 1, 1, 1, 1, 1, 1, 1, 1, 1, 1, 1, 1])).b [2, 0, 1, 1])).ke [0, 2]
        exact rt
       ·refine V.cd H rfl (fun _ H => go ?_) (fun _ H => go ?_)
        ·have HS := HS.b [3]
         refine W.kl H func99 (fun _ h => station_Station_Send.calls h HS.j1 (rdC.part 27 hr1_5 rfl)) ?_
         rintro _ _ w H ⟨rfl, HS⟩
         have HS := HS.o1
         refine go ?_
         refine At.ret1 rfl rfl ⟨_, rfl, ?_⟩
         refine go ?_
         have HS := (signalman_player.close tv ((world_World.close tv (HS.b [2, 2, 0, 1, 1, 1, 1, 1, 1, 1, 1, 1, 1, 1, 1, 1, 1, 1, 1, 1, 1, 1, 1])).b [2, 0, 1, 1])).ke [0, 2]
         exact rt
        ·refine V.cd H rfl (fun _ H => go ?_) (fun _ H => go ?_)
         ·refine W.inl (Y.cl (vs := [pt b0, vi a1.At, pt b17_22]) func100 (calls_enter func100 rfl rfl ?_)) rfl rfl rfl
          refine go ?_
          have HS := HS.b [3]
          refine W.kl H func148 (fun _ h => station_Station_Recv.calls h HS.j1) ?_
          rintro _ _ w H ⟨_, _, rfl, HS⟩
          have HS := HS.o2
          refine go ?_
          refine V.lj (σ := Bool × Option Addr × Nat × List Int × station_Station × Option Addr × Nat × List Value × List api_Event) [0, 1, 2] (fun kq (x134, ra135, rc136, x137, x138, ra139, rc140, rd142, x141) w => St [fB ra135 rc136 x137, station_Station.at b17_22 x138, blk nb119 (#[vi a1.Kind, vi a1.At, vi a1.Line, vi a1.N, vi a1.Fault, vs sa1_5 a1.B.length sc1_5]) 29, blk b0_18 (#[vi a0.w.c.Mode, vi a0.w.c.Modulus, vi a0.w.c.Window, vi a0.w.c.T1, vi a0.w.c.N2, vi a0.w.c.Hold, vi a0.w.c.Wait, vi a0.w.c.Keep, vi a0.w.c.Queue, vi a0.w.c.Size, vi a0.w.c.Ring, vi a0.w.c.Rate, vi a0.w.c.Bad, vi a0.w.c.Good, vb a0.w.c.Revert, vb a0.w.c.Wide, pt b16_22, pt b17_22, pt b18_22, vs a19_22 a0.w.ways.1.1.sent.length c19_22, vs a20_22 a0.w.ways.1.1.got.length c20_22, pt b21_22, vs a22_22 a0.w.ways.1.2.sent.length c22_22, vs a23_22 a0.w.ways.1.2.got.length c23_22, pt b24_22, vs a25_22 a0.w.ways.2.1.sent.length c25_22, vs a26_22 a0.w.ways.2.1.got.length c26_22, pt b27_22, vs a28_22 a0.w.ways.2.2.sent.length c28_22, vs a29_22 a0.w.ways.2.2.got.length c29_22, vi a0.w.now]) 117, station_Station.at b16_22 a0.w.stations.1, pipe_Pipe.at b18_22 a0.w.ways.1.1.pipe, row 27 1 (.slice a19_22 a0.w.ways.1.1.sent.length c19_22) a0.w.ways.1.1.sent.length d19_22, tie (El.sl (El.int .u8)) d19_22 a0.w.ways.1.1.sent, row 27 1 (.slice a20_22 a0.w.ways.1.1.got.length c20_22) a0.w.ways.1.1.got.length d20_22, tie (El.sl (El.int .u8)) d20_22 a0.w.ways.1.1.got, pipe_Pipe.at b21_22 a0.w.ways.1.2.pipe, row 27 1 (.slice a22_22 a0.w.ways.1.2.sent.length c22_22) a0.w.ways.1.2.sent.length d22_22, tie (El.sl (El.int .u8)) d22_22 a0.w.ways.1.2.sent, row 27 1 (.slice a23_22 a0.w.ways.1.2.got.length c23_22) a0.w.ways.1.2.got.length d23_22, tie (El.sl (El.int .u8)) d23_22 a0.w.ways.1.2.got, pipe_Pipe.at b24_22 a0.w.ways.2.1.pipe, row 27 1 (.slice a25_22 a0.w.ways.2.1.sent.length c25_22) a0.w.ways.2.1.sent.length d25_22, tie (El.sl (El.int .u8)) d25_22 a0.w.ways.2.1.sent, row 27 1 (.slice a26_22 a0.w.ways.2.1.got.length c26_22) a0.w.ways.2.1.got.length d26_22, tie (El.sl (El.int .u8)) d26_22 a0.w.ways.2.1.got, pipe_Pipe.at b27_22 a0.w.ways.2.2.pipe, row 27 1 (.slice a28_22 a0.w.ways.2.2.sent.length c28_22) a0.w.ways.2.2.sent.length d28_22, tie (El.sl (El.int .u8)) d28_22 a0.w.ways.2.2.sent, row 27 1 (.slice a29_22 a0.w.ways.2.2.got.length c29_22) a0.w.ways.2.2.got.length d29_22, tie (El.sl (El.int .u8)) d29_22 a0.w.ways.2.2.got, blk b0 (#[pt b0_18, vs ra139 x141.length rc140]) 72, row 56 4 (.slice ra139 x141.length rc140) x141.length rd142, tie api_Event.El rd142 x141, blk nb1 (#[vi a1.Kind, vi a1.At, vi a1.Line, vi a1.N, vi a1.Fault, vs sa1_5 a1.B.length sc1_5]) 29, R] w0 w ∧ signalman_player_do.l1 kq a0 a1 x134 x137 x138 x141 = some r ∧ kq ≤ k) (fun (x134, ra135, rc136, x137, x138, ra139, rc140, rd142, x141) => [(6, vs ra135 x137.length rc136), (7, vb x134)]) (_, _, _, _, _, _, _, _, _) ⟨HS, H, Nat.le_refl _⟩ ?_
          rintro kq143 ⟨x134, ra135, rc136, x137, x138, ra139, rc140, rd142, x141⟩ w ⟨HS, H, _⟩
          cases kq143 with
          | zero => exact absurd H (by simp [signalman_player_do.l1])
          | succ kq143 =>
           simp only [signalman_player_do.l1] at H
           refine go ?_
           refine V.cv H rfl (fun _ H => go ?_) (fun _ H => go ?_)
           ·apply V.da [9, 13, 14, 17] [12, 15, 16] [(19, _), (20, _), (21, _), (22, _), (23, _), (24, _), (25, _), (26, _), (27, _), (29, _), (30, _)] mo HS
            rfl
            refine T.e [27] [15, 16] [5, 6, 7, 8] fun w HS => ?_
            have HS := HS.b [3, 3, 1, 2, 2, 2, 2, 2, 2, 2, 2, 2, 2, 2, 2, 2, 2, 2, 2, 2, 2, 2, 2]
            refine Y.kl H func67 (fun _ h => world_World_Now.calls h HS.j23) ?_
            rintro t146 _ w H ⟨rfl, HS⟩
            have HS := HS.o23
            apply T.na [(28, _), (31, _)] HS
            exact nmk
            refine T.e [31] [15, 16] [10, 11, 12] (fun w HS => ?_) ⟨rd, rd, rd, rd, rd, rd, rd, .ns [(28, _), (29, _), (30, _)] ⟨rfl, rfl, rfl, tv⟩ rfl (fun w HS => X.bd (Value.agg #[vi t146, vi a1.At, vi (0), vs ra135 x137.length rc136]) rfl (fun _ => by kernel_rfl)), rds⟩
            refine ⟨_, Y.lc (e := 56) (sz := 4) [vi t146, vi a1.At, vi (0), vs ra135 x137.length rc136] HS rfl rfl (fun _ => by kernel_rfl), ?_⟩
            rintro _ w ⟨_, rfl, HS⟩
            have HS := St.tie_cons (((api_Event.pack (x := ({ Step := t146, At := a1.At, Ind := 0, B := x137 } : api_Event)) ((St.put (A := tie api_Event.El ([]) ([] : List api_Event)) (fun _ => tie.nil) HS).more 25 rfl (fun _ t => t) fsl.pers)).fr 1).fr 1)
            refine T.nw HS ?_
            refine T.e [23, 32] [] [1, 2, 3, 4] fun w HS => ?_
            obtain ⟨_, H⟩ := ite_n H
            refine ⟨_, Y.app (xs := x141) (ys := ([({ Step := t146, At := a1.At, Ind := 0, B := x137 } : api_Event)] : List api_Event)) 28 underlying39 ap56 rfl (by decide) HS rfl rfl rfl (rdC.at 1 row_rd HS rfl) (St.tie_one 0 HS rfl) (by omega) (by omega), ?_⟩
            rintro _ w ⟨_, _, rfl, HS⟩
            have HS := St.tie_app 1 (HS.fr 29) rfl
            apply T.na [(33, _), (34, _), (35, _)] HS
            exact nmk
            refine T.e [33, 35] [] [0, 15, 16] fun w HS => ?_
            refine Y.sr 1 HS rfl rfl rfl fun _ w HS => ?_
            refine T.nn HS ?_
            refine T.ff [0, 1, 2] fun w HS => ?_
            refine go ?_
            have HS := HS.b [5]
            refine W.kl H func148 (fun _ h => station_Station_Recv.calls h HS.j1) ?_
            rintro _ _ w H ⟨_, _, rfl, HS⟩
            have HS := HS.o2
            refine go ?_
            have HS := HS.ke [0, 0, 26, 3, 3, 3, 3, 3, 3, 3, 3, 3, 3, 3, 3, 3, 3, 3, 3, 3, 3, 3, 3, 3, 3, 4, 4, 0, 3, 3]
            exact At.rn (_, _, _, _, _, _, _, _, _) ⟨HS, H, by omega⟩
           ·refine At.end0 rfl ⟨_, rfl, ?_⟩
            refine go ?_
            refine At.ret1 rfl rfl ⟨_, rfl, ?_⟩
            refine go ?_
            have HS := (signalman_player.close tv ((world_World.close tv (HS.b [3, 3, 1, 2, 2, 2, 2, 2, 2, 2, 2, 2, 2, 2, 2, 2, 2, 2, 2, 2, 2, 2, 2])).b [3, 0, 2, 2])).ke [0, 3]
            exact rt
         ·refine V.cd H rfl (fun _ H => go ?_) (fun _ H => go ?_)
          ·have HS := HS.b [3]
           refine W.kl H func101 (fun _ h => station_Station_Command.calls h HS.j1) ?_
           rintro _ _ w H ⟨rfl, HS⟩
           have HS := HS.o1
           refine go ?_
           refine W.kl H func62 (fun _ h => signalman_wrong.calls h HS.j0) ?_
           rintro _ _ w H ⟨rfl, HS⟩
           have HS := HS.o0
           refine go ?_
           refine At.ret1 rfl rfl ⟨_, rfl, ?_⟩
           refine go ?_
           have HS := (signalman_player.close tv ((world_World.close tv (HS.b [2, 2, 0, 1, 1, 1, 1, 1, 1, 1, 1, 1, 1, 1, 1, 1, 1, 1, 1, 1, 1, 1, 1])).b [2, 0, 1, 1])).ke [0, 2]
           exact rt
          ·refine At.ret1 rfl rfl ⟨_, rfl, ?_⟩
           refine go ?_
           have HS := (signalman_player.close tv ((world_World.close tv (HS.b [1, 1, 1, 1, 1, 1, 1, 1, 1, 1, 1, 1, 1, 1, 1, 1, 1, 1, 1, 1, 1, 1, 1])).b [2, 0, 1, 1])).ke [0, 2]
           exact rt
    ·refine At.ret1 rfl rfl ⟨_, rfl, ?_⟩
     apply T.na [(44, _), (5, _)] HS
     exact nmk
     refine T.ff [0, 3, 5] fun w HS => ?_
     refine go ?_
     refine W.r (X.eqP underlying69 rfl rfl) rfl (go ?_)
     have HS := (signalman_player.close tv HS).ke [0, 1]
     exact rt
   ·refine At.ret1 rfl rfl ⟨_, rfl, ?_⟩
    refine go ?_
    refine At.ret1 rfl rfl ⟨_, rfl, ?_⟩
    apply T.na [(44, _), (5, _)] HS
    exact nmk
    refine T.ff [0, 3, 5] fun w HS => ?_
    refine go ?_
    refine W.r (X.eqP underlying69 rfl rfl) rfl (go ?_)
    have HS := (signalman_player.close tv HS).ke [0, 1]
    exact rt
def api_Op.El : El api_Op := El.iso (El.prod (El.int .i64) (El.prod (El.int .i64) (El.prod (El.int .i64) (El.prod (El.int .i64) (El.prod (El.int .i64) (El.prod (El.sl (El.int .u8)) El.unit)))))) (fun x => (x.Kind, (x.At, (x.Line, (x.N, (x.Fault, (x.B, ())))))))
theorem api_Op.unpack {c : List Value} {x : api_Op} {L : List As} {w0 w : World} (hs : Sep.St (api_Op.El.p c x :: L) w0 w) : ∃ a5 : Option Addr, ∃ m5 : Nat, c = [vi x.Kind, vi x.At, vi x.Line, vi x.N, vi x.Fault, vs a5 x.B.length m5] ∧ Sep.St (fsl 1 (.slice a5 x.B.length m5) x.B.length (x.B.map (Value.int .u8)) :: L) w0 w := by
 have hs : Sep.St ((El.prod (El.int .i64) (El.prod (El.int .i64) (El.prod (El.int .i64) (El.prod (El.int .i64) (El.prod (El.int .i64) (El.prod (El.sl (El.int .u8)) El.unit)))))).p c (x.Kind, (x.At, (x.Line, (x.N, (x.Fault, (x.B, ())))))) :: L) w0 w := hs
 obtain ⟨c0, r0, e0, hs⟩ := St.prod_open hs
 have hs : Sep.St ((El.int .i64).p c0 x.Kind :: (El.prod (El.int .i64) (El.prod (El.int .i64) (El.prod (El.int .i64) (El.prod (El.int .i64) (El.prod (El.sl (El.int .u8)) El.unit))))).p r0 (x.At, (x.Line, (x.N, (x.Fault, (x.B, ()))))) :: L) w0 w := hs
 obtain ⟨q0, hs⟩ := St.int_open hs
 have hs : Sep.St ((El.prod (El.int .i64) (El.prod (El.int .i64) (El.prod (El.int .i64) (El.prod (El.int .i64) (El.prod (El.sl (El.int .u8)) El.unit))))).p r0 (x.At, (x.Line, (x.N, (x.Fault, (x.B, ()))))) :: L) w0 w := hs
 obtain ⟨c1, r1, e1, hs⟩ := St.prod_open hs
 have hs : Sep.St ((El.int .i64).p c1 x.At :: (El.prod (El.int .i64) (El.prod (El.int .i64) (El.prod (El.int .i64) (El.prod (El.sl (El.int .u8)) El.unit)))).p r1 (x.Line, (x.N, (x.Fault, (x.B, ())))) :: L) w0 w := hs
 obtain ⟨q1, hs⟩ := St.int_open hs
 have hs : Sep.St ((El.prod (El.int .i64) (El.prod (El.int .i64) (El.prod (El.int .i64) (El.prod (El.sl (El.int .u8)) El.unit)))).p r1 (x.Line, (x.N, (x.Fault, (x.B, ())))) :: L) w0 w := hs
 obtain ⟨c2, r2, e2, hs⟩ := St.prod_open hs
 have hs : Sep.St ((El.int .i64).p c2 x.Line :: (El.prod (El.int .i64) (El.prod (El.int .i64) (El.prod (El.sl (El.int .u8)) El.unit))).p r2 (x.N, (x.Fault, (x.B, ()))) :: L) w0 w := hs
 obtain ⟨q2, hs⟩ := St.int_open hs
 have hs : Sep.St ((El.prod (El.int .i64) (El.prod (El.int .i64) (El.prod (El.sl (El.int .u8)) El.unit))).p r2 (x.N, (x.Fault, (x.B, ()))) :: L) w0 w := hs
 obtain ⟨c3, r3, e3, hs⟩ := St.prod_open hs
 have hs : Sep.St ((El.int .i64).p c3 x.N :: (El.prod (El.int .i64) (El.prod (El.sl (El.int .u8)) El.unit)).p r3 (x.Fault, (x.B, ())) :: L) w0 w := hs
 obtain ⟨q3, hs⟩ := St.int_open hs
 have hs : Sep.St ((El.prod (El.int .i64) (El.prod (El.sl (El.int .u8)) El.unit)).p r3 (x.Fault, (x.B, ())) :: L) w0 w := hs
 obtain ⟨c4, r4, e4, hs⟩ := St.prod_open hs
 have hs : Sep.St ((El.int .i64).p c4 x.Fault :: (El.prod (El.sl (El.int .u8)) El.unit).p r4 (x.B, ()) :: L) w0 w := hs
 obtain ⟨q4, hs⟩ := St.int_open hs
 have hs : Sep.St ((El.prod (El.sl (El.int .u8)) El.unit).p r4 (x.B, ()) :: L) w0 w := hs
 obtain ⟨c5, r5, e5, hs⟩ := St.prod_open hs
 have hs : Sep.St ((El.sl (El.int .u8)).p c5 x.B :: El.unit.p r5 () :: L) w0 w := hs
 obtain ⟨a5, m5, q5, hs⟩ := St.sl_openF (Value.int .u8) (fun t => tie_int t) hs
 have hs : Sep.St (fsl 1 (.slice a5 x.B.length m5) x.B.length (x.B.map (Value.int .u8)) :: El.unit.p r5 () :: L) w0 w := hs
 replace hs := hs.front 1 rfl
 have hs : Sep.St (El.unit.p r5 () :: fsl 1 (.slice a5 x.B.length m5) x.B.length (x.B.map (Value.int .u8)) :: L) w0 w := hs
 obtain ⟨qu, hs⟩ := St.unit_open hs
 exact ⟨a5, m5, by rw [e0, q0, e1, q1, e2, q2, e3, q3, e4, q4, e5, q5, qu]; rfl, hs⟩
theorem api_Op.pack {a5 : Option Addr} {m5 : Nat} {x : api_Op} {L : List As} {w0 w : World} (hs : Sep.St (fsl 1 (.slice a5 x.B.length m5) x.B.length (x.B.map (Value.int .u8)) :: L) w0 w) : Sep.St (api_Op.El.p [vi x.Kind, vi x.At, vi x.Line, vi x.N, vi x.Fault, vs a5 x.B.length m5] x :: L) w0 w := by
 have h1 := St.join (m := [fsl 1 (.slice a5 x.B.length m5) x.B.length (x.B.map (Value.int .u8))]) hs
 exact h1.mono fun h hh => ⟨[vi x.Kind], [vi x.At, vi x.Line, vi x.N, vi x.Fault, vs a5 x.B.length m5], rfl, rfl, ⟨[vi x.At], [vi x.Line, vi x.N, vi x.Fault, vs a5 x.B.length m5], rfl, rfl, ⟨[vi x.Line], [vi x.N, vi x.Fault, vs a5 x.B.length m5], rfl, rfl, ⟨[vi x.N], [vi x.Fault, vs a5 x.B.length m5], rfl, rfl, ⟨[vi x.Fault], [vs a5 x.B.length m5], rfl, rfl, ⟨[vs a5 x.B.length m5], [], rfl, ⟨_, _, rfl, Sp.fsl 0 hh rfl, int_tie⟩, rfl⟩⟩⟩⟩⟩⟩
mutual
def signalman_play.l0 : Nat → (List api_Op) → Int → signalman_player → (List Int) → Option (Option signalman_player × List Int)
 | 0, _, _, _, _ => none
 | k + 1, a1, x22, x23, x26 => (if x22 < (a1.length : Int) then (if 0 ≤ x22 ∧ x22 < (a1.length : Int) then ((signalman_player_do.f k x23 (a1.getD x22.toNat default)).bind fun t39 => (if (x26.length : Int) + ([t39.1] : List Int).length ≤ 1099511627776 then (signalman_play.l0 k a1 (w64 (x22 + 1)) t39.2 (x26 ++ ([t39.1] : List Int))) else none)) else none) else ((signalman_player_inds.f k x23).bind fun t47 => some (some t47, x26)))
end
def signalman_play.f (k : Nat) (a0 : api_Config) (a1 : List api_Op) : Option (Option signalman_player × List Int) := ((world_New.f k a0).bind fun t2 => (if t2.1.isNone = true then (if t2.2 = 0 then none else some (none, ([t2.2] : List Int))) else (if t2.2 = 0 then (signalman_play.l0 k a1 0 ({ w := t2.1.getD default, out := ([] : List api_Event) } : signalman_player) ([] : List Int)) else some (none, ([t2.2] : List Int)))))
theorem signalman_play.calls (H : signalman_play.f k a0 a1 = some r) (HS : St [R] w0 w) (hr1 : rdC R 6 (.slice sa1 a1.length sc1) a1.length sd1) (ht1 : ∀ h, R h → tie api_Op.El sd1 a1 h) : Calls Tryz.prog 29 #[Value.agg #[vi a0.Mode, vi a0.Modulus, vi a0.Window, vi a0.T1, vi a0.N2, vi a0.Hold, vi a0.Wait, vi a0.Keep, vi a0.Queue, vi a0.Size, vi a0.Ring, vi a0.Rate, vi a0.Bad, vi a0.Good, vb a0.Revert, vb a0.Wide], vs sa1 a1.length sc1] w (Ret fun u w => ∃ bq0 aq1 cq1, u = Value.tuple #[optv bq0 r.1, vs aq1 r.2.length cq1] ∧ St [optAt signalman_player.at bq0 r.1, row 44 1 (.slice aq1 r.2.length cq1) r.2.length (r.2.map (Value.int .i64)), R] w0 w) := by
 refine calls_enter func29 rfl rfl ?_
 have HS := St.more 0 HS rfl ht1 tie.pers
 refine go ?_
 refine W.e (Y.box HS rfl) rfl ?_
 rintro _ w ⟨nb1, rfl, HS⟩
 refine go ?_
 obtain ⟨t2, A3, H⟩ := bind_s H
 refine ite_c H (fun c4 H => ?_) (fun c4 H => ?_)
 ·refine W.e (Y.cl func42 (world_New.calls A3 HS.j0)) rfl ?_
  rintro _ w ⟨bt2_0, rfl, HS⟩
  have HS := St.optN c4 HS.o1
  rw [optv_n c4]
  refine go ?_
  refine V.cm H rfl (fun _ H => go ?_) (fun _ H => go ?_)
  ·exact nomatch H
  ·refine W.e (Y.ls (e := 44) (Value.int .i64) ([t2.2] : List Int) HS rfl rfl (fun _ => by kernel_rfl)) rfl ?_
   rintro _ w ⟨lb12, rfl, HS⟩
   refine go ?_
   have HS := (HS.more (B := optAt signalman_player.at 0 none) 0 rfl (fun _ _ => tv) (fun _ => tv)).ke [0, 0, 2]
   cases H
   exact At.ret2 rfl rfl rfl ⟨_, rfl, 0, (some ⟨lb12, 0, none⟩), 1, rfl, HS⟩
 ·refine W.e (Y.cl func42 (world_New.calls A3 HS.j0)) rfl ?_
  rintro _ w ⟨bt2_0, rfl, HS⟩
  have HS := St.optS default c4 HS.o1
  rw [optv_s c4]
  refine go ?_
  refine V.cm H rfl (fun _ H => go ?_) (fun _ H => go ?_)
  ·refine W.r (X.bd (Value.agg #[pt bt2_0, vs none 0 0]) rfl (fun _ => by kernel_rfl)) rfl ?_
   refine W.e (Y.box HS rfl) rfl ?_
   rintro _ w ⟨nb19, rfl, HS⟩
   refine go ?_
   have HS := api_Config.close tv ((signalman_player.close (l1 := ([] : List api_Event)) tv ((row_nilE api_Event.El 56 4 (row_nilF (Value.int .i64) 44 1 HS)).b [3, 3])).b [2])
   refine V.lj (σ := Int × signalman_player × Option Addr × Nat × List Int) [8, 24, 25] (fun kq (x22, x23, ra24, rc25, x26) w => St [api_Config.at nb1 a0, signalman_player.at nb19 x23, row 44 1 (.slice ra24 x26.length rc25) x26.length (x26.map (Value.int .i64)), tie api_Op.El sd1 a1, R] w0 w ∧ signalman_play.l0 kq a1 x22 x23 x26 = some r ∧ kq ≤ k) (fun (x22, x23, ra24, rc25, x26) => [(9, vs ra24 x26.length rc25), (26, vi x22)]) (_, _, _, _, _) ⟨HS, H, Nat.le_refl _⟩ ?_
   rintro kq27 ⟨x22, x23, ra24, rc25, x26⟩ w ⟨HS, H, _⟩
   cases kq27 with
   | zero => exact absurd H (by simp [signalman_play.l0])
   | succ kq27 =>
    simp only [signalman_play.l0] at H
    refine go ?_
    refine V.cd H rfl (fun _ H => go ?_) (fun _ H => go ?_)
    ·obtain ⟨c30, H⟩ := ite_n H
     obtain ⟨_, _, hh⟩ := (rdC.at 4 hr1 HS rfl).some (by decide) c30.1 c30.2; subst hh
     refine go ?_
     obtain ⟨_, hc34, HS⟩ := St.tie_at 3 HS rfl default c30.1 c30.2
     obtain ⟨ea35, em36, he37, HN⟩ := api_Op.unpack HS; clear HS; subst he37; have HS := HN
     refine W.r (X.loadEl underlying29 rfl inf29 rfl (vs := [vi ((a1.getD x22.toNat default).Kind), vi ((a1.getD x22.toNat default).At), vi ((a1.getD x22.toNat default).Line), vi ((a1.getD x22.toNat default).N), vi ((a1.getD x22.toNat default).Fault), vs ea35 ((a1.getD x22.toNat default).B).length em36]) ((rdC.at 5 hr1 HS rfl).cellsAt0 (fun j u h => hc34 j u h))) rfl (W.e (Y.alloc (z := Value.agg (#[vi (0), vi (0), vi (0), vi (0), vi (0), vs none 0 0])) HS ze29) rfl ?_)
     rintro _ w ⟨_, rfl, HS⟩
     refine W.ss HS rfl rfl rfl rfl fun w HS => go ?_
     have HS := HS.b [3]
     refine W.kl H func43 (fun _ h => signalman_player_do.calls h HS.j1 (rdC.part 1 fsl.rd rfl)) ?_
     rintro t39 _ w H ⟨rfl, HS⟩
     have HS := HS.o1
     refine W.e (Y.ls (e := 44) (Value.int .i64) ([t39.1] : List Int) HS rfl rfl (fun _ => by kernel_rfl)) rfl ?_
     rintro _ w ⟨_, rfl, HS⟩
     obtain ⟨_, H⟩ := ite_n H
     refine W.e (Y.appF (Value.int .i64) (fun _ => rfl) 5 underlying40 ap44 rfl HS rfl rfl rfl (rdC.at 0 row_rd HS rfl) (by omega) (by omega)) rfl ?_
     rintro _ w ⟨_, _, rfl, HS⟩
     refine go ?_
     have HS := HS.ke [4, 1, 3, 3, 3]
     exact At.rn (_, _, _, _, _) ⟨HS, H, by omega⟩
    ·have HS := HS.b [1]
     refine W.kl H func44 (fun _ h => signalman_player_inds.calls h HS.j1) ?_
     rintro _ _ w H ⟨rfl, HS⟩
     have HS := HS.o1
     refine go ?_
     have HS := HS.ke [0, 1, 2]
     cases H
     exact At.ret2 rfl rfl rfl ⟨_, rfl, nb19, ra24, rc25, rfl, HS⟩
  ·refine W.e (Y.ls (e := 44) (Value.int .i64) ([t2.2] : List Int) HS rfl rfl (fun _ => by kernel_rfl)) rfl ?_
   rintro _ w ⟨lb51, rfl, HS⟩
   refine go ?_
   have HS := (HS.more (B := optAt signalman_player.at 0 none) 0 rfl (fun _ _ => tv) (fun _ => tv)).ke [0, 0, 3]
   cases H
   exact At.ret2 rfl rfl rfl ⟨_, rfl, 0, (some ⟨lb51, 0, none⟩), 1, rfl, HS⟩
def signalman_Play.f (k : Nat) (a0 : api_Config) (a1 : List api_Op) : Option (List api_Event × List Int) := ((signalman_play.f k a0 a1).bind fun t2 => (if t2.1.isNone = true then some (([] : List api_Event), t2.2) else some ((t2.1.getD default).out, t2.2)))
theorem signalman_Play.calls (H : signalman_Play.f k a0 a1 = some r) (HS : St [R] w0 w) (hr1 : rdC R 6 (.slice sa1 a1.length sc1) a1.length sd1) (ht1 : ∀ h, R h → tie api_Op.El sd1 a1 h) : Calls Tryz.prog 17 #[Value.agg #[vi a0.Mode, vi a0.Modulus, vi a0.Window, vi a0.T1, vi a0.N2, vi a0.Hold, vi a0.Wait, vi a0.Keep, vi a0.Queue, vi a0.Size, vi a0.Ring, vi a0.Rate, vi a0.Bad, vi a0.Good, vb a0.Revert, vb a0.Wide], vs sa1 a1.length sc1] w (Ret fun u w => ∃ aq0 cq0 dq0 aq1 cq1, u = Value.tuple #[vs aq0 r.1.length cq0, vs aq1 r.2.length cq1] ∧ St [row 56 4 (.slice aq0 r.1.length cq0) r.1.length dq0, tie api_Event.El dq0 r.1, row 44 1 (.slice aq1 r.2.length cq1) r.2.length (r.2.map (Value.int .i64)), R] w0 w) := by
 refine calls_enter func17 rfl rfl ?_
 have HS := St.more 0 HS rfl ht1 tie.pers
 refine go ?_
 refine W.e (Y.box HS rfl) rfl ?_
 rintro _ w ⟨_, rfl, HS⟩
 refine go ?_
 obtain ⟨_, A3, H⟩ := bind_s H
 refine ite_c H (fun c4 H => ?_) (fun c4 H => ?_)
 ·refine W.e (Y.cl func29 (signalman_play.calls A3 HS.j0 (rdC.part 2 hr1 rfl) (fun h hh => let ⟨_, l, t⟩ := Sp.has 1 hh rfl; tie.mono t l))) rfl ?_
  rintro _ w ⟨bt2_0, at2_1, ct2_1, rfl, HS⟩
  have HS := St.optN c4 HS.o2
  rw [optv_n c4]
  refine go ?_
  refine W.r (X.eqP underlying66 rfl rfl) rfl (go ?_)
  have HS := (row_nilE api_Event.El 56 4 HS).ke [0, 0, 0, 2]
  cases H
  exact At.ret2 rfl rfl rfl ⟨_, rfl, none, 0, [], at2_1, ct2_1, rfl, HS⟩
 ·refine W.e (Y.cl func29 (signalman_play.calls A3 HS.j0 (rdC.part 2 hr1 rfl) (fun h hh => let ⟨_, l, t⟩ := Sp.has 1 hh rfl; tie.mono t l))) rfl ?_
  rintro _ w ⟨bt2_0, at2_1, ct2_1, rfl, HS⟩
  have HS := St.optS default c4 HS.o2
  rw [optv_s c4]
  refine go ?_
  refine W.r (X.eqP underlying66 rfl rfl) rfl (go ?_)
  obtain ⟨_, a1_9, c1_9, d1_9, _, HS⟩ := signalman_player.open HS
  refine go ?_
  have HS := HS.ke [2, 2, 2, 4]
  cases H
  exact At.ret2 rfl rfl rfl ⟨_, rfl, a1_9, c1_9, d1_9, at2_1, ct2_1, rfl, HS⟩
def signalmanlaw25_num.f (a0 : Int) : Option Int := some a0
theorem signalmanlaw25_num.calls (H : signalmanlaw25_num.f a0 = some r) (HS : St [R] w0 w) : Calls Tryz.prog 18 #[vi a0] w (Ret fun u w => u = vi r ∧ St [R] w0 w) := by
 refine calls_enter func18 rfl rfl (go ?_)
 exact rt
def signalmanlaw25_alive.f (k : Nat)  : Option Bool := ((signalmanlaw20_Good.f 0 3 30 false false).bind fun t1 => ((signalman_Play.f k t1 []).bind fun t4 => ((signalman_Play.f k t1 ([({ Kind := 2, At := 0, Line := 0, N := 0, Fault := 0, B := ([] : List Int) } : api_Op), ({ Kind := 1, At := 0, Line := 0, N := 60, Fault := 0, B := ([] : List Int) } : api_Op)] : List api_Op)).bind fun t9 => (if (t4.1.length : Int) = 0 then (if (t4.2.length : Int) = 0 then (if (t9.2.length : Int) = 2 then (if 0 ≤ (0 : Int) ∧ (0 : Int) < (t9.2.length : Int) then ((signalmanlaw25_num.f (t9.2.getD (0 : Int).toNat 0)).bind fun t17 => (if t17 = 0 then (if (t9.1.length : Int) = 2 then (if 0 ≤ (0 : Int) ∧ (0 : Int) < (t9.1.length : Int) then some (decide (((t9.1.getD (0 : Int).toNat default).Ind) = 1)) else none) else some false) else some false)) else none) else some false) else some false) else some false))))
theorem signalmanlaw25_alive.calls (H : signalmanlaw25_alive.f k = some r) (HS : St [R] w0 w) : Calls Tryz.prog 12 #[] w (Ret fun u w => u = vb r ∧ St [R] w0 w) := by
 refine calls_enter func12 rfl rfl (go ?_)
 refine W.kl H func13 (fun _ h => signalmanlaw20_Good.calls h HS.j0) ?_
 rintro _ _ w H ⟨rfl, HS⟩
 have HS := HS.o0
 refine W.e (Y.alloc (z := Value.agg (#[vi (0), vi (0), vi (0), vi (0), vi (0), vi (0), vi (0), vi (0), vi (0), vi (0), vi (0), vi (0), vi (0), vi (0), vb false, vb false])) HS ze24) rfl ?_
 rintro _ w ⟨_, rfl, HS⟩
 refine W.ss HS rfl rfl rfl rfl fun w HS => go ?_
 refine W.kl H func17 (fun _ h => signalman_Play.calls h HS.j0 (rdC.nil rfl) (fun _ _ => tie.nil)) ?_
 rintro _ _ w H ⟨_, _, _, _, _, rfl, HS⟩
 have HS := HS.o3
 refine go ?_
 refine W.r (X.bd (Value.agg #[vi (2), vi (0), vi (0), vi (0), vi (0), vs none 0 0]) rfl (fun _ => by kernel_rfl)) rfl ?_
 refine W.r (X.bd (Value.agg #[vi (1), vi (0), vi (0), vi (60), vi (0), vs none 0 0]) rfl (fun _ => by kernel_rfl)) rfl ?_
 have HS := St.row_freeze (row_nilF (Value.int .u8) 5 1 (St.row_freeze (row_nilF (Value.int .u8) 5 1 HS)))
 refine W.e (Y.lc (e := 29) (sz := 6) [vi (2), vi (0), vi (0), vi (0), vi (0), vs none ([] : List Int).length 0, vi (1), vi (0), vi (0), vi (60), vi (0), vs none ([] : List Int).length 0] HS rfl rfl (fun _ => by kernel_rfl)) rfl ?_
 rintro _ w ⟨_, rfl, HS⟩
 have HS := St.tie_cons (((api_Op.pack (x := ({ Kind := 2, At := 0, Line := 0, N := 0, Fault := 0, B := ([] : List Int) } : api_Op)) ((St.tie_cons (((api_Op.pack (x := ({ Kind := 1, At := 0, Line := 0, N := 60, Fault := 0, B := ([] : List Int) } : api_Op)) ((St.put (A := tie api_Op.El ([]) ([] : List api_Op)) (fun _ => tie.nil) HS).more 2 rfl (fun _ t => t) fsl.pers)).fr 1).fr 1)).more 3 rfl (fun _ t => t) fsl.pers)).fr 1).fr 1)
 refine W.kl H func17 (fun _ h => signalman_Play.calls h HS.j0 (rdC.part 1 row_rd rfl) (fun h hh => let ⟨_, l, t⟩ := Sp.has 0 hh rfl; tie.mono t l)) ?_
 rintro _ _ w H ⟨_, _, _, _, _, rfl, HS⟩
 have HS := HS.o3
 refine go ?_
 refine W.cd 23 H rfl (fun _ H => go ?_) (fun _ H => go ?_)
 ·refine W.cd 28 H rfl (fun _ H => go ?_) (fun _ H => go ?_)
  ·refine W.cd 33 H rfl (fun _ H => go ?_) (fun _ H => go ?_)
   ·obtain ⟨c14, H⟩ := ite_n H
    obtain ⟨_, _, hh⟩ := (rdC.at 2 row_rd HS rfl).some (by decide) c14.1 c14.2; subst hh
    refine go ?_
    refine W.r (X.load underlying44 rfl rfl ((rdC.at 2 row_rd HS rfl).cellI c14.1 c14.2)) rfl (go ?_)
    refine W.kl H func18 (fun _ h => signalmanlaw25_num.calls h HS.j0) ?_
    rintro _ _ w H ⟨rfl, HS⟩
    have HS := HS.o0
    refine go ?_
    refine W.cd 40 H rfl (fun _ H => go ?_) (fun _ H => go ?_)
    ·refine W.cd 45 H rfl (fun _ H => go ?_) (fun _ H => go ?_)
     ·obtain ⟨c21, H⟩ := ite_n H
      obtain ⟨_, _, hh⟩ := (rdC.at 0 row_rd HS rfl).some (by decide) c21.1 c21.2; subst hh
      refine go ?_
      obtain ⟨_, hc25, HS⟩ := St.tie_at 1 HS rfl default c21.1 c21.2
      obtain ⟨_, _, he28, HN⟩ := api_Event.unpack HS; clear HS; subst he28; have HS := HN
      refine W.r (X.load underlying3 rfl rfl ((rdC.at 1 row_rd HS rfl).cellEl (hc25 2 _ rfl))) rfl (go ?_)
      have HS := HS.ke [12]
      exact rt
     ·have HS := HS.ke [11]
      exact rt
    ·have HS := HS.ke [11]
     exact rt
   ·have HS := HS.ke [11]
    exact rt
  ·have HS := HS.ke [11]
   exact rt
 ·have HS := HS.ke [11]
  exact rt
def signalmanref15_within.f (a0 : Int) (a1 : Int) (a2 : Int) : Option Bool := (if a0 ≥ a1 then some (decide (a0 ≤ a2)) else some false)
theorem signalmanref15_within.calls (H : signalmanref15_within.f a0 a1 a2 = some r) (HS : St [R] w0 w) : Calls Tryz.prog 41 #[vi a0, vi a1, vi a2] w (Ret fun u w => u = vb r ∧ St [R] w0 w) := by
 refine calls_enter func41 rfl rfl (go ?_)
 refine W.cd 10 H rfl (fun _ H => go ?_) (fun _ H => go ?_)
 ·exact rt
 ·exact rt
def signalmanref1_Cut.f (a0 : Int) (a1 : Int) (a2 : Int) : Option Int := (if a0 < a1 then some a1 else (if a0 > a2 then some a2 else some a0))
theorem signalmanref1_Cut.calls (H : signalmanref1_Cut.f a0 a1 a2 = some r) (HS : St [R] w0 w) : Calls Tryz.prog 51 #[vi a0, vi a1, vi a2] w (Ret fun u w => u = vi r ∧ St [R] w0 w) := by
 refine calls_enter func51 rfl rfl (go ?_)
 refine V.cd H rfl (fun _ H => go ?_) (fun _ H => go ?_)
 ·exact rt
 ·refine V.cd H rfl (fun _ H => go ?_) (fun _ H => go ?_)
  ·exact rt
  ·exact rt
def signalmanref15_Most.f (a0 : api_Config) : Option Int := ((signalmanref1_Cut.f a0.Size 1 1000).bind fun t2 => some (w64 ((w64 (2 * (w64 (t2 + 16)))) + 2)))
theorem signalmanref15_Most.calls (H : signalmanref15_Most.f a0 = some r) (HS : St [R] w0 w) : Calls Tryz.prog 32 #[Value.agg #[vi a0.Mode, vi a0.Modulus, vi a0.Window, vi a0.T1, vi a0.N2, vi a0.Hold, vi a0.Wait, vi a0.Keep, vi a0.Queue, vi a0.Size, vi a0.Ring, vi a0.Rate, vi a0.Bad, vi a0.Good, vb a0.Revert, vb a0.Wide]] w (Ret fun u w => u = vi r ∧ St [R] w0 w) := by
 refine calls_enter func32 rfl rfl (go ?_)
 refine W.e (Y.box HS rfl) rfl ?_
 rintro _ w ⟨_, rfl, HS⟩
 refine go ?_
 refine W.kl H func51 (fun _ h => signalmanref1_Cut.calls h HS.j0) ?_
 rintro _ _ w H ⟨rfl, HS⟩
 have HS := HS.o0
 refine go ?_
 have HS := HS.ke [1]
 exact rt
mutual
def signalmanref15_Check.j3  (x9 : Bool) : Option Int := (if x9 = true then some (0) else some (1))
def signalmanref15_Check.j2 (a0 : api_Config) (x7 : Bool) : Option Int := (if x7 = true then ((signalmanref15_Most.f a0).bind fun t15 => ((signalmanref15_within.f a0.Ring t15 1048576).bind fun t17 => (if t17 = true then (signalmanref15_Check.j3 (decide ((w64 (a0.Keep * a0.Rate)) ≥ 32))) else (signalmanref15_Check.j3 false)))) else (signalmanref15_Check.j3 false))
def signalmanref15_Check.j1 (a0 : api_Config) (x5 : Bool) : Option Int := (if x5 = true then ((signalmanref15_within.f a0.Keep 1 65536).bind fun t23 => (if t23 = true then ((signalmanref15_within.f a0.Queue 0 1000).bind fun t26 => (if t26 = true then ((signalmanref15_within.f a0.Size 1 1000).bind fun t29 => (if t29 = true then ((signalmanref15_within.f a0.Rate 1 4096).bind fun t32 => (if t32 = true then ((signalmanref15_within.f a0.Bad 1 16).bind fun t35 => (if t35 = true then ((signalmanref15_within.f a0.Good 1 16).bind fun t38 => (signalmanref15_Check.j2 a0 t38)) else (signalmanref15_Check.j2 a0 false))) else (signalmanref15_Check.j2 a0 false))) else (signalmanref15_Check.j2 a0 false))) else (signalmanref15_Check.j2 a0 false))) else (signalmanref15_Check.j2 a0 false))) else (signalmanref15_Check.j2 a0 false))
def signalmanref15_Check.j0 (a0 : api_Config) (x3 : Bool) : Option Int := (if x3 = true then ((signalmanref15_within.f a0.Window 1 (w64 (a0.Modulus.tdiv (8)))).bind fun t43 => (if t43 = true then ((signalmanref15_within.f a0.T1 1 1048576).bind fun t46 => (if t46 = true then ((signalmanref15_within.f a0.Wait 1 1048576).bind fun t49 => (if t49 = true then ((signalmanref15_within.f a0.N2 1 100).bind fun t52 => (if t52 = true then ((signalmanref15_within.f a0.Hold 0 1048576).bind fun t55 => (signalmanref15_Check.j1 a0 t55)) else (signalmanref15_Check.j1 a0 false))) else (signalmanref15_Check.j1 a0 false))) else (signalmanref15_Check.j1 a0 false))) else (signalmanref15_Check.j1 a0 false))) else (signalmanref15_Check.j1 a0 false))
end
def signalmanref15_Check.f (a0 : api_Config) : Option Int := (if a0.Mode = 0 then (if a0.Modulus = 128 then (signalmanref15_Check.j0 a0 true) else (signalmanref15_Check.j0 a0 (decide (a0.Modulus = 32768)))) else (if a0.Mode = 1 then (if a0.Modulus = 128 then (signalmanref15_Check.j0 a0 true) else (signalmanref15_Check.j0 a0 (decide (a0.Modulus = 32768)))) else (signalmanref15_Check.j0 a0 false)))
theorem signalmanref15_Check.calls (H : signalmanref15_Check.f a0 = some r) (HS : St [R] w0 w) : Calls Tryz.prog 27 #[Value.agg #[vi a0.Mode, vi a0.Modulus, vi a0.Window, vi a0.T1, vi a0.N2, vi a0.Hold, vi a0.Wait, vi a0.Keep, vi a0.Queue, vi a0.Size, vi a0.Ring, vi a0.Rate, vi a0.Bad, vi a0.Good, vb a0.Revert, vb a0.Wide]] w (Ret fun u w => u = vi r ∧ St [R] w0 w) := by
 refine calls_enter func27 rfl rfl (go ?_)
 refine W.e (Y.box HS rfl) rfl ?_
 rintro _ w ⟨nb1, rfl, HS⟩
 refine gs ?_
 refine V.mj (σ := Bool) [1] (fun x3 w => St [api_Config.at nb1 a0, R] w0 w ∧ signalmanref15_Check.j0 a0 x3 = some r) (fun x3 => [(3, vb x3)]) ?_ ?_
 ·refine go ?_
  refine W.cd 7 H rfl (fun _ H => go ?_) (fun _ H => go ?_)
  ·refine W.cd 16 H rfl (fun _ H => go ?_) (fun _ H => go ?_)
   ·have HS := api_Config.close tv HS
    exact At.mt _ ⟨HS, H⟩
   ·have HS := api_Config.close tv HS
    exact At.mt _ ⟨HS, H⟩
  ·refine W.cd 12 H rfl (fun _ H => go ?_) (fun _ H => go ?_)
   ·refine W.cd 16 H rfl (fun _ H => go ?_) (fun _ H => go ?_)
    ·have HS := api_Config.close tv HS
     exact At.mt _ ⟨HS, H⟩
    ·have HS := api_Config.close tv HS
     exact At.mt _ ⟨HS, H⟩
   ·have HS := api_Config.close tv HS
    exact At.mt _ ⟨HS, H⟩
 ·rintro x3 w ⟨HS, H⟩
  refine V.mj (σ := Bool) [1] (fun x5 w => St [api_Config.at nb1 a0, R] w0 w ∧ signalmanref15_Check.j1 a0 x5 = some r) (fun x5 => [(3, vb x5)]) ?_ ?_
  ·refine go ?_
   refine W.cv 23 H rfl (fun _ H => go ?_) (fun _ H => go ?_)
   ·obtain ⟨_, HS⟩ := api_Config.open HS
    refine go ?_
    refine W.r (X.quo rfl rfl (by decide)) rfl (go ?_)
    refine W.kl H func41 (fun _ h => signalmanref15_within.calls h HS.j0) ?_
    rintro _ _ w H ⟨rfl, HS⟩
    have HS := HS.o0
    refine go ?_
    refine W.cv 31 H rfl (fun _ H => go ?_) (fun _ H => go ?_)
    ·refine W.kl H func41 (fun _ h => signalmanref15_within.calls h HS.j0) ?_
     rintro _ _ w H ⟨rfl, HS⟩
     have HS := HS.o0
     refine go ?_
     refine W.cv 36 H rfl (fun _ H => go ?_) (fun _ H => go ?_)
     ·refine W.kl H func41 (fun _ h => signalmanref15_within.calls h HS.j0) ?_
      rintro _ _ w H ⟨rfl, HS⟩
      have HS := HS.o0
      refine go ?_
      refine W.cv 41 H rfl (fun _ H => go ?_) (fun _ H => go ?_)
      ·refine W.kl H func41 (fun _ h => signalmanref15_within.calls h HS.j0) ?_
       rintro _ _ w H ⟨rfl, HS⟩
       have HS := HS.o0
       refine go ?_
       refine W.cv 46 H rfl (fun _ H => go ?_) (fun _ H => go ?_)
       ·refine W.kl H func41 (fun _ h => signalmanref15_within.calls h HS.j0) ?_
        rintro _ _ w H ⟨rfl, HS⟩
        have HS := HS.o0
        refine go ?_
        have HS := api_Config.close tv HS
        exact At.mt _ ⟨HS, H⟩
       ·have HS := api_Config.close tv HS
        exact At.mt _ ⟨HS, H⟩
      ·have HS := api_Config.close tv HS
       exact At.mt _ ⟨HS, H⟩
     ·have HS := api_Config.close tv HS
      exact At.mt _ ⟨HS, H⟩
    ·have HS := api_Config.close tv HS
     exact At.mt _ ⟨HS, H⟩
   ·exact At.mt _ ⟨HS, H⟩
  ·rintro x5 w ⟨HS, H⟩
   refine V.mj (σ := Bool) [1] (fun x7 w => St [api_Config.at nb1 a0, R] w0 w ∧ signalmanref15_Check.j2 a0 x7 = some r) (fun x7 => [(3, vb x7)]) ?_ ?_
   ·refine go ?_
    refine W.cv 52 H rfl (fun _ H => go ?_) (fun _ H => go ?_)
    ·obtain ⟨_, HS⟩ := api_Config.open HS
     refine go ?_
     refine W.kl H func41 (fun _ h => signalmanref15_within.calls h HS.j0) ?_
     rintro _ _ w H ⟨rfl, HS⟩
     have HS := HS.o0
     refine go ?_
     refine W.cv 57 H rfl (fun _ H => go ?_) (fun _ H => go ?_)
     ·refine W.kl H func41 (fun _ h => signalmanref15_within.calls h HS.j0) ?_
      rintro _ _ w H ⟨rfl, HS⟩
      have HS := HS.o0
      refine go ?_
      refine W.cv 62 H rfl (fun _ H => go ?_) (fun _ H => go ?_)
      ·refine W.kl H func41 (fun _ h => signalmanref15_within.calls h HS.j0) ?_
       rintro _ _ w H ⟨rfl, HS⟩
       have HS := HS.o0
       refine go ?_
       refine W.cv 67 H rfl (fun _ H => go ?_) (fun _ H => go ?_)
       ·refine W.kl H func41 (fun _ h => signalmanref15_within.calls h HS.j0) ?_
        rintro _ _ w H ⟨rfl, HS⟩
        have HS := HS.o0
        refine go ?_
        refine W.cv 72 H rfl (fun _ H => go ?_) (fun _ H => go ?_)
        ·refine W.kl H func41 (fun _ h => signalmanref15_within.calls h HS.j0) ?_
         rintro _ _ w H ⟨rfl, HS⟩
         have HS := HS.o0
         refine go ?_
         refine W.cv 77 H rfl (fun _ H => go ?_) (fun _ H => go ?_)
         ·refine W.kl H func41 (fun _ h => signalmanref15_within.calls h HS.j0) ?_
          rintro _ _ w H ⟨rfl, HS⟩
          have HS := HS.o0
          refine go ?_
          have HS := api_Config.close tv HS
          exact At.mt _ ⟨HS, H⟩
         ·have HS := api_Config.close tv HS
          exact At.mt _ ⟨HS, H⟩
        ·have HS := api_Config.close tv HS
         exact At.mt _ ⟨HS, H⟩
       ·have HS := api_Config.close tv HS
        exact At.mt _ ⟨HS, H⟩
      ·have HS := api_Config.close tv HS
       exact At.mt _ ⟨HS, H⟩
     ·have HS := api_Config.close tv HS
      exact At.mt _ ⟨HS, H⟩
    ·exact At.mt _ ⟨HS, H⟩
   ·rintro x7 w ⟨HS, H⟩
    refine V.mj (σ := Bool) [] (fun x9 w => St [api_Config.at nb1 a0, R] w0 w ∧ signalmanref15_Check.j3 x9 = some r) (fun x9 => [(3, vb x9)]) ?_ ?_
    ·refine ite_c H (fun c12 H => ?_) (fun c12 H => ?_)
     ·obtain ⟨_, HS⟩ := api_Config.open HS
      apply V.da [5, 6] [7, 8, 9, 10, 11, 12, 13, 14, 15, 16] [(82, _), (83, _), (84, _), (85, _), (86, _)] mo HS
      rfl
      refine T.eG [86, 83] [7, 8, 9, 10, 11, 12, 13, 14, 15, 16] [0, 1, 4] fun w HS => ?_
      refine Y.kl H func32 (fun _ h => signalmanref15_Most.calls h HS.j0) ?_
      rintro _ _ w H ⟨rfl, HS⟩
      have HS := HS.o0
      refine T.nw HS ?_
      refine T.eG [85, 87, 83] [] [2, 3] fun w HS => ?_
      refine Y.kl H func41 (fun _ h => signalmanref15_within.calls h HS.j0) ?_
      rintro _ _ w H ⟨rfl, HS⟩
      have HS := HS.o0
      refine ite_c H (fun c19 H => ?_) (fun c19 H => ?_)
      ·apply T.na [(88, _), (89, _), (90, _), (91, _), (92, _), (93, _), (94, _), (95, _), (96, _), (97, _), (3, _)] HS
       exact nmk
       refine T.ff [3] fun w HS => ?_
       have HS := api_Config.close tv HS
       exact At.mt _ ⟨HS, H⟩
      ·apply T.na [(88, _), (89, _), (90, _), (91, _), (92, _), (93, _), (94, _), (95, _), (96, _), (97, _), (3, _)] HS
       exact nmk
       refine T.ff [3] fun w HS => ?_
       have HS := api_Config.close tv HS
       exact At.mt _ ⟨HS, H⟩
     ·apply V.da [5, 6] [7, 8, 9, 10, 11, 12, 13, 14, 15, 16] [(82, _), (83, _), (84, _), (85, _), (86, _)] mo HS
      rfl
      refine T.dp [6] [7, 8, 9, 10, 11, 12, 13, 14, 15, 16] [(87, undef)] nmk ?_
      refine T.dp [] [] [(88, undef), (89, vb false), (90, vb false), (91, undef), (92, undef), (93, undef), (94, undef), (95, undef), (96, undef), (97, vb false), (3, vb false)] nmk ?_
      refine T.ff [3] fun w HS => ?_
      exact At.mt _ ⟨HS, H⟩
    ·rintro x9 w ⟨HS, H⟩
     refine go ?_
     refine V.cx H rfl (fun _ H => go ?_) (fun _ H => go ?_)
     ·have HS := HS.ke [1]
      exact rt
     ·have HS := HS.ke [1]
      exact rt
mutual
def signalmanref20_Steps.j1 (x1 : Int) (x4 : Int) : Option Int := (if ¬ (x4 = 0) then (if (x1.tmod x4) > 0 then some (w64 ((w64 (x1.tdiv x4)) + 1)) else some (w64 (x1.tdiv x4))) else none)
def signalmanref20_Steps.j0  (x1 : Int) (x2 : Int) : Option Int := (if x2 < 1 then (signalmanref20_Steps.j1 x1 1) else (signalmanref20_Steps.j1 x1 x2))
end
def signalmanref20_Steps.f (a0 : Int) (a1 : Int) : Option Int := (if a0 < 0 then (signalmanref20_Steps.j0 0 a1) else (signalmanref20_Steps.j0 a0 a1))
theorem signalmanref20_Steps.calls (H : signalmanref20_Steps.f a0 a1 = some r) (HS : St [R] w0 w) : Calls Tryz.prog 28 #[vi a0, vi a1] w (Ret fun u w => u = vi r ∧ St [R] w0 w) := by
 refine calls_enter func28 rfl rfl ?_
 refine V.seq ?_
 refine gs ?_
 refine V.mj (σ := Int × Int) [] (fun (x1, x2) w => St [R] w0 w ∧ signalmanref20_Steps.j0 x1 x2 = some r) (fun (x1, x2) => [(0, vi x1), (1, vi x2)]) ?_ ?_
 ·refine go ?_
  refine V.cd H rfl (fun _ H => go ?_) (fun _ H => go ?_)
  ·exact At.mt (_, _) ⟨HS, H⟩
  ·exact At.mt (_, _) ⟨HS, H⟩
 ·rintro ⟨x1, x2⟩ w ⟨HS, H⟩
  refine V.mj (σ := Int) [0] (fun x4 w => St [R] w0 w ∧ signalmanref20_Steps.j1 x1 x4 = some r) (fun x4 => [(1, vi x4)]) ?_ ?_
  ·refine go ?_
   refine V.cd H rfl (fun _ H => go ?_) (fun _ H => go ?_)
   ·exact At.mt _ ⟨HS, H⟩
   ·exact At.mt _ ⟨HS, H⟩
  ·rintro x4 w ⟨HS, H⟩
   refine go ?_
   obtain ⟨c6, H⟩ := ite_n H
   refine W.r (X.quo rfl rfl c6) rfl (go ?_)
   refine W.r (X.rem rfl rfl c6) rfl (go ?_)
   refine V.cd H rfl (fun _ H => go ?_) (fun _ H => go ?_)
   ·exact rt
   ·exact rt
def signalmanref20_Latency.f (a0 : api_Config) : Option Int := ((signalmanref15_Check.f a0).bind fun t3 => (if t3 = 0 then ((signalmanref15_Most.f a0).bind fun t6 => ((signalmanref20_Steps.f (w64 ((w64 (2 * t6)) + 96)) a0.Rate).bind fun t8 => some (w64 (t8 + 4)))) else some (0)))
theorem signalmanref20_Latency.calls (H : signalmanref20_Latency.f a0 = some r) (HS : St [R] w0 w) : Calls Tryz.prog 20 #[Value.agg #[vi a0.Mode, vi a0.Modulus, vi a0.Window, vi a0.T1, vi a0.N2, vi a0.Hold, vi a0.Wait, vi a0.Keep, vi a0.Queue, vi a0.Size, vi a0.Ring, vi a0.Rate, vi a0.Bad, vi a0.Good, vb a0.Revert, vb a0.Wide]] w (Ret fun u w => u = vi r ∧ St [R] w0 w) := by
 refine calls_enter func20 rfl rfl (go ?_)
 refine W.e (Y.box HS rfl) rfl ?_
 rintro _ w ⟨_, rfl, HS⟩
 refine go ?_
 refine W.kl H func27 (fun _ h => signalmanref15_Check.calls h HS.j0) ?_
 rintro _ _ w H ⟨rfl, HS⟩
 have HS := HS.o0
 refine go ?_
 refine V.cm H rfl (fun _ H => go ?_) (fun _ H => go ?_)
 ·apply V.da [1, 6] [2, 3, 7, 8] [(6, _), (10, _), (11, _)] mo HS
  rfl
  refine T.e [6] [7, 8] [0] fun w HS => ?_
  refine Y.kl H func32 (fun _ h => signalmanref15_Most.calls h HS.j0) ?_
  rintro _ _ w H ⟨rfl, HS⟩
  have HS := HS.o0
  apply T.na [(7, _), (8, _), (9, _)] HS
  exact nmk
  refine T.e [9, 11] [] [2, 3, 4, 5] fun w HS => ?_
  refine Y.kl H func28 (fun _ h => signalmanref20_Steps.calls h HS.j0) ?_
  rintro _ _ w H ⟨rfl, HS⟩
  have HS := HS.o0
  apply T.na [(12, _), (13, _), (2, _)] HS
  exact nmk
  refine T.ff [2] fun w HS => ?_
  refine go ?_
  have HS := HS.ke [1]
  exact rt
 ·have HS := HS.ke [1]
  exact rt
def signalmanref20_Settle.f (a0 : api_Config) : Option Int := ((signalmanref15_Check.f a0).bind fun t3 => (if t3 = 0 then ((signalmanref20_Steps.f a0.Ring a0.Rate).bind fun t6 => ((signalmanref20_Latency.f a0).bind fun t8 => some (w64 ((w64 ((w64 ((w64 ((w64 ((w64 (a0.Keep * (w64 (a0.Good + 5)))) + a0.Hold)) + a0.Wait)) + (w64 (8 * t6)))) + t8)) + 8)))) else some (0)))
theorem signalmanref20_Settle.calls (H : signalmanref20_Settle.f a0 = some r) (HS : St [R] w0 w) : Calls Tryz.prog 14 #[Value.agg #[vi a0.Mode, vi a0.Modulus, vi a0.Window, vi a0.T1, vi a0.N2, vi a0.Hold, vi a0.Wait, vi a0.Keep, vi a0.Queue, vi a0.Size, vi a0.Ring, vi a0.Rate, vi a0.Bad, vi a0.Good, vb a0.Revert, vb a0.Wide]] w (Ret fun u w => u = vi r ∧ St [R] w0 w) := by
 refine calls_enter func14 rfl rfl (go ?_)
 refine W.e (Y.box HS rfl) rfl ?_
 rintro _ w ⟨_, rfl, HS⟩
 refine go ?_
 refine W.kl H func27 (fun _ h => signalmanref15_Check.calls h HS.j0) ?_
 rintro _ _ w H ⟨rfl, HS⟩
 have HS := HS.o0
 refine go ?_
 refine V.cm H rfl (fun _ H => go ?_) (fun _ H => go ?_)
 ·apply V.da [16, 20] [17, 18, 21, 22, 23] [(6, _), (7, _), (8, _), (9, _), (10, _), (11, _), (12, _), (13, _), (14, _), (15, _), (16, _), (17, _), (18, _), (19, _), (20, _), (21, _), (25, _)] mo HS
  rfl
  refine T.e [19, 21] [21, 22, 23] [12, 13, 14, 15] fun w HS => ?_
  refine Y.kl H func28 (fun _ h => signalmanref20_Steps.calls h HS.j0) ?_
  rintro _ _ w H ⟨rfl, HS⟩
  have HS := HS.o0
  apply T.na [(22, _), (23, _), (24, _)] HS
  exact nmk
  refine T.e [25] [] [19] fun w HS => ?_
  refine Y.kl H func20 (fun _ h => signalmanref20_Latency.calls h HS.j0) ?_
  rintro _ _ w H ⟨rfl, HS⟩
  have HS := HS.o0
  apply T.na [(26, _), (27, _), (28, _), (2, _)] HS
  exact nmk
  refine T.ff [2] fun w HS => ?_
  refine go ?_
  have HS := HS.ke [1]
  exact rt
 ·have HS := HS.ke [1]
  exact rt
def arq_Arq_State.f (a0 : arq_Arq) : Option Int := some a0.state
theorem arq_Arq_State.calls (H : arq_Arq_State.f a0 = some r) (HS : St [blk b0 (#[vi a0.m, vi a0.t1, vi a0.n2, vi a0.size, vi a0.state, vi a0.tag, vi a0.tries, vb a0.rejected, pt b8_p0, pt b9_p0, pt b10_p0, vs a11_p0 a0.out.length c11_p0, vs a12_p0 a0.inds.length c12_p0, vi a0.sent, vi a0.acked, vi a0.lost]) 156, backlog_Log.at b8_p0 a0.log, reorder_Order.at b9_p0 a0.order, clock_Set.at b10_p0 a0.timers, row 27 1 (.slice a11_p0 a0.out.length c11_p0) a0.out.length d11_p0, tie (El.sl (El.int .u8)) d11_p0 a0.out, row 3 1 (.slice a12_p0 a0.inds.length c12_p0) a0.inds.length (a0.inds.map (Value.int .i64)), R] w0 w) : Calls Tryz.prog 46 #[pt b0] w (Ret fun u w => u = vi r ∧ St [blk b0 (#[vi a0.m, vi a0.t1, vi a0.n2, vi a0.size, vi a0.state, vi a0.tag, vi a0.tries, vb a0.rejected, pt b8_p0, pt b9_p0, pt b10_p0, vs a11_p0 a0.out.length c11_p0, vs a12_p0 a0.inds.length c12_p0, vi a0.sent, vi a0.acked, vi a0.lost]) 156, backlog_Log.at b8_p0 a0.log, reorder_Order.at b9_p0 a0.order, clock_Set.at b10_p0 a0.timers, row 27 1 (.slice a11_p0 a0.out.length c11_p0) a0.out.length d11_p0, tie (El.sl (El.int .u8)) d11_p0 a0.out, row 3 1 (.slice a12_p0 a0.inds.length c12_p0) a0.inds.length (a0.inds.map (Value.int .i64)), R] w0 w) := by
 refine calls_enter func46 rfl rfl (go ?_)
 exact rt
def arq_Arq_Counts.f (a0 : arq_Arq) : Option (Int × Int × Int) := some (a0.sent, a0.acked, a0.lost)
theorem arq_Arq_Counts.calls (H : arq_Arq_Counts.f a0 = some r) (HS : St [blk b0 (#[vi a0.m, vi a0.t1, vi a0.n2, vi a0.size, vi a0.state, vi a0.tag, vi a0.tries, vb a0.rejected, pt b8_p0, pt b9_p0, pt b10_p0, vs a11_p0 a0.out.length c11_p0, vs a12_p0 a0.inds.length c12_p0, vi a0.sent, vi a0.acked, vi a0.lost]) 156, backlog_Log.at b8_p0 a0.log, reorder_Order.at b9_p0 a0.order, clock_Set.at b10_p0 a0.timers, row 27 1 (.slice a11_p0 a0.out.length c11_p0) a0.out.length d11_p0, tie (El.sl (El.int .u8)) d11_p0 a0.out, row 3 1 (.slice a12_p0 a0.inds.length c12_p0) a0.inds.length (a0.inds.map (Value.int .i64)), R] w0 w) : Calls Tryz.prog 49 #[pt b0] w (Ret fun u w => u = Value.tuple #[vi r.1, vi r.2.1, vi r.2.2] ∧ St [blk b0 (#[vi a0.m, vi a0.t1, vi a0.n2, vi a0.size, vi a0.state, vi a0.tag, vi a0.tries, vb a0.rejected, pt b8_p0, pt b9_p0, pt b10_p0, vs a11_p0 a0.out.length c11_p0, vs a12_p0 a0.inds.length c12_p0, vi a0.sent, vi a0.acked, vi a0.lost]) 156, backlog_Log.at b8_p0 a0.log, reorder_Order.at b9_p0 a0.order, clock_Set.at b10_p0 a0.timers, row 27 1 (.slice a11_p0 a0.out.length c11_p0) a0.out.length d11_p0, tie (El.sl (El.int .u8)) d11_p0 a0.out, row 3 1 (.slice a12_p0 a0.inds.length c12_p0) a0.inds.length (a0.inds.map (Value.int .i64)), R] w0 w) := by
 refine calls_enter func49 rfl rfl (go ?_)
 apply V.da [] [] [(5, _), (6, _), (7, _), (8, _), (9, _), (10, _), (11, _), (12, _), (13, _), (14, _), (15, _), (16, _), (2, _), (3, _), (4, _)] mo HS
 rfl
 refine T.ff [2, 3, 4] fun w HS => ?_
 refine go ?_
 exact rt
def monitor_Monitor_State.f (a0 : monitor_Monitor) : Option Int := some a0.state
theorem monitor_Monitor_State.calls (H : monitor_Monitor_State.f a0 = some r) (HS : St [blk b0 (#[vi a0.bad, vi a0.good, vi a0.silent, pt b3_p0, vi a0.row, vi a0.silence, vi a0.state]) 161, tally_Window.at b3_p0 a0.w, R] w0 w) : Calls Tryz.prog 50 #[pt b0] w (Ret fun u w => u = vi r ∧ St [blk b0 (#[vi a0.bad, vi a0.good, vi a0.silent, pt b3_p0, vi a0.row, vi a0.silence, vi a0.state]) 161, tally_Window.at b3_p0 a0.w, R] w0 w) := by
 refine calls_enter func50 rfl rfl (go ?_)
 exact rt
structure api_Status where
 State : Int
 Line : Int
 Lines : (Int × Int)
 Sent : Int
 Acked : Int
 Lost : Int
deriving DecidableEq, Inhabited
abbrev api_Status.Q (b : Nat) (l0 l1 l2 l3 l4 l5 l6 : Int) (L : List As) : List As := blk b (#[vi l0, vi l1, vi l2, vi l3, vi l4, vi l5, vi l6]) 33 :: L
abbrev api_Status.P (b : Nat) (x : api_Status) (L : List As) : List As := api_Status.Q b x.State x.Line x.Lines.1 x.Lines.2 x.Sent x.Acked x.Lost L
def api_Status.at (b : Nat) (x : api_Status) : As := fun h => True ∧ Sp (api_Status.P b x []) h
theorem api_Status.open {b : Nat} {x : api_Status} {L : List As} {w0 w : World} (hs : Sep.St (api_Status.at b x :: L) w0 w) : True ∧ Sep.St (api_Status.P b x L) w0 w := by
 obtain ⟨ho, ht, hu, h, hon, h1, h2, hd, e1, e2, ⟨hi, hA⟩, hl⟩ := hs
 exact ⟨hi, St.open (m := api_Status.P b x []) ⟨ho, ht, hu, h, hon, h1, h2, hd, e1, e2, hA, hl⟩⟩
theorem api_Status.close {b : Nat} {l0 l1 l2 l3 l4 l5 l6 : Int} {L : List As} {w0 w : World} (hi : True) (hs : Sep.St (api_Status.Q b l0 l1 l2 l3 l4 l5 l6 L) w0 w) : Sep.St (api_Status.at b ({ State := l0, Line := l1, Lines := (l2, l3), Sent := l4, Acked := l5, Lost := l6 } : api_Status) :: L) w0 w := by
 have h2 := St.join (m := api_Status.Q b l0 l1 l2 l3 l4 l5 l6 []) hs
 exact h2.mono fun h hh => ⟨hi, hh⟩
abbrev station_side.Q (b : Nat) (l0 : frame_Reader) (l1 : monitor_Monitor) (l2 : ring_Ring) (l3 l4 l5 l6 l7 l8 l9 : Int) (b0 b1 b2 : Nat) (L : List As) : List As := blk b (#[pt b0, pt b1, pt b2, vi l3, vi l4, vi l5, vi l6, vi l7, vi l8, vi l9]) 125 :: frame_Reader.at b0 l0 :: monitor_Monitor.at b1 l1 :: ring_Ring.at b2 l2 :: L
abbrev station_side.P (b : Nat) (x : station_side) (b0 b1 b2 : Nat) (L : List As) : List As := station_side.Q b x.reader x.monitor x.ring x.counts.Good x.counts.Bad x.counts.Aborts x.counts.Runts x.counts.Giants x.counts.Dropped x.counts.Twins b0 b1 b2 L
def station_side.at (b : Nat) (x : station_side) : As := fun h => True ∧ ∃ b0 : Nat, ∃ b1 : Nat, ∃ b2 : Nat, Sp (station_side.P b x b0 b1 b2 []) h
theorem station_side.open {b : Nat} {x : station_side} {L : List As} {w0 w : World} (hs : Sep.St (station_side.at b x :: L) w0 w) : ∃ b0 : Nat, ∃ b1 : Nat, ∃ b2 : Nat, True ∧ Sep.St (station_side.P b x b0 b1 b2 L) w0 w := by
 obtain ⟨ho, ht, hu, h, hon, h1, h2, hd, e1, e2, ⟨hi, b0, b1, b2, hA⟩, hl⟩ := hs
 exact ⟨b0, b1, b2, hi, St.open (m := station_side.P b x b0 b1 b2 []) ⟨ho, ht, hu, h, hon, h1, h2, hd, e1, e2, hA, hl⟩⟩
theorem station_side.close {b : Nat} {l0 : frame_Reader} {l1 : monitor_Monitor} {l2 : ring_Ring} {l3 l4 l5 l6 l7 l8 l9 : Int} {b0 b1 b2 : Nat} {L : List As} {w0 w : World} (hi : True) (hs : Sep.St (station_side.Q b l0 l1 l2 l3 l4 l5 l6 l7 l8 l9 b0 b1 b2 L) w0 w) : Sep.St (station_side.at b ({ reader := l0, monitor := l1, ring := l2, counts := ({ Good := l3, Bad := l4, Aborts := l5, Runts := l6, Giants := l7, Dropped := l8, Twins := l9 } : api_Counts) } : station_side) :: L) w0 w := by
 have h2 := St.join (m := station_side.Q b l0 l1 l2 l3 l4 l5 l6 l7 l8 l9 b0 b1 b2 []) hs
 exact h2.mono fun h hh => ⟨hi, _, _, _, hh⟩
end Go.Proofs.YtgkjmdapodgnfaaGreat

/- WorldClean: the functions that its law reaches, as plain functions, and that the machine's calls come to what these say. Conditions: those that stand at each. -/
import Derived.Test.YtaejcbpijdacmaaGreatRunWorldCleanP2
set_option linter.all false
set_option maxRecDepth 100000
set_option maxHeartbeats 4000000
set_option synthInstance.maxSize 100000
set_option synthInstance.maxHeartbeats 1000000
namespace Go.Proofs.YtaejcbpijdacmaaGreat
open Go.RowKit Go.Proofs.YtaejcbpijdacmaaGreat.Sep Go.Proofs.YtaejcbpijdacmaaGreat.Walk Go.Proofs.Tryz
attribute [local irreducible] V W At T Code.rounds RdO RdOk
set_option autoImplicit true
set_option relaxedAutoImplicit true
mutual
def bq.l0:Nat→Int→Int→Int→Bool→ae→Option ae
 |0,_,_,_,_,_=>none
 |k+1,t1,x16,x17,x18,x19=>(if x18=true then (bq.j1 k t1 x16 x17 x19 (bq.l0 k t1) (decide (x17≤x16))) else (bq.j1 k t1 x16 x17 x19 (bq.l0 k t1) false))
def bq.j1 (k:Nat) (t1:Int) (x16:Int) (x17:Int) (x19:ae) (Lq24:Int→Int→Bool→ae→Option ae) (x22:Bool):Option ae:=(if x22=true then ((bM.f k x19.timers x17).bind fun t29=>((eO.f k ({x19 with timers:=t29.2}:ae)).bind fun t31=>((cp.f t31.timers 0).bind fun t37=>(Lq24 (w64 (x16-x17)) t37.1 t37.2 t31)))) else ((bM.f k x19.timers x16).bind fun t41=>some ({x19 with timers:=t41.2}:ae)))
end
def bq.f (k:Nat) (a0:ae) (a1:Int):Option ae:=((eP.f a1 0 1048576).bind fun t1=>((cp.f a0.timers 0).bind fun t8=>(bq.l0 k t1 t1 t8.1 t8.2 a0)))
theorem bq.calls (H:bq.f k a0 a1=some r) (HS:St [ae.at b0 a0,R] w0 w):Calls Tryz.prog 118 #[pt b0,vi a1] w (Ret fun u w=>u=Value.tuple #[]∧St [ae.at b0 r,R] w0 w):=by
 refine calls_enter func118 Z Z (go ?_)
 refine W.kl H func165 (fun _ h=>eP.calls h HS.j0) ?_
 rintro t1 _ w H ⟨rfl,HS⟩
 have HS:=HS.o0
 refine go ?_
 obtain ⟨_,_,_,_,_,_,_,_,_,HS⟩:=ae.open HS
 refine go ?_
 have HS:=HS.fr 3
 obtain ⟨hi7,HS⟩:=aI.open HS
 refine W.kl H func184 (fun _ h=>cp.calls h HS.j1 (by first|exact hi7|(simp only [List.length_set];exact hi7))) ?_
 rintro _ _ w H ⟨rfl,HS⟩
 have HS:=HS.o1
 refine go ?_
 have HS:=ae.close tv ((aI.close (by first|exact hi7|(simp only [List.length_set];exact hi7)) HS).b [1,1,1])
 refine V.lj (σ:=Int × Int × Bool × ae) [0] (fun kq (x16,x17,x18,x19) w=>St [ae.at b0 x19,R] w0 w∧bq.l0 kq t1 x16 x17 x18 x19=some r∧kq≤k) (fun (x16,x17,x18,x19)=>[(1,vi x16),(4,vi x17),(5,vb x18)]) (_,_,_,_) ⟨HS,H,Nat.le_refl _⟩ ?_
 rintro kq20 ⟨x16,x17,x18,x19⟩ w ⟨HS,H,_⟩
 cases kq20 with
 |zero=>exact absurd H (by simp [bq.l0])
 |succ kq20=>
  simp only [bq.l0] at H
  refine V.seq ?_
  refine V.mj (σ:=Bool) [0,1,4] (fun x22 w=>St [ae.at b0 x19,R] w0 w∧∃kf23 kl25,kf23≤kq20∧kl25≤kq20∧bq.j1 kf23 t1 x16 x17 x19 (bq.l0 kl25 t1) x22=some r) (fun x22=>[(21,vb x22)]) ?_ ?_
  ·refine go ?_
   refine W.cv 17 H Z (fun _ H=>go ?_) (fun _ H=>go ?_)
   ·exact At.mt _ ⟨HS,kq20,kq20,by omega,by omega,H⟩
   ·exact At.mt _ ⟨HS,kq20,kq20,by omega,by omega,H⟩
  ·rintro x22 w ⟨HS,kf23,kl25,_,_,H⟩
   refine V.cv H Z (fun _ H=>go ?_) (fun _ H=>go ?_)
   ·obtain ⟨_,_,_,_,_,_,_,_,_,HS⟩:=ae.open HS
    refine go ?_
    have HS:=HS.b [3]
    refine W.kl H func185 (fun _ h=>bM.calls h HS.j1) ?_
    rintro _ _ w H ⟨_,_,rfl,HS⟩
    have HS:=HS.o2
    refine go ?_
    have HS:=ae.close tv (HS.b [2,2,2,1,1,1,1])
    refine W.kl H func186 (fun _ h=>eO.calls h HS.j1) ?_
    rintro _ _ w H ⟨rfl,HS⟩
    have HS:=HS.o1
    refine go ?_
    obtain ⟨_,_,_,_,_,_,_,_,_,HS⟩:=ae.open HS
    refine go ?_
    have HS:=HS.fr 3
    obtain ⟨hi36,HS⟩:=aI.open HS
    refine W.kl H func184 (fun _ h=>cp.calls h HS.j1 (by first|exact hi36|(simp only [List.length_set];exact hi36))) ?_
    rintro _ _ w H ⟨rfl,HS⟩
    have HS:=HS.o1
    refine go ?_
    have HS:=(ae.close tv ((aI.close (by first|exact hi36|(simp only [List.length_set];exact hi36)) HS).b [1,1,1])).ke [0,1]
    exact At.rn (_,_,_,_) ⟨HS,H,by omega⟩
   ·obtain ⟨_,_,_,_,_,_,_,_,_,HS⟩:=ae.open HS
    refine go ?_
    have HS:=HS.b [3]
    refine W.kl H func185 (fun _ h=>bM.calls h HS.j1) ?_
    rintro _ _ w H ⟨_,_,rfl,HS⟩
    have HS:=HS.o2
    refine go ?_
    have HS:=(ae.close tv (HS.b [2,2,2,1,1,1,1])).ke [0,1]
    exact rt
def dW.f (a0:ae):Option (List (List Int) × ae):=some (a0.out,({a0 with out:=([]:List (List Int))}:ae))
theorem dW.calls (H:dW.f a0=some r) (HS:St [ae.at b0 a0,R] w0 w):Calls Tryz.prog 119 #[pt b0] w (Ret fun u w=>∃aq0 cq0 dq0,u=vs aq0 r.1.length cq0∧St [row 48 1 (.slice aq0 r.1.length cq0) r.1.length dq0,tie (El.sl (El.int .u8)) dq0 r.1,ae.at b0 r.2,R] w0 w):=by
 refine calls_enter func119 Z Z (go ?_)
 obtain ⟨_,_,_,_,_,_,_,_,_,HS⟩:=ae.open HS
 refine go ?_
 refine W.sr 11 HS Z Z Z fun w HS=>go ?_
 have HS:=(ae.close (l11:=([]:List (List Int))) tv ((row_nilE (El.sl (El.int .u8)) 48 1 HS).b [2,2,2,2,0,0,2])).b [1,1]
 exact rt
def cG.f (k:Nat) (a0:aa) (a1:List Int):Option (List Int × aa):=((aG.f k ([([0,IntKind.u8.wrap (a0.number.fdiv (2^(min (24:Int).toNat IntKind.u32.bits))),IntKind.u8.wrap (a0.number.fdiv (2^(min (16:Int).toNat IntKind.u32.bits))),IntKind.u8.wrap (a0.number.fdiv (2^(min (8:Int).toNat IntKind.u32.bits))),IntKind.u8.wrap a0.number]:List Int),a1]:List (List Int))).bind fun t9=>some (t9,({a0 with number:=IntKind.u32.wrap (a0.number+1)}:aa)))
theorem cG.calls (H:cG.f k a0 a1=some r) (HS:St [aa.at b0 a0,fB sa1 sc1 a1,R] w0 w):Calls Tryz.prog 120 #[pt b0,vs sa1 a1.length sc1] w (Ret fun u w=>∃aq0 cq0,u=vs aq0 r.1.length cq0∧St [rB aq0 cq0 r.1,aa.at b0 r.2,R] w0 w):=by
 refine calls_enter func120 Z Z (go ?_)
 obtain ⟨_,_,_,_,_,_,_,_,_,_,HS⟩:=aa.open HS
 refine go ?_
 refine W.sr 19 HS Z Z Z fun w HS=>go ?_
 refine W.r (X.shr Z Z (by decide)) Z (go ?_)
 refine W.r (X.shr Z Z (by decide)) Z (go ?_)
 refine W.r (X.shr Z Z (by decide)) Z (go ?_)
 refine W.e (Y.ls (e:=5) (Value.int .u8) ([0,IntKind.u8.wrap (a0.number.fdiv (2^(min (24:Int).toNat IntKind.u32.bits))),IntKind.u8.wrap (a0.number.fdiv (2^(min (16:Int).toNat IntKind.u32.bits))),IntKind.u8.wrap (a0.number.fdiv (2^(min (8:Int).toNat IntKind.u32.bits))),IntKind.u8.wrap a0.number]:List Int) HS Z Z (fun _=>by kernel_rfl)) Z ?_
 rintro _ w ⟨lb5,rfl,HS⟩
 refine go ?_
 have HS:=St.row_freeze HS
 refine W.e (Y.lc (e:=48) (sz:=1) [vs (some ⟨lb5,0,none⟩) (([0,IntKind.u8.wrap (a0.number.fdiv (2^(min (24:Int).toNat IntKind.u32.bits))),IntKind.u8.wrap (a0.number.fdiv (2^(min (16:Int).toNat IntKind.u32.bits))),IntKind.u8.wrap (a0.number.fdiv (2^(min (8:Int).toNat IntKind.u32.bits))),IntKind.u8.wrap a0.number]:List Int)).length 5,vs sa1 a1.length sc1] HS Z Z (fun _=>by kernel_rfl)) Z ?_
 rintro _ w ⟨_,rfl,HS⟩
 have HS:=St.tie_cons (((St.sl_close (E:=(El.int .u8)) (St.swap (St.put (A:=tie (El.int .u8) ((([0,IntKind.u8.wrap (a0.number.fdiv (2^(min (24:Int).toNat IntKind.u32.bits))),IntKind.u8.wrap (a0.number.fdiv (2^(min (16:Int).toNat IntKind.u32.bits))),IntKind.u8.wrap (a0.number.fdiv (2^(min (8:Int).toNat IntKind.u32.bits))),IntKind.u8.wrap a0.number]:List Int)).map (Value.int .u8)) (([0,IntKind.u8.wrap (a0.number.fdiv (2^(min (24:Int).toNat IntKind.u32.bits))),IntKind.u8.wrap (a0.number.fdiv (2^(min (16:Int).toNat IntKind.u32.bits))),IntKind.u8.wrap (a0.number.fdiv (2^(min (8:Int).toNat IntKind.u32.bits))),IntKind.u8.wrap a0.number]:List Int))) (fun _=>int_tie) ((St.tie_cons (((St.sl_close (E:=(El.int .u8)) (St.swap (St.put (A:=tie (El.int .u8) (a1.map (Value.int .u8)) a1) (fun _=>int_tie) ((St.put (A:=tie (El.sl (El.int .u8)) ([]) (([]:List (List Int)))) (fun _=>tie.nil) HS).more 13 rfl (fun _ t=>t) fsl.pers)))).fr 1).fr 1)).more 2 rfl (fun _ t=>t) fsl.pers)))).fr 1).fr 1)
 refine W.kl H func187 (fun _ h=>aG.calls h HS.j0 (rdC.part 1 row_rd Z) (fun h hh=>let ⟨_,l,t⟩:=Sp.has 0 hh Z;tie.mono t l)) ?_
 rintro _ _ w H ⟨_,_,rfl,HS⟩
 have HS:=HS.o1
 refine go ?_
 have HS:=(aa.close tv (HS.b [4,4,4,4,4,4,4,4,4,4])).ke [1,0,4]
 exact rt
mutual
def bc.l0:Nat→(List Int)→Int→(List Int)→Option (List Int)
 |0,_,_,_=>none
 |k+1,a0,x2,x5=>(if x2<(a0.length:Int) then (if 0≤x2∧x2<(a0.length:Int) then (if (a0.getD x2.toNat 0)=126 then (bc.j2 a0 x2 x5 (bc.l0 k a0) true) else (bc.j2 a0 x2 x5 (bc.l0 k a0) (decide ((a0.getD x2.toNat 0)=125)))) else none) else some x5)
def bc.j1 (x2:Int) (Lq17:Int→(List Int)→Option (List Int)) (x14:List Int) (x15:Int):Option (List Int):=(if (x14.length:Int)+([x15]:List Int).length≤1099511627776 then (Lq17 (w64 (x2+1)) (x14++([x15]:List Int))) else none)
def bc.j2 (a0:List Int) (x2:Int) (x5:List Int) (Lq27:Int→(List Int)→Option (List Int)) (x25:Bool):Option (List Int):=(if x25=true then (if (x5.length:Int)+([125]:List Int).length≤1099511627776 then (bc.j1 x2 Lq27 (x5++([125]:List Int)) (ixor .u8 (a0.getD x2.toNat 0) (32))) else none) else (bc.j1 x2 Lq27 x5 (a0.getD x2.toNat 0)))
end
def bc.f (k:Nat) (a0:List Int):Option (List Int):=(bc.l0 k a0 0 ([]:List Int))
theorem bc.calls (H:bc.f k a0=some r) (HS:St [R] w0 w) (hr0:dB R sa0 sc0 a0):Calls Tryz.prog 238 #[vs sa0 a0.length sc0] w (Ret fun u w=>∃aq0 cq0,u=vs aq0 r.length cq0∧St [rB aq0 cq0 r,R] w0 w):=by
 refine calls_enter func238 Z Z (go ?_)
 have HS:=row_nilF (Value.int .u8) 5 1 HS
 refine V.lj (σ:=Int × Option Addr × Nat × List Int) [6,7] (fun kq (x2,ra3,rc4,x5) w=>St [rB ra3 rc4 x5,R] w0 w∧bc.l0 kq a0 x2 x5=some r∧kq≤k) (fun (x2,ra3,rc4,x5)=>[(3,vs ra3 x5.length rc4),(8,vi x2)]) (_,_,_,_) ⟨HS,H,Nat.le_refl _⟩ ?_
 rintro kq6 ⟨x2,ra3,rc4,x5⟩ w ⟨HS,H,_⟩
 cases kq6 with
 |zero=>exact absurd H (by simp [bc.l0])
 |succ kq6=>
  simp only [bc.l0] at H
  refine go ?_
  refine V.cd H Z (fun _ H=>go ?_) (fun _ H=>go ?_)
  ·obtain ⟨c9,H⟩:=ite_n H
   obtain ⟨_,_,hh⟩:=(rdC.at 1 hr0 HS rfl).some (by decide) c9.1 c9.2;subst hh
   refine go ?_
   refine W.r (X.load underlying5 Z Z ((rdC.at 1 hr0 HS Z).cellI c9.1 c9.2)) Z ?_
   refine gs ?_
   refine V.mj (σ:=Option Addr × Nat × List Int × Int) [6,7,8] (fun (ra12,rc13,x14,x15) w=>St [rB ra12 rc13 x14,R] w0 w∧∃kl18,kl18≤kq6∧bc.j1 x2 (bc.l0 kl18 a0) x14 x15=some r) (fun (ra12,rc13,x14,x15)=>[(3,vs ra12 x14.length rc13),(5,Value.int .u8 x15)]) ?_ ?_
   ·refine V.mj (σ:=Bool) [3,5,6,7,8] (fun x25 w=>St [rB ra3 rc4 x5,R] w0 w∧∃kl28,kl28≤kq6∧bc.j2 a0 x2 x5 (bc.l0 kl28 a0) x25=some r) (fun x25=>[(17,vb x25)]) ?_ ?_
    ·refine go ?_
     refine W.cd 14 H Z (fun _ H=>go ?_) (fun _ H=>go ?_)
     ·exact At.mt _ ⟨HS,kq6,by omega,H⟩
     ·exact At.mt _ ⟨HS,kq6,by omega,H⟩
    ·rintro x25 w ⟨HS,kl28,_,H⟩
     refine V.cv H Z (fun _ H=>go ?_) (fun _ H=>go ?_)
     ·refine W.e (Y.ls (e:=5) (Value.int .u8) ([125]:List Int) HS Z Z (fun _=>by kernel_rfl)) Z ?_
      rintro _ w ⟨_,rfl,HS⟩
      obtain ⟨_,H⟩:=ite_n H
      refine W.e (Y.appF (Value.int .u8) (fun _=>Z) 1 underlying48 ap5 Z HS Z Z Z (rdC.at 0 row_rd HS Z) (by omega) (by omega)) Z ?_
      rintro _ w ⟨_,_,rfl,HS⟩
      refine go ?_
      refine W.r (X.xor Z Z) Z (go ?_)
      have HS:=HS.ke [1,1]
      exact At.mt (_,_,_,_) ⟨HS,kl28,by omega,H⟩
     ·exact At.mt (_,_,_,_) ⟨HS,kl28,by omega,H⟩
   ·rintro ⟨ra12,rc13,x14,x15⟩ w ⟨HS,kl18,_,H⟩
    refine go ?_
    refine W.e (Y.ls (e:=5) (Value.int .u8) ([x15]:List Int) HS Z Z (fun _=>by kernel_rfl)) Z ?_
    rintro _ w ⟨_,rfl,HS⟩
    obtain ⟨_,H⟩:=ite_n H
    refine W.e (Y.appF (Value.int .u8) (fun _=>Z) 1 underlying48 ap5 Z HS Z Z Z (rdC.at 0 row_rd HS Z) (by omega) (by omega)) Z ?_
    rintro _ w ⟨_,_,rfl,HS⟩
    refine go ?_
    have HS:=HS.ke [1,1]
    exact At.rn (_,_,_,_) ⟨HS,H,by omega⟩
  ·exact rt
def eJ.f (k:Nat) (a0:List Int) (a1:Bool):Option (List Int):=((fh.f k a0 a1).bind fun t4=>((bc.f k t4).bind fun t6=>((aG.f k ([([126]:List Int),t6,([126]:List Int)]:List (List Int))).bind fun t14=>some t14)))
theorem eJ.calls (H:eJ.f k a0 a1=some r) (HS:St [fB sa0 sc0 a0,R] w0 w):Calls Tryz.prog 189 #[vs sa0 a0.length sc0,vb a1] w (Ret fun u w=>∃aq0 cq0,u=vs aq0 r.length cq0∧St [rB aq0 cq0 r,R] w0 w):=by
 refine calls_enter func189 Z Z (go ?_)
 refine W.e (Y.ls (e:=5) (Value.int .u8) ([126]:List Int) HS Z Z (fun _=>by kernel_rfl)) Z ?_
 rintro _ w ⟨lb3,rfl,HS⟩
 refine go ?_
 have HS:=HS.more 1 rfl (fun _ t=>t) fsl.pers
 refine W.kl H func227 (fun _ h=>fh.calls h HS.j1) ?_
 rintro _ _ w H ⟨_,_,rfl,HS⟩
 have HS:=HS.o1
 refine W.kl H func238 (fun _ h=>bc.calls h HS.j0 (rdC.part 0 row_rd Z)) ?_
 rintro t6 _ w H ⟨at6_0,ct6_0,rfl,HS⟩
 have HS:=HS.o1
 refine W.e (Y.ls (e:=5) (Value.int .u8) ([126]:List Int) HS Z Z (fun _=>by kernel_rfl)) Z ?_
 rintro _ w ⟨lb10,rfl,HS⟩
 have HS:=St.row_freeze ((St.row_freeze ((St.row_freeze (HS.fr 3)).fr 2)).fr 2)
 refine W.e (Y.lc (e:=48) (sz:=1) [vs (some ⟨lb3,0,none⟩) ([126]:List Int).length 1,vs at6_0 t6.length ct6_0,vs (some ⟨lb10,0,none⟩) ([126]:List Int).length 1] HS Z Z (fun _=>by kernel_rfl)) Z ?_
 rintro _ w ⟨_,rfl,HS⟩
 have HS:=St.tie_cons (((St.sl_close (E:=(El.int .u8)) (St.swap (St.put (A:=tie (El.int .u8) (([126]:List Int).map (Value.int .u8)) ([126]:List Int)) (fun _=>int_tie) ((St.tie_cons (((St.sl_close (E:=(El.int .u8)) (St.swap (St.put (A:=tie (El.int .u8) (t6.map (Value.int .u8)) t6) (fun _=>int_tie) ((St.tie_cons (((St.sl_close (E:=(El.int .u8)) (St.swap (St.put (A:=tie (El.int .u8) (([126]:List Int).map (Value.int .u8)) ([126]:List Int)) (fun _=>int_tie) ((St.put (A:=tie (El.sl (El.int .u8)) ([]) (([]:List (List Int)))) (fun _=>tie.nil) HS).more 2 rfl (fun _ t=>t) fsl.pers)))).fr 1).fr 1)).more 3 rfl (fun _ t=>t) fsl.pers)))).fr 1).fr 1)).more 4 rfl (fun _ t=>t) fsl.pers)))).fr 1).fr 1)
 refine W.kl H func187 (fun _ h=>aG.calls h HS.j0 (rdC.part 1 row_rd Z) (fun h hh=>let ⟨_,l,t⟩:=Sp.has 0 hh Z;tie.mono t l)) ?_
 rintro _ _ w H ⟨_,_,rfl,HS⟩
 have HS:=HS.o1
 refine go ?_
 have HS:=HS.ke [0,7]
 exact rt
def dm.f (a0:aJ) (a1:List Int):Option (Bool × aJ):=(if (a1.length:Int)>(w64 (a0.room-(a0.b.length:Int))) then some (false,({a0 with dropped:=imin (w64 (a0.dropped+1)) (4294967295)}:aJ)) else (if (a0.b.length:Int)+a1.length≤1099511627776 then (if (a0.pieces.length:Int)+(([(a1.length:Int)]:List Int)).length≤1099511627776 then some (true,({a0 with b:=a0.b++a1,pieces:=a0.pieces++([(a1.length:Int)]:List Int)}:aJ)) else none) else none))
theorem dm.calls (H:dm.f a0 a1=some r) (HS:St [aJ.at b0 a0,R] w0 w) (hr1:dB R sa1 sc1 a1):Calls Tryz.prog 188 #[pt b0,vs sa1 a1.length sc1] w (Ret fun u w=>u=vb r.1∧St [aJ.at b0 r.2,R] w0 w):=by
 refine calls_enter func188 Z Z (go ?_)
 obtain ⟨_,_,_,_,_,HS⟩:=aJ.open HS
 apply V.da [] [] [(5,_),(6,_),(7,_),(8,_),(9,_),(10,_),(11,_),(12,_),(13,_),(14,_),(15,_),(16,_),(17,_)] mo HS
 rfl
 refine T.ff [0,1,17] fun w HS=>?_
 refine go ?_
 refine V.cd H Z (fun _ H=>go ?_) (fun _ H=>go ?_)
 ·refine W.sr 4 HS Z Z Z fun w HS=>go ?_
  have HS:=aJ.close tv HS
  exact rt
 ·obtain ⟨_,H⟩:=ite_n H
  refine W.e (Y.appF (Value.int .u8) (fun _=>Z) 1 underlying48 ap5 Z HS Z Z Z (rdC.at 3 hr1 HS Z) (by omega) (by omega)) Z ?_
  rintro _ w ⟨_,_,rfl,HS⟩
  refine go ?_
  refine W.sr 1 HS Z Z Z fun w HS=>go ?_
  refine W.e (Y.ls (e:=3) (Value.int .i64) ([(a1.length:Int)]:List Int) HS Z Z (fun _=>by kernel_rfl)) Z ?_
  rintro _ w ⟨_,rfl,HS⟩
  obtain ⟨_,H⟩:=ite_n H
  refine W.e (Y.appF (Value.int .i64) (fun _=>Z) 3 underlying141 ap3 Z HS Z Z Z (rdC.at 0 row_rd HS Z) (by omega) (by omega)) Z ?_
  rintro _ w ⟨_,_,rfl,HS⟩
  refine go ?_
  refine W.sr 3 HS Z Z Z fun w HS=>go ?_
  have HS:=(aJ.close tv (HS.b [1,1,1])).ke [0,1]
  exact rt
abbrev V55.Q (b:Nat) (l0 l1:List (List Int)) (a0:Option Addr) (c0:Nat) (d0:List Value) (a1:Option Addr) (c1:Nat) (d1:List Value) (L:List As):List As:=blk b (#[vs a0 l0.length c0,vs a1 l1.length c1]) 55::row 48 1 (.slice a0 l0.length c0) l0.length d0::tie (El.sl (El.int .u8)) d0 l0::row 48 1 (.slice a1 l1.length c1) l1.length d1::tie (El.sl (El.int .u8)) d1 l1::L
abbrev V55.P (b:Nat) (x:(List (List Int) × List (List Int))) (a0:Option Addr) (c0:Nat) (d0:List Value) (a1:Option Addr) (c1:Nat) (d1:List Value) (L:List As):List As:=V55.Q b x.1 x.2 a0 c0 d0 a1 c1 d1 L
def V55.at (b:Nat) (x:(List (List Int) × List (List Int))):As:=fun h=>True∧∃a0:Option Addr,∃c0:Nat,∃d0:List Value,∃a1:Option Addr,∃c1:Nat,∃d1:List Value,Sp (V55.P b x a0 c0 d0 a1 c1 d1 []) h
theorem V55.open {b:Nat} {x:(List (List Int) × List (List Int))} {L:List As} {w0 w:World} (hs:Sep.St (V55.at b x::L) w0 w):∃a0:Option Addr,∃c0:Nat,∃d0:List Value,∃a1:Option Addr,∃c1:Nat,∃d1:List Value,True∧Sep.St (V55.P b x a0 c0 d0 a1 c1 d1 L) w0 w:=by
 obtain ⟨ho,ht,hu,h,hon,h1,h2,hd,e1,e2,⟨hi,a0,c0,d0,a1,c1,d1,hA⟩,hl⟩:=hs
 exact ⟨a0,c0,d0,a1,c1,d1,hi,St.open (m:=V55.P b x a0 c0 d0 a1 c1 d1 []) ⟨ho,ht,hu,h,hon,h1,h2,hd,e1,e2,hA,hl⟩⟩
theorem V55.close {b:Nat} {l0 l1:List (List Int)} {a0:Option Addr} {c0:Nat} {d0:List Value} {a1:Option Addr} {c1:Nat} {d1:List Value} {L:List As} {w0 w:World} (hi:True) (hs:Sep.St (V55.Q b l0 l1 a0 c0 d0 a1 c1 d1 L) w0 w):Sep.St (V55.at b (l0,l1)::L) w0 w:=by
 have h2:=St.join (m:=V55.Q b l0 l1 a0 c0 d0 a1 c1 d1 []) hs
 exact h2.mono fun h hh=>⟨hi,_,_,_,_,_,_,hh⟩
mutual
def aR.j0 (a1:(List (List Int) × List (List Int))) (a2:Int) (a3:List Int) (x4:aa) (x5:Bool):Option (aa × (List (List Int) × List (List Int))):=(if x5=true then (if 0≤a2∧a2<2 then (if a2=0 then ((aT.f a3).bind fun t12=>(if (a1.1.length:Int)+(([t12]:List (List Int))).length≤1099511627776 then some (x4,(a1.1++([t12]:List (List Int)),a1.2)) else none)) else ((aT.f a3).bind fun t21=>(if (a1.2.length:Int)+(([t21]:List (List Int))).length≤1099511627776 then some (x4,(a1.1,a1.2++([t21]:List (List Int)))) else none))) else none) else some (x4,a1))
end
def aR.f (k:Nat) (a0:aa) (a1:(List (List Int) × List (List Int))) (a2:Int) (a3:List Int):Option (aa × (List (List Int) × List (List Int))):=(if 0≤a2∧a2<2 then (if a2=0 then ((eJ.f k a3 a0.c.Wide).bind fun t33=>((dm.f a0.sides.1.ring t33).bind fun t35=>(aR.j0 a1 a2 a3 ({a0 with sides:=(({a0.sides.1 with ring:=t35.2}:aU),a0.sides.2)}:aa) t35.1))) else ((eJ.f k a3 a0.c.Wide).bind fun t38=>((dm.f a0.sides.2.ring t38).bind fun t40=>(aR.j0 a1 a2 a3 ({a0 with sides:=(a0.sides.1,({a0.sides.2 with ring:=t40.2}:aU))}:aa) t40.1)))) else none)
theorem aR.calls (H:aR.f k a0 a1 a2 a3=some r) (HS:St [aa.at b0 a0,V55.at b1 a1,fB sa3 sc3 a3,R] w0 w):Calls Tryz.prog 121 #[pt b0,pt b1,vi a2,vs sa3 a3.length sc3] w (Ret fun u w=>u=Value.tuple #[]∧St [aa.at b0 r.1,V55.at b1 r.2,R] w0 w):=by
 refine calls_enter func121 Z Z ?_
 refine V.mj (σ:=aa × Bool) [1,2,3] (fun (x4,x5) w=>St [aa.at b0 x4,V55.at b1 a1,fB sa3 sc3 a3,R] w0 w∧aR.j0 a1 a2 a3 x4 x5=some r) (fun (x4,x5)=>[(22,vb x5)]) ?_ ?_
 ·obtain ⟨_,_,_,_,_,_,_,_,_,_,HS⟩:=aa.open HS
  obtain ⟨c31,H⟩:=ite_n H
  refine ite_c H (fun c32 H=>?_) (fun _ H=>?_)
  ·apply V.da [13,14] [] [(8,_),(9,_),(10,_),(11,_),(12,_),(13,_),(14,_),(15,_),(16,_),(17,_),(18,_),(19,_),(20,_)] mo HS
   rfl
   refine T.e [15,20] [] [7,8,9,10,11,12] (fun w HS=>?_) ⟨rd,rd,rd,rd,.n2 9 11 Z Z Z (fun w HS=>X.indexArK 0 c32 underlying101 inf100 Z Z c31.1 c31.2),rds⟩
   have HS:=HS.more 11 rfl (fun _ t=>t) fsl.pers
   refine Y.kl H func189 (fun _ h=>eJ.calls h HS.j1) ?_
   rintro _ _ w H ⟨_,_,rfl,HS⟩
   have HS:=HS.o1
   refine T.nw HS ?_
   refine T.e [14,21] [] [0,1,2,3,4,5,6] (fun w HS=>?_) ⟨rd,rd,rd,rd,.n2 9 11 Z Z Z (fun w HS=>X.indexArK 0 c32 underlying101 inf100 Z Z c31.1 c31.2),rds⟩
   have HS:=HS.b [7]
   refine Y.kl H func188 (fun _ h=>dm.calls h HS.j1 (rdC.part 0 row_rd Z)) ?_
   rintro _ _ w H ⟨rfl,HS⟩
   have HS:=HS.o1
   refine T.nw HS ?_
   refine T.ff [1,2,3,22] fun w HS=>?_
   have HS:=(aa.close tv (HS.b [2,2,2,2,2,2,0,1,1,1])).ke [0,1,1,1]
   exact At.mt (_,_) ⟨HS,H⟩
  ·have hk37:a2=1:=by omega
   apply V.da [13,14] [] [(8,_),(9,_),(10,_),(11,_),(12,_),(13,_),(14,_),(15,_),(16,_),(17,_),(18,_),(19,_),(20,_)] mo HS
   rfl
   refine T.e [15,20] [] [7,8,9,10,11,12] (fun w HS=>?_) ⟨rd,rd,rd,rd,.n2 9 11 Z Z Z (fun w HS=>X.indexArK 1 hk37 underlying101 inf100 Z Z c31.1 c31.2),rds⟩
   have HS:=HS.more 11 rfl (fun _ t=>t) fsl.pers
   refine Y.kl H func189 (fun _ h=>eJ.calls h HS.j1) ?_
   rintro _ _ w H ⟨_,_,rfl,HS⟩
   have HS:=HS.o1
   refine T.nw HS ?_
   refine T.e [14,21] [] [0,1,2,3,4,5,6] (fun w HS=>?_) ⟨rd,rd,rd,rd,.n2 9 11 Z Z Z (fun w HS=>X.indexArK 1 hk37 underlying101 inf100 Z Z c31.1 c31.2),rds⟩
   have HS:=HS.b [10]
   refine Y.kl H func188 (fun _ h=>dm.calls h HS.j1 (rdC.part 0 row_rd Z)) ?_
   rintro _ _ w H ⟨rfl,HS⟩
   have HS:=HS.o1
   refine T.nw HS ?_
   refine T.ff [1,2,3,22] fun w HS=>?_
   have HS:=(aa.close tv (HS.b [2,2,2,2,2,2,2,2,2])).ke [0,1,1,1]
   exact At.mt (_,_) ⟨HS,H⟩
 ·rintro ⟨x4,x5⟩ w ⟨HS,H⟩
  refine V.cv H Z (fun _ H=>?_) (fun _ H=>go ?_)
  ·obtain ⟨c8,H⟩:=ite_n H
   have HS:=HS.fr 1
   obtain ⟨_,_,_,_,_,_,_,HS⟩:=V55.open HS
   refine ite_c H (fun c11 H=>?_) (fun _ H=>?_)
   ·apply V.da [8,9,10,13] [12] [(23,_),(24,_),(25,_),(26,_),(27,_),(28,_),(29,_),(30,_),(34,_)] mo HS
    rfl
    refine T.e [30] [12] [7] (fun w HS=>?_) ⟨rd,rd,rd,rd,rd,.n2 26 27 Z Z Z (fun w HS=>X.indexArK 0 c11 underlying55 inf35 Z Z c8.1 c8.2),rds⟩
    refine Y.kl H func127 (fun _ h=>aT.calls h HS.j0 (rdC.part 6 fsl.rd Z)) ?_
    rintro t12 _ w H ⟨at12_0,ct12_0,rfl,HS⟩
    have HS:=HS.o1
    refine T.nw HS ?_
    refine T.e [31] [12] [] (fun w HS=>?_) ⟨rd,rd,rd,rd,rd,.n2 26 27 Z Z Z (fun w HS=>X.indexArK 0 c11 underlying55 inf35 Z Z c8.1 c8.2),rds⟩
    have HS:=St.row_freeze HS
    refine ⟨_,Y.lc (e:=48) (sz:=1) [vs at12_0 t12.length ct12_0] HS Z Z (fun _=>by kernel_rfl),?_⟩
    rintro _ w ⟨_,rfl,HS⟩
    have HS:=St.tie_cons (((St.sl_close (E:=(El.int .u8)) (St.swap (St.put (A:=tie (El.int .u8) (t12.map (Value.int .u8)) t12) (fun _=>int_tie) ((St.put (A:=tie (El.sl (El.int .u8)) ([]) (([]:List (List Int)))) (fun _=>tie.nil) HS).more 2 rfl (fun _ t=>t) fsl.pers)))).fr 1).fr 1)
    refine T.nw HS ?_
    refine T.e [29,32] [] [2,3,4,5,6] (fun w HS=>?_) ⟨rd,rd,rd,rd,rd,.n2 26 27 Z Z Z (fun w HS=>X.indexArK 0 c11 underlying55 inf35 Z Z c8.1 c8.2),rds⟩
    obtain ⟨_,H⟩:=ite_n H
    refine ⟨_,Y.app (xs:=a1.1) (ys:=([t12]:List (List Int))) 4 underlying35 ap48 Z (by decide) HS Z Z Z (rdC.at 1 row_rd HS Z) (St.tie_one 0 HS Z) (by omega) (by omega),?_⟩
    rintro _ w ⟨_,_,rfl,HS⟩
    have HS:=St.tie_app 1 (HS.fr 5) rfl
    apply T.na [(33,_),(35,_)] HS
    exact nmk
    refine T.e [33,35] [] [0,1,11,12] (fun w HS=>?_) ⟨rd,rd,rd,.n2 24 34 Z Z Z (fun w HS=>X.indexArK 0 c11 underlying55 inf35 Z Z c8.1 c8.2),rds⟩
    refine Y.sr 0 HS Z Z Z fun _ w HS=>?_
    refine T.nn HS ?_
    refine T.ff [] fun w HS=>?_
    have HS:=(V55.close tv (HS.b [4,4,0,3,3])).ke [4,0,4]
    exact rt
   ·have hk20:a2=1:=by omega
    apply V.da [8,9,10,13] [12] [(23,_),(24,_),(25,_),(26,_),(27,_),(28,_),(29,_),(30,_),(34,_)] mo HS
    rfl
    refine T.e [30] [12] [7] (fun w HS=>?_) ⟨rd,rd,rd,rd,rd,.n2 26 27 Z Z Z (fun w HS=>X.indexArK 1 hk20 underlying55 inf35 Z Z c8.1 c8.2),rds⟩
    refine Y.kl H func127 (fun _ h=>aT.calls h HS.j0 (rdC.part 6 fsl.rd Z)) ?_
    rintro t21 _ w H ⟨at21_0,ct21_0,rfl,HS⟩
    have HS:=HS.o1
    refine T.nw HS ?_
    refine T.e [31] [12] [] (fun w HS=>?_) ⟨rd,rd,rd,rd,rd,.n2 26 27 Z Z Z (fun w HS=>X.indexArK 1 hk20 underlying55 inf35 Z Z c8.1 c8.2),rds⟩
    have HS:=St.row_freeze HS
    refine ⟨_,Y.lc (e:=48) (sz:=1) [vs at21_0 t21.length ct21_0] HS Z Z (fun _=>by kernel_rfl),?_⟩
    rintro _ w ⟨_,rfl,HS⟩
    have HS:=St.tie_cons (((St.sl_close (E:=(El.int .u8)) (St.swap (St.put (A:=tie (El.int .u8) (t21.map (Value.int .u8)) t21) (fun _=>int_tie) ((St.put (A:=tie (El.sl (El.int .u8)) ([]) (([]:List (List Int)))) (fun _=>tie.nil) HS).more 2 rfl (fun _ t=>t) fsl.pers)))).fr 1).fr 1)
    refine T.nw HS ?_
    refine T.e [29,32] [] [2,3,4,5,6] (fun w HS=>?_) ⟨rd,rd,rd,rd,rd,.n2 26 27 Z Z Z (fun w HS=>X.indexArK 1 hk20 underlying55 inf35 Z Z c8.1 c8.2),rds⟩
    obtain ⟨_,H⟩:=ite_n H
    refine ⟨_,Y.app (xs:=a1.2) (ys:=([t21]:List (List Int))) 6 underlying35 ap48 Z (by decide) HS Z Z Z (rdC.at 1 row_rd HS Z) (St.tie_one 0 HS Z) (by omega) (by omega),?_⟩
    rintro _ w ⟨_,_,rfl,HS⟩
    have HS:=St.tie_app 1 (HS.fr 7) rfl
    apply T.na [(33,_),(35,_)] HS
    exact nmk
    refine T.e [33,35] [] [0,1,11,12] (fun w HS=>?_) ⟨rd,rd,rd,.n2 24 34 Z Z Z (fun w HS=>X.indexArK 1 hk20 underlying55 inf35 Z Z c8.1 c8.2),rds⟩
    refine Y.sr 1 HS Z Z Z fun _ w HS=>?_
    refine T.nn HS ?_
    refine T.ff [] fun w HS=>?_
    have HS:=(V55.close tv (HS.b [4,4,4,4])).ke [4,0,4]
    exact rt
  ·have HS:=HS.ke [0,0,1]
   exact rt
def ez.f (a0:aH):Option Int:=some a0.own
theorem ez.calls (H:ez.f a0=some r) (HS:St [blk b0 (#[vi a0.hold,vi a0.wait,vb a0.revert,vi a0.command,vi a0.remote,vi a0.own,vi a0.bad,vi a0.left,vi a0.line]) 168,R] w0 w):Calls Tryz.prog 123 #[pt b0] w (Ret fun u w=>u=vi r∧St [blk b0 (#[vi a0.hold,vi a0.wait,vb a0.revert,vi a0.command,vi a0.remote,vi a0.own,vi a0.bad,vi a0.left,vi a0.line]) 168,R] w0 w):=by
 refine calls_enter func123 Z Z (go ?_)
 exact rt
mutual
def dE.j0 (x3:Int):Option (List Int):=some ([x3,icom .u8 x3]:List Int)
end
def dE.f (a0:Int) (a1:Int):Option (List Int):=((cb.f a0).bind fun t1=>(if a1=1 then (dE.j0 (IntKind.u8.wrap ((IntKind.u8.wrap (w64 (t1*16)))+1))) else (dE.j0 (IntKind.u8.wrap (w64 (t1*16))))))
theorem dE.calls (H:dE.f a0 a1=some r) (HS:St [R] w0 w):Calls Tryz.prog 122 #[vi a0,vi a1] w (Ret fun u w=>∃aq0 cq0,u=vs aq0 r.length cq0∧St [rB aq0 cq0 r,R] w0 w):=by
 refine calls_enter func122 Z Z (go ?_)
 refine W.kl H func190 (fun _ h=>cb.calls h HS.j0) ?_
 rintro _ _ w H ⟨rfl,HS⟩
 have HS:=HS.o0
 refine gs ?_
 refine V.mj (σ:=Int) [] (fun x3 w=>St [R] w0 w∧dE.j0 x3=some r) (fun x3=>[(5,Value.int .u8 x3)]) ?_ ?_
 ·refine go ?_
  refine V.cd H Z (fun _ H=>go ?_) (fun _ H=>go ?_)
  ·exact At.mt _ ⟨HS,H⟩
  ·exact At.mt _ ⟨HS,H⟩
 ·rintro x3 w ⟨HS,H⟩
  refine go ?_
  refine W.r (X.com Z) Z ?_
  refine W.e (Y.ls (e:=5) (Value.int .u8) ([x3,icom .u8 x3]:List Int) HS Z Z (fun _=>by kernel_rfl)) Z ?_
  rintro _ w ⟨_,rfl,HS⟩
  refine go ?_
  exact rt
mutual
def aq.l1:Nat→(Int × aH)→(List (List Int) × ae)→Int→aa→(List (List Int) × List (List Int))→Option ((List (List Int) × List (List Int)) × aa)
 |0,_,_,_,_,_=>none
 |k+1,t21,t38,x42,x43,x44=>(if x42<(t38.1.length:Int) then (if 0≤x42∧x42<(t38.1.length:Int) then ((cG.f k x43 (t38.1.getD x42.toNat [])).bind fun t57=>((bu.f t57.2).bind fun t96=>(if t96=true then (aq.j2 k t21 x42 x44 t57 (aq.l1 k t21 t38) true) else (aq.j2 k t21 x42 x44 t57 (aq.l1 k t21 t38) (decide (0=t21.1)))))) else none) else (if ¬(x43.c.Keep=0) then (if ((w64 (x43.steps+1)).tmod x43.c.Keep)=0 then ((ez.f x43.aps).bind fun t108=>((dE.f t108 t21.1).bind fun t110=>(if (([1]:List Int).length:Int)+t110.length≤1099511627776 then ((aR.f k ({x43 with steps:=w64 (x43.steps+1)}:aa) x44 0 (([1]:List Int)++t110)).bind fun t126=>((aR.f k t126.1 t126.2 1 (([1]:List Int)++t110)).bind fun t129=>some (t129.2,t129.1))) else none))) else some (x44,({x43 with steps:=w64 (x43.steps+1)}:aa))) else none))
def aq.j3 (k:Nat) (x42:Int) (t57:List Int × aa) (t66:aa × (List (List Int) × List (List Int))) (Lq71:Int→aa→(List (List Int) × List (List Int))→Option ((List (List Int) × List (List Int)) × aa)) (x69:Bool):Option ((List (List Int) × List (List Int)) × aa):=(if x69=true then ((aR.f k t66.1 t66.2 1 t57.1).bind fun t74=>(Lq71 (w64 (x42+1)) t74.1 t74.2)) else (Lq71 (w64 (x42+1)) t66.1 t66.2))
def aq.j4 (k:Nat) (x42:Int) (x44:(List (List Int) × List (List Int))) (t57:List Int × aa) (Lq83:Int→aa→(List (List Int) × List (List Int))→Option ((List (List Int) × List (List Int)) × aa)) (x81:Bool):Option ((List (List Int) × List (List Int)) × aa):=(if x81=true then ((aR.f k t57.2 x44 1 t57.1).bind fun t86=>(Lq83 (w64 (x42+1)) t86.1 t86.2)) else (Lq83 (w64 (x42+1)) t57.2 x44))
def aq.j2 (k:Nat) (t21:Int × aH) (x42:Int) (x44:(List (List Int) × List (List Int))) (t57:List Int × aa) (Lq63:Int→aa→(List (List Int) × List (List Int))→Option ((List (List Int) × List (List Int)) × aa)) (x61:Bool):Option ((List (List Int) × List (List Int)) × aa):=(if x61=true then ((aR.f k t57.2 x44 0 t57.1).bind fun t66=>((bu.f t66.1).bind fun t78=>(if t78=true then (aq.j3 k x42 t57 t66 Lq63 true) else (aq.j3 k x42 t57 t66 Lq63 (decide (1=t21.1)))))) else ((bu.f t57.2).bind fun t91=>(if t91=true then (aq.j4 k x42 x44 t57 Lq63 true) else (aq.j4 k x42 x44 t57 Lq63 (decide (1=t21.1))))))
def aq.j0 (k:Nat) (t21:Int × aH) (x23:aa):Option ((List (List Int) × List (List Int)) × aa):=((bq.f k x23.arq 1).bind fun t27=>((dW.f t27).bind fun t38=>(aq.l1 k t21 t38 0 ({x23 with arq:=t38.2,line:=t21.1}:aa) (([]:List (List Int)),([]:List (List Int))))))
def aq.j5 (k:Nat) (a0:aa) (t8:Int × ap) (t19:Int × ap) (t21:Int × aH) (x141:Bool):Option ((List (List Int) × List (List Int)) × aa):=(if x141=true then ((dO.f k ((({a0 with aps:=t21.2,sides:=(({a0.sides.1 with monitor:=t8.2}:aU),({a0.sides.2 with monitor:=t19.2}:aU))}:aa)).arq)).bind fun t146=>(aq.j0 k t21 ({(({a0 with aps:=t21.2,sides:=(({a0.sides.1 with monitor:=t8.2}:aU),({a0.sides.2 with monitor:=t19.2}:aU))}:aa)) with arq:=t146}:aa))) else (aq.j0 k t21 ({a0 with aps:=t21.2,sides:=(({a0.sides.1 with monitor:=t8.2}:aU),({a0.sides.2 with monitor:=t19.2}:aU))}:aa)))
end
def aq.f (k:Nat) (a0:aa):Option ((List (List Int) × List (List Int)) × aa):=((bp.f a0.sides.1.monitor 1).bind fun t8=>((bp.f a0.sides.2.monitor 1).bind fun t19=>((co.f a0.aps t8.1 t19.1).bind fun t21=>((bu.f ({a0 with aps:=t21.2,sides:=(({a0.sides.1 with monitor:=t8.2}:aU),({a0.sides.2 with monitor:=t19.2}:aU))}:aa)).bind fun t148=>(if t148=true then (aq.j5 k a0 t8 t19 t21 false) else (aq.j5 k a0 t8 t19 t21 (!(decide (t21.1=a0.line)))))))))
theorem aq.calls (H:aq.f k a0=some r) (HS:St [aa.at b0 a0,R] w0 w):Calls Tryz.prog 55 #[pt b0] w (Ret fun u w=>∃aq0_0 cq0_0 dq0_0 aq0_1 cq0_1 dq0_1,u=Value.agg #[vs aq0_0 r.1.1.length cq0_0,vs aq0_1 r.1.2.length cq0_1]∧St [row 48 1 (.slice aq0_0 r.1.1.length cq0_0) r.1.1.length dq0_0,tie (El.sl (El.int .u8)) dq0_0 r.1.1,row 48 1 (.slice aq0_1 r.1.2.length cq0_1) r.1.2.length dq0_1,tie (El.sl (El.int .u8)) dq0_1 r.1.2,aa.at b0 r.2,R] w0 w):=by
 refine calls_enter func55 Z Z (go ?_)
 refine W.e (Y.alloc (z:=Value.agg (#[vs none 0 0,vs none 0 0])) HS ze55) Z ?_
 rintro _ w ⟨nb1,rfl,HS⟩
 refine go ?_
 refine W.e (Y.alloc (z:=Value.agg (#[vs none 0 0,vs none 0 0])) HS ze55) Z ?_
 rintro _ w ⟨nb2,rfl,HS⟩
 refine go ?_
 have HS:=HS.fr 2
 obtain ⟨_,_,_,_,_,_,_,_,_,_,HS⟩:=aa.open HS
 refine go ?_
 have HS:=HS.b [5]
 refine W.kl H func115 (fun _ h=>bp.calls h HS.j1) ?_
 rintro t8 _ w H ⟨rfl,HS⟩
 have HS:=HS.o1
 refine go ?_
 apply V.da [11,12] [13] [(19,_),(20,_),(21,_),(22,_),(23,_),(24,_),(25,_),(26,_),(27,_),(28,_),(29,_)] mo HS
 rfl
 refine T.e [29] [13] [5,6,7,8,9,10] fun w HS=>?_
 have HS:=HS.b [8]
 refine Y.kl H func115 (fun _ h=>bp.calls h HS.j1) ?_
 rintro t19 _ w H ⟨rfl,HS⟩
 have HS:=HS.o1
 refine T.nw HS ?_
 refine T.e [22,23,30] [] [0,1,2,3,4] fun w HS=>?_
 have HS:=HS.b [4]
 refine Y.kl H func116 (fun _ h=>co.calls h HS.j1) ?_
 rintro t21 _ w H ⟨rfl,HS⟩
 have HS:=HS.o1
 apply T.na [(31,_),(5,_)] HS
 exact nmk
 refine T.ff [0,2,3,5] fun w HS=>?_
 refine gs ?_
 refine V.mj (σ:=aa) [0,2,3,5] (fun x23 w=>St [V55.at nb1 ((([]:List (List Int)),([]:List (List Int)))),V55.at nb2 ((([]:List (List Int)),([]:List (List Int)))),aa.at b0 x23,R] w0 w∧∃kf24,kf24≤k∧aq.j0 kf24 t21 x23=some r) (fun _=>[]) ?_ ?_
 ·refine V.mj (σ:=Bool) [0,2,3,5] (fun x141 w=>St [V55.at nb1 ((([]:List (List Int)),([]:List (List Int)))),V55.at nb2 ((([]:List (List Int)),([]:List (List Int)))),aa.at b0 (({a0 with aps:=t21.2,sides:=(({a0.sides.1 with monitor:=t8.2}:aU),({a0.sides.2 with monitor:=t19.2}:aU))}:aa)),R] w0 w∧∃kf142,kf142≤k∧aq.j5 kf142 a0 t8 t19 t21 x141=some r) (fun x141=>[(42,vb x141)]) ?_ ?_
  ·refine go ?_
   have HS:=HS.b [3,3,0,2,2,1,1,1]
   refine W.kl H func67 (fun _ h=>bu.calls h HS.j10) ?_
   rintro _ _ w H ⟨rfl,HS⟩
   have HS:=HS.o10
   refine go ?_
   refine W.cx 35 H Z (fun _ H=>go ?_) (fun _ H=>go ?_)
   ·have HS:=(aa.close tv ((V55.close (l0:=([]:List (List Int))) (l1:=([]:List (List Int))) tv ((row_nilE (El.sl (El.int .u8)) 48 1 (row_nilE (El.sl (El.int .u8)) 48 1 (V55.close (l0:=([]:List (List Int))) (l1:=([]:List (List Int))) tv ((row_nilE (El.sl (El.int .u8)) 48 1 (row_nilE (El.sl (El.int .u8)) 48 1 HS)).b [15,2,2])))).b [15,2,2])).b [2,2,2,2,2,2,2,2,2,2])).b [2,1]
    exact At.mt _ ⟨HS,k,by omega,H⟩
   ·have HS:=(aa.close tv ((V55.close (l0:=([]:List (List Int))) (l1:=([]:List (List Int))) tv ((row_nilE (El.sl (El.int .u8)) 48 1 (row_nilE (El.sl (El.int .u8)) 48 1 (V55.close (l0:=([]:List (List Int))) (l1:=([]:List (List Int))) tv ((row_nilE (El.sl (El.int .u8)) 48 1 (row_nilE (El.sl (El.int .u8)) 48 1 HS)).b [15,2,2])))).b [15,2,2])).b [2,2,2,2,2,2,2,2,2,2])).b [2,1]
    exact At.mt _ ⟨HS,k,by omega,H⟩
  ·rintro x141 w ⟨HS,kf142,_,H⟩
   refine V.cv H Z (fun _ H=>go ?_) (fun _ H=>go ?_)
   ·have HS:=HS.fr 2
    obtain ⟨_,_,_,_,_,_,_,_,_,_,HS⟩:=aa.open HS
    refine go ?_
    have HS:=HS.b [1]
    refine W.kl H func117 (fun _ h=>dO.calls h HS.j1) ?_
    rintro _ _ w H ⟨rfl,HS⟩
    have HS:=HS.o1
    refine go ?_
    have HS:=(aa.close tv (HS.b [1])).b [1,1]
    exact At.mt _ ⟨HS,kf142,by omega,H⟩
   ·exact At.mt _ ⟨HS,kf142,by omega,H⟩
 ·rintro x23 w ⟨HS,kf24,_,H⟩
  refine go ?_
  have HS:=HS.fr 2
  obtain ⟨_,_,_,_,_,_,_,_,_,_,HS⟩:=aa.open HS
  refine go ?_
  refine W.sr 21 HS Z Z Z fun w HS=>go ?_
  have HS:=HS.b [1]
  refine W.kl H func118 (fun _ h=>bq.calls h HS.j1) ?_
  rintro _ _ w H ⟨rfl,HS⟩
  have HS:=HS.o1
  refine go ?_
  refine W.kl H func119 (fun _ h=>dW.calls h HS.j1) ?_
  rintro t38 _ w H ⟨at38_0,ct38_0,dt38_0,rfl,HS⟩
  have HS:=HS.o3
  refine go ?_
  have HS:=aa.close tv (HS.b [3,2,2,2,2,2,2,2,2,2])
  refine V.lj (σ:=Int × aa × (List (List Int) × List (List Int))) [0,2,3,5,61,62] (fun kq (x42,x43,x44) w=>St [aa.at b0 x43,row 48 1 (.slice at38_0 t38.1.length ct38_0) t38.1.length dt38_0,tie (El.sl (El.int .u8)) dt38_0 t38.1,V55.at nb1 ((([]:List (List Int)),([]:List (List Int)))),V55.at nb2 x44,R] w0 w∧aq.l1 kq t21 t38 x42 x43 x44=some r∧kq≤kf24) (fun (x42,x43,x44)=>[(63,vi x42)]) (_,_,_) ⟨HS,H,Nat.le_refl _⟩ ?_
  rintro kq45 ⟨x42,x43,x44⟩ w ⟨HS,H,_⟩
  cases kq45 with
  |zero=>exact absurd H (by simp [aq.l1])
  |succ kq45=>
   simp only [aq.l1] at H
   refine go ?_
   refine V.cd H Z (fun _ H=>go ?_) (fun _ H=>go ?_)
   ·obtain ⟨c48,H⟩:=ite_n H
    obtain ⟨eb49,eo50,hh⟩:=(rdC.at 1 row_rd HS rfl).some (by decide) c48.1 c48.2;subst hh
    refine go ?_
    obtain ⟨_,hc52,HS⟩:=St.tie_at 2 HS rfl ([]) c48.1 c48.2
    obtain ⟨ea53,em54,he56,HN⟩:=St.sl_openF (Value.int .u8) (fun t=>tie_int t) HS;clear HS;subst he56;have HS:=HN
    refine W.r (X.load underlying48 Z Z ((rdC.at 2 row_rd HS Z).cellEl0 (hc52 0 _ Z))) Z (go ?_)
    have HS:=(HS.more 0 rfl (fun _ t=>t) fsl.pers).b [2]
    refine W.kl H func120 (fun _ h=>cG.calls h HS.j2) ?_
    rintro t57 _ w H ⟨at57_0,ct57_0,rfl,HS⟩
    have HS:=HS.o2
    refine go ?_
    refine V.rs 2 [(0,pt b0),(2,pt nb1),(3,pt nb2),(5,vi t21.1),(8,vs at57_0 t57.1.length ct57_0),(61,vs (some ⟨eb49,eo50,none⟩) t38.1.length ct38_0),(62,vi (t38.1.length:Int)),(63,vi x42),(70,vi (0))] ?_
    refine V.seq ?_
    refine gs ?_
    refine V.seq ?_
    refine gs ?_
    refine V.seq ?_
    refine gs ?_
    refine V.seq ?_
    refine gs ?_
    refine V.mj (σ:=Bool) [0,2,3,5,8,9,61,62,63,70] (fun x61 w=>St [rB at57_0 ct57_0 t57.1,aa.at b0 t57.2,fB ea53 em54 (t38.1.getD x42.toNat []),row 48 1 (.slice (some ⟨eb49,eo50,none⟩) t38.1.length ct38_0) t38.1.length dt38_0,tie (El.sl (El.int .u8)) dt38_0 t38.1,V55.at nb1 ((([]:List (List Int)),([]:List (List Int)))),V55.at nb2 x44,R] w0 w∧∃kf62 kl64,kf62≤kq45∧kl64≤kq45∧aq.j2 kf62 t21 x42 x44 t57 (aq.l1 kl64 t21 t38) x61=some r) (fun x61=>[(79,vb x61)]) ?_ ?_
    ·refine go ?_
     have HS:=HS.fr 1
     obtain ⟨_,_,_,_,_,_,_,_,_,_,HS⟩:=aa.open HS
     refine W.kl H func67 (fun _ h=>bu.calls h HS.j10) ?_
     rintro _ _ w H ⟨rfl,HS⟩
     have HS:=HS.o10
     refine go ?_
     refine W.cv 75 H Z (fun _ H=>go ?_) (fun _ H=>go ?_)
     ·have HS:=(aa.close tv HS).b [1]
      exact At.mt _ ⟨HS,kq45,kq45,by omega,by omega,H⟩
     ·have HS:=(aa.close tv HS).b [1]
      exact At.mt _ ⟨HS,kq45,kq45,by omega,by omega,H⟩
    ·rintro x61 w ⟨HS,kf62,kl64,_,_,H⟩
     refine V.cv H Z (fun _ H=>go ?_) (fun _ H=>go ?_)
     ·have HS:=((St.row_freeze HS).more 0 rfl (fun _ t=>t) fsl.pers).b [2,6]
      refine W.kl H func121 (fun _ h=>aR.calls h HS.j3) ?_
      rintro t66 _ w H ⟨rfl,HS⟩
      have HS:=HS.o2
      refine go ?_
      refine At.ow [(0,pt b0),(2,pt nb1),(3,pt nb2),(5,vi t21.1),(8,vs at57_0 t57.1.length ct57_0),(61,vs (some ⟨eb49,eo50,none⟩) t38.1.length ct38_0),(62,vi (t38.1.length:Int)),(63,vi x42),(70,vi (1))] ?_
      refine V.seq ?_
      refine gs ?_
      refine V.seq ?_
      refine gs ?_
      refine V.seq ?_
      refine gs ?_
      refine V.seq ?_
      refine gs ?_
      refine V.mj (σ:=Bool) [0,2,3,5,8,9,61,62,63,70] (fun x69 w=>St [aa.at b0 t66.1,V55.at nb2 t66.2,fB at57_0 ct57_0 t57.1,fB ea53 em54 (t38.1.getD x42.toNat []),row 48 1 (.slice (some ⟨eb49,eo50,none⟩) t38.1.length ct38_0) t38.1.length dt38_0,tie (El.sl (El.int .u8)) dt38_0 t38.1,V55.at nb1 ((([]:List (List Int)),([]:List (List Int)))),R] w0 w∧∃kf70 kl72,kf70≤kf62∧kl72≤kl64∧aq.j3 kf70 x42 t57 t66 (aq.l1 kl72 t21 t38) x69=some r) (fun x69=>[(79,vb x69)]) ?_ ?_
      ·refine go ?_
       obtain ⟨_,_,_,_,_,_,_,_,_,_,HS⟩:=aa.open HS
       refine W.kl H func67 (fun _ h=>bu.calls h HS.j10) ?_
       rintro _ _ w H ⟨rfl,HS⟩
       have HS:=HS.o10
       refine go ?_
       refine W.cv 75 H Z (fun _ H=>go ?_) (fun _ H=>go ?_)
       ·have HS:=aa.close tv HS
        exact At.mt _ ⟨HS,kf62,kl64,by omega,by omega,H⟩
       ·have HS:=aa.close tv HS
        exact At.mt _ ⟨HS,kf62,kl64,by omega,by omega,H⟩
      ·rintro x69 w ⟨HS,kf70,kl72,_,_,H⟩
       refine V.cv H Z (fun _ H=>go ?_) (fun _ H=>go ?_)
       ·have HS:=(HS.more 2 rfl (fun _ t=>t) fsl.pers).b [1,1]
        refine W.kl H func121 (fun _ h=>aR.calls h HS.j3) ?_
        rintro _ _ w H ⟨rfl,HS⟩
        have HS:=HS.o2
        refine go ?_
        refine At.ow [(0,pt b0),(2,pt nb1),(3,pt nb2),(5,vi t21.1),(8,vs at57_0 t57.1.length ct57_0),(61,vs (some ⟨eb49,eo50,none⟩) t38.1.length ct38_0),(62,vi (t38.1.length:Int)),(63,vi x42),(70,vi (2))] (go ?_)
        have HS:=HS.ke [0,3,3,3,0,2]
        exact At.rn (_,_,_) ⟨HS,H,by omega⟩
       ·refine At.ow [(0,pt b0),(2,pt nb1),(3,pt nb2),(5,vi t21.1),(8,vs at57_0 t57.1.length ct57_0),(61,vs (some ⟨eb49,eo50,none⟩) t38.1.length ct38_0),(62,vi (t38.1.length:Int)),(63,vi x42),(70,vi (2))] (go ?_)
        have HS:=HS.ke [0,3,3,3,0,2]
        exact At.rn (_,_,_) ⟨HS,H,by omega⟩
     ·refine At.ow [(0,pt b0),(2,pt nb1),(3,pt nb2),(5,vi t21.1),(8,vs at57_0 t57.1.length ct57_0),(61,vs (some ⟨eb49,eo50,none⟩) t38.1.length ct38_0),(62,vi (t38.1.length:Int)),(63,vi x42),(70,vi (1))] ?_
      refine V.seq ?_
      refine gs ?_
      refine V.seq ?_
      refine gs ?_
      refine V.seq ?_
      refine gs ?_
      refine V.seq ?_
      refine gs ?_
      refine V.mj (σ:=Bool) [0,2,3,5,8,9,61,62,63,70] (fun x81 w=>St [rB at57_0 ct57_0 t57.1,aa.at b0 t57.2,fB ea53 em54 (t38.1.getD x42.toNat []),row 48 1 (.slice (some ⟨eb49,eo50,none⟩) t38.1.length ct38_0) t38.1.length dt38_0,tie (El.sl (El.int .u8)) dt38_0 t38.1,V55.at nb1 ((([]:List (List Int)),([]:List (List Int)))),V55.at nb2 x44,R] w0 w∧∃kf82 kl84,kf82≤kf62∧kl84≤kl64∧aq.j4 kf82 x42 x44 t57 (aq.l1 kl84 t21 t38) x81=some r) (fun x81=>[(79,vb x81)]) ?_ ?_
      ·refine go ?_
       have HS:=HS.fr 1
       obtain ⟨_,_,_,_,_,_,_,_,_,_,HS⟩:=aa.open HS
       refine W.kl H func67 (fun _ h=>bu.calls h HS.j10) ?_
       rintro _ _ w H ⟨rfl,HS⟩
       have HS:=HS.o10
       refine go ?_
       refine W.cv 75 H Z (fun _ H=>go ?_) (fun _ H=>go ?_)
       ·have HS:=(aa.close tv HS).b [1]
        exact At.mt _ ⟨HS,kf62,kl64,by omega,by omega,H⟩
       ·have HS:=(aa.close tv HS).b [1]
        exact At.mt _ ⟨HS,kf62,kl64,by omega,by omega,H⟩
      ·rintro x81 w ⟨HS,kf82,kl84,_,_,H⟩
       refine V.cv H Z (fun _ H=>go ?_) (fun _ H=>go ?_)
       ·have HS:=((St.row_freeze HS).more 0 rfl (fun _ t=>t) fsl.pers).b [2,6]
        refine W.kl H func121 (fun _ h=>aR.calls h HS.j3) ?_
        rintro _ _ w H ⟨rfl,HS⟩
        have HS:=HS.o2
        refine go ?_
        refine At.ow [(0,pt b0),(2,pt nb1),(3,pt nb2),(5,vi t21.1),(8,vs at57_0 t57.1.length ct57_0),(61,vs (some ⟨eb49,eo50,none⟩) t38.1.length ct38_0),(62,vi (t38.1.length:Int)),(63,vi x42),(70,vi (2))] (go ?_)
        have HS:=HS.ke [0,3,3,3,0,2]
        exact At.rn (_,_,_) ⟨HS,H,by omega⟩
       ·refine At.ow [(0,pt b0),(2,pt nb1),(3,pt nb2),(5,vi t21.1),(8,vs at57_0 t57.1.length ct57_0),(61,vs (some ⟨eb49,eo50,none⟩) t38.1.length ct38_0),(62,vi (t38.1.length:Int)),(63,vi x42),(70,vi (2))] (go ?_)
        have HS:=HS.ke [1,2,2,2,2,2]
        exact At.rn (_,_,_) ⟨HS,H,by omega⟩
   ·obtain ⟨_,_,_,_,_,_,_,_,_,_,HS⟩:=aa.open HS
    refine go ?_
    refine W.sr 20 HS Z Z Z fun w HS=>go ?_
    obtain ⟨c101,H⟩:=ite_n H
    apply V.da [] [] [(93,_),(94,_),(95,_),(96,_),(97,_),(98,_),(99,_),(100,_),(101,_),(102,_),(103,_)] mo HS
    rfl
    refine T.ff [0,2,3,5,103] (fun w HS=>?_) ⟨rd,rd,rd,rd,rd,rd,rd,rd,rd,.n2 96 101 Z Z Z (fun w HS=>X.rem Z Z c101),rds⟩
    refine go ?_
    refine V.cd H Z (fun _ H=>go ?_) (fun _ H=>go ?_)
    ·refine W.e (Y.ls (e:=5) (Value.int .u8) ([1]:List Int) HS Z Z (fun _=>by kernel_rfl)) Z ?_
     rintro _ w ⟨_,rfl,HS⟩
     refine go ?_
     have HS:=HS.fr 3
     obtain ⟨_,HS⟩:=aH.open HS
     refine W.kl H func123 (fun _ h=>ez.calls h HS.j1) ?_
     rintro _ _ w H ⟨rfl,HS⟩
     have HS:=HS.o1
     refine go ?_
     refine W.kl H func122 (fun _ h=>dE.calls h HS.j0) ?_
     rintro t110 _ w H ⟨_,_,rfl,HS⟩
     have HS:=HS.o1
     obtain ⟨_,H⟩:=ite_n H
     refine W.e (Y.appF (Value.int .u8) (fun _=>Z) 2 underlying48 ap5 Z HS Z Z Z (rdC.at 0 row_rd HS Z) (by omega) (by omega)) Z ?_
     rintro _ w ⟨ra113,rc114,rfl,HS⟩
     refine go ?_
     refine V.rs 2 [(0,pt b0),(2,pt nb1),(3,pt nb2),(10,vs ra113 (([1]:List Int)++t110).length rc114),(113,vi (0))] (go ?_)
     have HS:=((St.row_freeze ((aa.close tv ((aH.close tv (HS.b [1])).b [3,3,0,2,2,2,2,2,2,2])).fr 2)).more 0 rfl (fun _ t=>t) fsl.pers).b [2,6]
     refine W.kl H func121 (fun _ h=>aR.calls h HS.j3) ?_
     rintro _ _ w H ⟨rfl,HS⟩
     have HS:=HS.o2
     refine go ?_
     refine At.ow [(0,pt b0),(2,pt nb1),(3,pt nb2),(10,vs ra113 (([1]:List Int)++t110).length rc114),(113,vi (1))] (go ?_)
     have HS:=(HS.more 2 rfl (fun _ t=>t) fsl.pers).b [1,1]
     refine W.kl H func121 (fun _ h=>aR.calls h HS.j3) ?_
     rintro t129 _ w H ⟨rfl,HS⟩
     have HS:=HS.o2
     refine go ?_
     refine At.ow [(0,pt b0),(2,pt nb1),(3,pt nb2),(10,vs ra113 (([1]:List Int)++t110).length rc114),(113,vi (2))] (go ?_)
     have HS:=HS.fr 1
     obtain ⟨a0_131,c0_131,d0_131,a1_131,c1_131,d1_131,_,HS⟩:=V55.open HS
     refine go ?_
     have HS:=HS.fr 10
     obtain ⟨_,_,_,_,_,_,_,HS⟩:=V55.open HS
     refine W.ss HS Z Z Z Z fun w HS=>go ?_
     have hv135:=run_loadSt (P:=Tryz.prog) (p:=0) 0 [vs a0_131 t129.2.1.length c0_131,vs a1_131 t129.2.2.length c1_131] HS rfl underlying55 rfl inf55 rfl
     have HS:=HS.ke [6,6,6,6,6,10]
     cases H
     exact At.retv1 Z ⟨_,Z,hv135⟩ ⟨_,Z,a0_131,c0_131,d0_131,a1_131,c1_131,d1_131,Z,HS⟩
    ·have HS:=HS.fr 13
     obtain ⟨a0_136,c0_136,d0_136,a1_136,c1_136,d1_136,_,HS⟩:=V55.open HS
     refine go ?_
     have HS:=HS.fr 17
     obtain ⟨_,_,_,_,_,_,_,HS⟩:=V55.open HS
     refine W.ss HS Z Z Z Z fun w HS=>go ?_
     have hv140:=run_loadSt (P:=Tryz.prog) (p:=0) 0 [vs a0_136 x44.1.length c0_136,vs a1_136 x44.2.length c1_136] HS rfl underlying55 rfl inf55 rfl
     have HS:=(aa.close tv (HS.b [10,10,10,10,10,10,10,10,10,10])).ke [7,7,7,7,0,8]
     cases H
     exact At.retv1 Z ⟨_,Z,hv140⟩ ⟨_,Z,a0_136,c0_136,d0_136,a1_136,c1_136,d1_136,Z,HS⟩
def cE.f (a0:au):Option Bool:=some a0.cut
theorem cE.calls (H:cE.f a0=some r) (HS:St [blk b0 (#[vi a0.room,vs a1_p0 a0.b.length c1_p0,vb a0.cut,vb a0.stall]) 151,rB a1_p0 c1_p0 a0.b,R] w0 w):Calls Tryz.prog 125 #[pt b0] w (Ret fun u w=>u=vb r∧St [blk b0 (#[vi a0.room,vs a1_p0 a0.b.length c1_p0,vb a0.cut,vb a0.stall]) 151,rB a1_p0 c1_p0 a0.b,R] w0 w):=by
 refine calls_enter func125 Z Z (go ?_)
 exact rt
def bQ.f (a0:au):Option Int:=some (w64 (a0.room-(a0.b.length:Int)))
theorem bQ.calls (H:bQ.f a0=some r) (HS:St [blk b0 (#[vi a0.room,vs a1_p0 a0.b.length c1_p0,vb a0.cut,vb a0.stall]) 151,rB a1_p0 c1_p0 a0.b,R] w0 w):Calls Tryz.prog 110 #[pt b0] w (Ret fun u w=>u=vi r∧St [blk b0 (#[vi a0.room,vs a1_p0 a0.b.length c1_p0,vb a0.cut,vb a0.stall]) 151,rB a1_p0 c1_p0 a0.b,R] w0 w):=by
 refine calls_enter func110 Z Z (go ?_)
 apply V.da [] [] [(3,_),(4,_),(5,_),(6,_),(7,_),(8,_),(9,_),(10,_),(11,_),(12,_),(2,_)] mo HS
 rfl
 refine T.ff [2] fun w HS=>?_
 refine go ?_
 exact rt
def cK.f (a0:Int):Option Bool:=(if a0≥0 then some (decide (a0<2)) else some false)
theorem cK.calls (H:cK.f a0=some r) (HS:St [R] w0 w):Calls Tryz.prog 99 #[vi a0] w (Ret fun u w=>u=vb r∧St [R] w0 w):=by
 refine calls_enter func99 Z Z (go ?_)
 refine W.cd 5 H Z (fun _ H=>go ?_) (fun _ H=>go ?_)
 ·exact rt
 ·exact rt
def cj.f (a0:List Int) (a1:Int) (a2:Int):Option (List Int):=(if 0≤a1∧a1≤a2∧a2≤(a0.length:Int) then (if a1=a2 then some a0 else (if 0≤(0:Int)∧(0:Int)≤a1∧a1≤(a0.length:Int) then (if 0≤a2∧a2≤(a0.length:Int)∧(a0.length:Int)≤(a0.length:Int) then some ((cut a0 (0:Int) a1)++(cut a0 a2 (a0.length:Int))) else none) else none)) else none)
theorem cj.calls (H:cj.f a0 a1 a2=some r) (HS:St [rB sa0 sc0 a0,R] w0 w):Calls Tryz.prog 172 #[vs sa0 a0.length sc0,vi a1,vi a2] w (Ret fun u w=>∃aq0 cq0,u=vs aq0 r.length cq0∧St [rB aq0 cq0 r,R] w0 w):=by
 refine calls_enter func172 Z Z (go ?_)
 obtain ⟨c1,H⟩:=ite_n H
 refine W.r (X.sl3 underlying48 inf5 Z Z Z Z c1 (Int.ofNat_le.2 (rdC.at 0 row_rd HS Z).cap)) Z (go ?_)
 refine V.cd H Z (fun _ H=>go ?_) (fun _ H=>go ?_)
 ·exact rt
 ·obtain ⟨c4,H⟩:=ite_n H
  obtain ⟨c5,H⟩:=ite_n H
  apply V.da [6] [7] [(20,_),(21,_),(22,_),(23,_),(24,_),(25,_)] mo HS
  rfl
  refine T.e [22,25] [] [0,1,2,3,4,5] (fun w HS=>?_) ⟨rd,rd,.n2 20 21 Z Z Z (fun w HS=>X.slH underlying48 inf5 Z Z c4 (rdC.at 0 row_rd HS Z).cap),rd,rd,.n2 23 24 Z Z Z (fun w HS=>X.slL underlying48 inf5 Z Z c5),rds⟩
  have hlt6:a1<a2:=by omega
  have hd7:0≤a1∧a1<a2∧a2≤(a0.length:Int):=by omega
  have hc8:(a0.length:Int)≤(sc0:Int):=Int.ofNat_le.2 (rdC.at 0 row_rd HS rfl).cap
  have hl9:(((cut a0 (0:Int) a1)++(cut a0 a2 (a0.length:Int))).length:Int)≤(a0.length:Int):=by rw [List.length_append,cut_len ⟨by omega,by omega,by omega⟩,cut_len ⟨by omega,by omega,by omega⟩];omega
  refine ⟨_,Y.appDelF (Value.int .u8) (fun _=>Z) 0 underlying48 ap5 HS Z hd7 Z Z,?_⟩
  rintro _ w ⟨rfl,HS⟩
  apply T.na [(26,_),(0,_)] HS
  exact nmk
  refine T.ff [0,7] fun w HS=>?_
  refine go ?_
  refine W.r (X.slC underlying48 inf5 Z Z Z ⟨by omega,hl9⟩ hc8) Z ?_
  refine W.en (Y.clearTail (n0:=a0.length) 0 underlying48 ap5 Z Z HS Z (Int.ofNat_le.1 hl9) (Int.ofNat_le.1 hc8) Z) Z ?_
  rintro _ w HS
  refine go ?_
  exact rt
mutual
def bH.l0:Nat→Int→aJ→Option aJ
 |0,_,_=>none
 |k+1,x2,x3=>(if x2>0 then (if x3.begun=0 then (if 0≤(0:Int)∧(0:Int)<(x3.pieces.length:Int) then (if 0≤(1:Int)∧(1:Int)≤(x3.pieces.length:Int)∧(x3.pieces.length:Int)≤(x3.pieces.length:Int) then (bH.l0 k (w64 (x2-(imin x2 (x3.pieces.getD (0:Int).toNat 0)))) ({x3 with begun:=w64 ((x3.pieces.getD (0:Int).toNat 0)-(imin x2 (x3.pieces.getD (0:Int).toNat 0))),pieces:=cut x3.pieces (1:Int) (x3.pieces.length:Int)}:aJ)) else none) else none) else (bH.l0 k (w64 (x2-(imin x2 x3.begun))) ({x3 with begun:=w64 (x3.begun-(imin x2 x3.begun))}:aJ))) else some x3)
end
def bH.f (k:Nat) (a0:aJ) (a1:Int):Option aJ:=(bH.l0 k a1 a0)
theorem bH.calls (H:bH.f k a0 a1=some r) (HS:St [aJ.at b0 a0,R] w0 w):Calls Tryz.prog 191 #[pt b0,vi a1] w (Ret fun u w=>u=Value.tuple #[]∧St [aJ.at b0 r,R] w0 w):=by
 refine calls_enter func191 Z Z (go ?_)
 refine V.lj (σ:=Int × aJ) [0] (fun kq (x2,x3) w=>St [aJ.at b0 x3,R] w0 w∧bH.l0 kq x2 x3=some r∧kq≤k) (fun (x2,x3)=>[(1,vi x2)]) (_,_) ⟨HS,H,Nat.le_refl _⟩ ?_
 rintro kq4 ⟨x2,x3⟩ w ⟨HS,H,_⟩
 cases kq4 with
 |zero=>exact absurd H (by simp [bH.l0])
 |succ kq4=>
  simp only [bH.l0] at H
  refine go ?_
  refine V.cd H Z (fun _ H=>go ?_) (fun _ H=>go ?_)
  ·obtain ⟨_,_,_,_,_,HS⟩:=aJ.open HS
   refine go ?_
   refine V.cd H Z (fun _ H=>go ?_) (fun _ H=>go ?_)
   ·obtain ⟨c10,H⟩:=ite_n H
    obtain ⟨_,_,hh⟩:=(rdC.at 2 row_rd HS rfl).some (by decide) c10.1 c10.2;subst hh
    refine go ?_
    refine W.r (X.load underlying3 Z Z ((rdC.at 2 row_rd HS Z).cellI c10.1 c10.2)) Z (go ?_)
    refine W.sr 2 HS Z Z Z fun w HS=>go ?_
    obtain ⟨c13,H⟩:=ite_n H
    refine W.r (X.slL underlying141 inf3 Z Z c13) Z (go ?_)
    refine W.sr 3 HS Z Z Z fun w HS=>go ?_
    refine W.sr 2 HS Z Z Z fun w HS=>go ?_
    have HS:=aJ.close tv ((St.row_subM (HS.fr 2) c13).b [1,1])
    exact At.rn (_,_) ⟨HS,H,by omega⟩
   ·refine W.sr 2 HS Z Z Z fun w HS=>go ?_
    have HS:=aJ.close tv HS
    exact At.rn (_,_) ⟨HS,H,by omega⟩
  ·exact rt
def bX.f (k:Nat) (a0:aJ) (a1:Int):Option (List Int × aJ):=(if 0≤(0:Int)∧(0:Int)≤imax (0) (imin a1 (a0.b.length:Int))∧imax (0) (imin a1 (a0.b.length:Int))≤(a0.b.length:Int) then ((aT.f (cut a0.b (0:Int) (imax (0) (imin a1 (a0.b.length:Int))))).bind fun t4=>((cj.f a0.b 0 (imax (0) (imin a1 (a0.b.length:Int)))).bind fun t6=>((bH.f k ({a0 with b:=t6}:aJ) (imax (0) (imin a1 (a0.b.length:Int)))).bind fun t8=>some (t4,t8)))) else none)
theorem bX.calls (H:bX.f k a0 a1=some r) (HS:St [aJ.at b0 a0,R] w0 w):Calls Tryz.prog 124 #[pt b0,vi a1] w (Ret fun u w=>∃aq0 cq0,u=vs aq0 r.1.length cq0∧St [rB aq0 cq0 r.1,aJ.at b0 r.2,R] w0 w):=by
 refine calls_enter func124 Z Z (go ?_)
 obtain ⟨_,_,_,_,_,HS⟩:=aJ.open HS
 refine go ?_
 obtain ⟨c3,H⟩:=ite_n H
 refine W.r (X.slH underlying48 inf5 Z Z c3 (rdC.at 1 row_rd HS Z).cap) Z ?_
 refine W.kl H func127 (fun _ h=>aT.calls h HS.j0 (rdC.part 1 (rdC.subM row_rd c3) Z)) ?_
 rintro _ _ w H ⟨_,_,rfl,HS⟩
 have HS:=HS.o1
 refine go ?_
 have HS:=HS.b [2]
 refine W.kl H func172 (fun _ h=>cj.calls h HS.j1) ?_
 rintro _ _ w H ⟨_,_,rfl,HS⟩
 have HS:=HS.o1
 refine go ?_
 refine W.sr 1 HS Z Z Z fun w HS=>go ?_
 have HS:=aJ.close tv (HS.b [2,0,1])
 refine W.kl H func191 (fun _ h=>bH.calls h HS.j1) ?_
 rintro _ _ w H ⟨rfl,HS⟩
 have HS:=HS.o1
 refine go ?_
 have HS:=HS.b [1]
 exact rt
def bn.f (k:Nat) (a0:aa) (a1:Int) (a2:Int):Option (List Int × aa):=((cK.f a1).bind fun t2=>(if t2=true then (if 0≤a1∧a1<2 then (if a1=0 then ((bX.f k a0.sides.1.ring a2).bind fun t9=>some (t9.1,({a0 with sides:=(({a0.sides.1 with ring:=t9.2}:aU),a0.sides.2)}:aa))) else ((bX.f k a0.sides.2.ring a2).bind fun t12=>some (t12.1,({a0 with sides:=(a0.sides.1,({a0.sides.2 with ring:=t12.2}:aU))}:aa)))) else none) else some (([]:List Int),a0)))
theorem bn.calls (H:bn.f k a0 a1 a2=some r) (HS:St [aa.at b0 a0,R] w0 w):Calls Tryz.prog 59 #[pt b0,vi a1,vi a2] w (Ret fun u w=>∃aq0 cq0,u=vs aq0 r.1.length cq0∧St [rB aq0 cq0 r.1,aa.at b0 r.2,R] w0 w):=by
 refine calls_enter func59 Z Z (go ?_)
 refine W.kl H func99 (fun _ h=>cK.calls h HS.j0) ?_
 rintro _ _ w H ⟨rfl,HS⟩
 have HS:=HS.o0
 refine go ?_
 refine V.cx H Z (fun _ H=>go ?_) (fun _ H=>go ?_)
 ·obtain ⟨_,_,_,_,_,_,_,_,_,_,HS⟩:=aa.open HS
  refine go ?_
  obtain ⟨c7,H⟩:=ite_n H
  refine ite_c H (fun c8 H=>?_) (fun _ H=>?_)
  ·refine W.r (X.indexArK 0 c8 underlying101 inf100 Z Z c7.1 c7.2) Z (go ?_)
   have HS:=HS.b [6]
   refine W.kl H func124 (fun _ h=>bX.calls h HS.j1) ?_
   rintro _ _ w H ⟨_,_,rfl,HS⟩
   have HS:=HS.o2
   refine go ?_
   have HS:=(aa.close tv (HS.b [2,2,2,2,2,2,1,1,1,1])).b [1]
   exact rt
  ·have hk11:a1=1:=by omega
   refine W.r (X.indexArK 1 hk11 underlying101 inf100 Z Z c7.1 c7.2) Z (go ?_)
   have HS:=HS.b [9]
   refine W.kl H func124 (fun _ h=>bX.calls h HS.j1) ?_
   rintro _ _ w H ⟨_,_,rfl,HS⟩
   have HS:=HS.o2
   refine go ?_
   have HS:=(aa.close tv (HS.b [2,2,2,2,2,2,2,2,2,1])).b [1]
   exact rt
 ·have HS:=row_nilF (Value.int .u8) 5 1 HS
  exact rt
def cq.f (a0:au) (a1:List Int):Option (Int × au):=(if a0.cut=true then some ((a1.length:Int),a0) else ((bQ.f a0).bind fun t5=>(if 0≤(0:Int)∧(0:Int)≤imin (a1.length:Int) t5∧imin (a1.length:Int) t5≤(a1.length:Int) then (if (a0.b.length:Int)+(cut a1 (0:Int) (imin (a1.length:Int) t5)).length≤1099511627776 then some (imin (a1.length:Int) t5,({a0 with b:=a0.b++(cut a1 (0:Int) (imin (a1.length:Int) t5))}:au)) else none) else none)))
theorem cq.calls (H:cq.f a0 a1=some r) (HS:St [au.at b0 a0,R] w0 w) (hr1:dB R sa1 sc1 a1):Calls Tryz.prog 58 #[pt b0,vs sa1 a1.length sc1] w (Ret fun u w=>u=vi r.1∧St [au.at b0 r.2,R] w0 w):=by
 refine calls_enter func58 Z Z (go ?_)
 obtain ⟨_,_,_,HS⟩:=au.open HS
 refine go ?_
 refine V.cv H Z (fun _ H=>go ?_) (fun _ H=>go ?_)
 ·have HS:=au.close tv HS
  exact rt
 ·refine W.kl H func110 (fun _ h=>bQ.calls h HS.j2) ?_
  rintro _ _ w H ⟨rfl,HS⟩
  have HS:=HS.o2
  refine go ?_
  obtain ⟨c7,H⟩:=ite_n H
  apply V.da [8,11] [9,10] [(17,_),(18,_),(19,_),(20,_),(21,_),(22,_),(23,_),(24,_)] mo HS
  rfl
  refine T.e [21,24] [] [1,2,3,4,5,6,7] (fun w HS=>?_) ⟨rd,rd,rd,rd,rd,rd,rd,.n2 22 23 Z Z Z (fun w HS=>X.slH underlying48 inf5 Z Z c7 (rdC.at 2 hr1 HS Z).cap),rds⟩
  obtain ⟨_,H⟩:=ite_n H
  refine ⟨_,Y.appF (Value.int .u8) (fun _=>Z) 1 underlying48 ap5 Z HS Z Z Z (rdC.at 2 (rdC.subM hr1 c7) HS Z) (by omega) (by omega),?_⟩
  rintro _ w ⟨_,_,rfl,HS⟩
  apply T.na [(25,_),(26,_),(27,_)] HS
  exact nmk
  refine T.e [25,27] [] [0,9,10] fun w HS=>?_
  refine Y.sr 1 HS Z Z Z fun _ w HS=>?_
  refine T.nn HS ?_
  refine T.ff [5] fun w HS=>?_
  refine go ?_
  have HS:=au.close tv HS
  exact rt
def dY.f (a0:au) (a1:Int):Option (List Int × au):=(if 0≤(0:Int)∧(0:Int)≤imax (0) (imin a1 (a0.b.length:Int))∧imax (0) (imin a1 (a0.b.length:Int))≤(a0.b.length:Int) then ((aT.f (cut a0.b (0:Int) (imax (0) (imin a1 (a0.b.length:Int))))).bind fun t4=>((cj.f a0.b 0 (imax (0) (imin a1 (a0.b.length:Int)))).bind fun t6=>some (t4,({a0 with b:=t6}:au)))) else none)
theorem dY.calls (H:dY.f a0 a1=some r) (HS:St [au.at b0 a0,R] w0 w):Calls Tryz.prog 109 #[pt b0,vi a1] w (Ret fun u w=>∃aq0 cq0,u=vs aq0 r.1.length cq0∧St [rB aq0 cq0 r.1,au.at b0 r.2,R] w0 w):=by
 refine calls_enter func109 Z Z (go ?_)
 obtain ⟨_,_,_,HS⟩:=au.open HS
 refine go ?_
 obtain ⟨c3,H⟩:=ite_n H
 refine W.r (X.slH underlying48 inf5 Z Z c3 (rdC.at 1 row_rd HS Z).cap) Z ?_
 refine W.kl H func127 (fun _ h=>aT.calls h HS.j0 (rdC.part 1 (rdC.subM row_rd c3) Z)) ?_
 rintro _ _ w H ⟨_,_,rfl,HS⟩
 have HS:=HS.o1
 refine go ?_
 have HS:=HS.b [2]
 refine W.kl H func172 (fun _ h=>cj.calls h HS.j1) ?_
 rintro _ _ w H ⟨_,_,rfl,HS⟩
 have HS:=HS.o1
 refine go ?_
 refine W.sr 1 HS Z Z Z fun w HS=>go ?_
 have HS:=(au.close tv (HS.b [2])).b [1]
 exact rt
def bC.f (a0:au) (a1:Int):Option (List Int × au):=(if a0.stall=true then some (([]:List Int),a0) else ((dY.f a0 a1).bind fun t5=>some t5))
theorem bC.calls (H:bC.f a0 a1=some r) (HS:St [au.at b0 a0,R] w0 w):Calls Tryz.prog 62 #[pt b0,vi a1] w (Ret fun u w=>∃aq0 cq0,u=vs aq0 r.1.length cq0∧St [rB aq0 cq0 r.1,au.at b0 r.2,R] w0 w):=by
 refine calls_enter func62 Z Z (go ?_)
 obtain ⟨_,_,_,HS⟩:=au.open HS
 refine go ?_
 refine V.cv H Z (fun _ H=>go ?_) (fun _ H=>go ?_)
 ·have HS:=(au.close tv ((row_nilF (Value.int .u8) 5 1 HS).b [1,1])).b [1]
  exact rt
 ·have HS:=au.close tv HS
  refine W.kl H func109 (fun _ h=>dY.calls h HS.j1) ?_
  rintro _ _ w H ⟨_,_,rfl,HS⟩
  have HS:=HS.o2
  refine go ?_
  exact rt
mutual
def bf.l0:Nat→(List Int)→(List Int)→Int→Option Bool
 |0,_,_,_=>none
 |k+1,a0,a1,x2=>(if x2<(a0.length:Int) then (if 0≤x2∧x2<(a0.length:Int) then (if 0≤x2∧x2<(a1.length:Int) then (if (a0.getD x2.toNat 0)=(a1.getD x2.toNat 0) then (bf.l0 k a0 a1 (w64 (x2+1))) else some false) else none) else none) else some true)
end
def bf.f (k:Nat) (a0:List Int) (a1:List Int):Option Bool:=(if (a0.length:Int)=(a1.length:Int) then (bf.l0 k a0 a1 0) else some false)
theorem bf.calls (H:bf.f k a0 a1=some r) (HS:St [R] w0 w) (hr0:dB R sa0 sc0 a0) (hr1:dB R sa1 sc1 a1):Calls Tryz.prog 314 #[vs sa0 a0.length sc0,vs sa1 a1.length sc1] w (Ret fun u w=>u=vb r∧St [R] w0 w):=by
 refine calls_enter func314 Z Z (go ?_)
 refine V.cm H Z (fun _ H=>go ?_) (fun _ H=>go ?_)
 ·refine V.lj (σ:=Int) [0,1,12] (fun kq x2 w=>St [R] w0 w∧bf.l0 kq a0 a1 x2=some r∧kq≤k) (fun x2=>[(13,vi x2)]) _ ⟨HS,H,Nat.le_refl _⟩ ?_
  rintro kq3 x2 w ⟨HS,H,_⟩
  cases kq3 with
  |zero=>exact absurd H (by simp [bf.l0])
  |succ kq3=>
   simp only [bf.l0] at H
   refine go ?_
   refine V.cd H Z (fun _ H=>go ?_) (fun _ H=>go ?_)
   ·obtain ⟨c6,H⟩:=ite_n H
    obtain ⟨_,_,hh⟩:=(rdC.at 0 hr0 HS rfl).some (by decide) c6.1 c6.2;subst hh
    obtain ⟨c9,H⟩:=ite_n H
    obtain ⟨_,_,hh⟩:=(rdC.at 0 hr1 HS rfl).some (by decide) c9.1 c9.2;subst hh
    apply V.da [] [] [(16,_),(17,_),(18,_),(19,_),(20,_),(21,_),(22,_),(23,_),(24,_)] mo HS
    rfl
    refine T.ff [0,1,12,13,24] (fun w HS=>?_) ⟨rd,rd,rd,.n1 18 Z Z (fun w HS=>X.load underlying5 Z Z ((rdC.at 0 hr0 HS Z).cellI c6.1 c6.2)),rd,rd,rd,.n1 22 Z Z (fun w HS=>X.load underlying5 Z Z ((rdC.at 0 hr1 HS Z).cellI c9.1 c9.2)),rds⟩
    refine go ?_
    refine V.cm H Z (fun _ H=>go ?_) (fun _ H=>go ?_)
    ·exact At.rn _ ⟨HS,H,by omega⟩
    ·exact rt
   ·exact rt
 ·exact rt
def eY.f (k:Nat) (a0:List Int) (a1:Bool):Option (List Int × Int):=((cg.f k [] a1).bind fun t1=>(if (w64 ((a0.length:Int)-(t1.length:Int)))<0 then some (([]:List Int),3) else (if 0≤(0:Int)∧(0:Int)≤w64 ((a0.length:Int)-(t1.length:Int))∧w64 ((a0.length:Int)-(t1.length:Int))≤(a0.length:Int) then (if 0≤w64 ((a0.length:Int)-(t1.length:Int))∧w64 ((a0.length:Int)-(t1.length:Int))≤(a0.length:Int)∧(a0.length:Int)≤(a0.length:Int) then ((cg.f k (cut a0 (0:Int) (w64 ((a0.length:Int)-(t1.length:Int)))) a1).bind fun t7=>((bf.f k t7 (cut a0 (w64 ((a0.length:Int)-(t1.length:Int))) (a0.length:Int))).bind fun t9=>(if t9=true then ((aT.f (cut a0 (0:Int) (w64 ((a0.length:Int)-(t1.length:Int))))).bind fun t12=>some (t12,0)) else some (([]:List Int),2)))) else none) else none)))
theorem eY.calls (H:eY.f k a0 a1=some r) (HS:St [R] w0 w) (hr0:dB R sa0 sc0 a0):Calls Tryz.prog 302 #[vs sa0 a0.length sc0,vb a1] w (Ret fun u w=>∃aq0 cq0,u=Value.tuple #[vs aq0 r.1.length cq0,vi r.2]∧St [rB aq0 cq0 r.1,R] w0 w):=by
 refine calls_enter func302 Z Z (go ?_)
 refine W.kl H func267 (fun _ h=>cg.calls h HS.j0 (rdC.nil Z)) ?_
 rintro _ _ w H ⟨_,_,rfl,HS⟩
 have HS:=HS.o1
 refine go ?_
 refine V.cd H Z (fun _ H=>go ?_) (fun _ H=>go ?_)
 ·have HS:=(row_nilF (Value.int .u8) 5 1 HS).ke [0,1]
  exact rt
 ·obtain ⟨c5,H⟩:=ite_n H
  obtain ⟨c6,H⟩:=ite_n H
  apply V.da [4,8] [9] [(15,_),(16,_),(17,_),(18,_),(20,_),(21,_),(22,_)] mo HS
  rfl
  refine T.e [17,18] [9] [0,1,2,3] (fun w HS=>?_) ⟨rd,rd,.n2 15 16 Z Z Z (fun w HS=>X.slH underlying48 inf5 Z Z c5 (rdC.at 1 hr0 HS Z).cap),rd,rd,rd,.n2 20 21 Z Z Z (fun w HS=>X.slL underlying48 inf5 Z Z c6),rds⟩
  refine Y.kl H func267 (fun _ h=>cg.calls h HS.j0 (rdC.part 1 (rdC.subM hr0 c5) Z)) ?_
  rintro _ _ w H ⟨_,_,rfl,HS⟩
  have HS:=HS.o1
  refine T.nw HS ?_
  refine T.e [19,22] [] [5,6,7] (fun w HS=>?_) ⟨rd,rd,.n2 20 21 Z Z Z (fun w HS=>X.slL underlying48 inf5 Z Z c6),rds⟩
  refine Y.kl H func314 (fun _ h=>bf.calls h HS.j0 (rdC.part 0 row_rd Z) (rdC.part 2 (rdC.subM hr0 c6) Z)) ?_
  rintro _ _ w H ⟨rfl,HS⟩
  have HS:=HS.o0
  apply T.na [(23,_),(24,_)] HS
  exact nmk
  refine T.ff [0,6,24] fun w HS=>?_
  refine go ?_
  refine V.cx H Z (fun _ H=>go ?_) (fun _ H=>go ?_)
  ·refine W.r (X.slH underlying48 inf5 Z Z c5 (rdC.at 2 hr0 HS Z).cap) Z ?_
   refine W.kl H func127 (fun _ h=>aT.calls h HS.j0 (rdC.part 2 (rdC.subM hr0 c5) Z)) ?_
   rintro _ _ w H ⟨_,_,rfl,HS⟩
   have HS:=HS.o1
   refine go ?_
   have HS:=HS.ke [0,2]
   exact rt
  ·have HS:=(row_nilF (Value.int .u8) 5 1 HS).ke [0,2]
   exact rt
def cJ.f (k:Nat) (a0:az):Option (Int × List Int):=((eS.f k a0.wide).bind fun t3=>(if (a0.b.length:Int)≤t3 then some (2,([]:List Int)) else ((eY.f k a0.b a0.wide).bind fun t6=>(if t6.2=0 then some (1,t6.1) else some (4,([]:List Int))))))
theorem cJ.calls (H:cJ.f k a0=some r) (HS:St [blk b0 (#[vb a0.wide,vi a0.most,vi a0.state,vs a3_p0 a0.b.length c3_p0]) 202,rB a3_p0 c3_p0 a0.b,R] w0 w):Calls Tryz.prog 274 #[pt b0] w (Ret fun u w=>∃aq1 cq1,u=Value.tuple #[vi r.1,vs aq1 r.2.length cq1]∧St [rB aq1 cq1 r.2,blk b0 (#[vb a0.wide,vi a0.most,vi a0.state,vs a3_p0 a0.b.length c3_p0]) 202,rB a3_p0 c3_p0 a0.b,R] w0 w):=by
 refine calls_enter func274 Z Z (go ?_)
 apply V.da [9] [10] [(6,_),(7,_),(8,_),(9,_),(10,_),(11,_),(12,_),(13,_),(14,_)] mo HS
 rfl
 refine T.e [14] [] [5,6,7,8] fun w HS=>?_
 refine Y.kl H func169 (fun _ h=>eS.calls h HS.j0) ?_
 rintro _ _ w H ⟨rfl,HS⟩
 have HS:=HS.o0
 apply T.na [(15,_),(16,_)] HS
 exact nmk
 refine T.ff [0,16] fun w HS=>?_
 refine go ?_
 refine V.cd H Z (fun _ H=>go ?_) (fun _ H=>go ?_)
 ·have HS:=row_nilF (Value.int .u8) 5 1 HS
  exact rt
 ·apply V.da [8] [9,10,11,12,13] [(18,_),(19,_),(20,_),(21,_),(22,_),(23,_),(24,_),(25,_)] mo HS
  rfl
  refine T.e [21,25] [] [0,1,2,3,4,5,6,7] fun w HS=>?_
  refine Y.kl H func302 (fun _ h=>eY.calls h HS.j0 (rdC.part 1 row_rd Z)) ?_
  rintro _ _ w H ⟨_,_,rfl,HS⟩
  have HS:=HS.o1
  apply T.na [(26,_),(17,_),(27,_),(28,_),(4,_),(5,_)] HS
  exact nmk
  refine T.ff [4,5] fun w HS=>?_
  refine go ?_
  refine V.cm H Z (fun _ H=>go ?_) (fun _ H=>go ?_)
  ·exact rt
  ·have HS:=(row_nilF (Value.int .u8) 5 1 HS).ke [0,1,1,1]
   exact rt
def cr.f (k:Nat) (a0:az):Option (Int × List Int × az):=(if a0.state=2 then ((cJ.f k a0).bind fun t4=>some (t4.1,t4.2,({a0 with state:=1,b:=([]:List Int)}:az))) else (if a0.state=3 then some (5,([]:List Int),({a0 with state:=1,b:=([]:List Int)}:az)) else (if a0.state=4 then some (3,([]:List Int),({a0 with state:=1,b:=([]:List Int)}:az)) else some (0,([]:List Int),({a0 with state:=1,b:=([]:List Int)}:az)))))
theorem cr.calls (H:cr.f k a0=some r) (HS:St [az.at b0 a0,R] w0 w):Calls Tryz.prog 239 #[pt b0] w (Ret fun u w=>∃aq1 cq1,u=Value.tuple #[vi r.1,vs aq1 r.2.1.length cq1]∧St [rB aq1 cq1 r.2.1,az.at b0 r.2.2,R] w0 w):=by
 refine calls_enter func239 Z Z (go ?_)
 obtain ⟨_,_,_,HS⟩:=az.open HS
 refine go ?_
 refine V.cd H Z (fun _ H=>go ?_) (fun _ H=>go ?_)
 ·refine W.kl H func274 (fun _ h=>cJ.calls h HS.j2) ?_
  rintro _ _ w H ⟨_,_,rfl,HS⟩
  have HS:=HS.o3
  refine go ?_
  refine W.sr 2 HS Z Z Z fun w HS=>go ?_
  refine W.sr 3 HS Z Z Z fun w HS=>go ?_
  have HS:=(az.close (l3:=([]:List Int)) tv ((row_nilF (Value.int .u8) 5 1 HS).b [2])).ke [1,0,1]
  exact rt
 ·refine V.cd H Z (fun _ H=>go ?_) (fun _ H=>go ?_)
  ·refine W.sr 2 HS Z Z Z fun w HS=>go ?_
   refine W.sr 3 HS Z Z Z fun w HS=>go ?_
   have HS:=(az.close (l3:=([]:List Int)) tv ((row_nilF (Value.int .u8) 5 1 (row_nilF (Value.int .u8) 5 1 HS)).b [2])).ke [1,0,1]
   exact rt
  ·refine V.cd H Z (fun _ H=>go ?_) (fun _ H=>go ?_)
   ·refine W.sr 2 HS Z Z Z fun w HS=>go ?_
    refine W.sr 3 HS Z Z Z fun w HS=>go ?_
    have HS:=(az.close (l3:=([]:List Int)) tv ((row_nilF (Value.int .u8) 5 1 (row_nilF (Value.int .u8) 5 1 HS)).b [2])).ke [1,0,1]
    exact rt
   ·refine W.sr 2 HS Z Z Z fun w HS=>go ?_
    refine W.sr 3 HS Z Z Z fun w HS=>go ?_
    have HS:=(az.close (l3:=([]:List Int)) tv ((row_nilF (Value.int .u8) 5 1 (row_nilF (Value.int .u8) 5 1 HS)).b [2])).ke [1,0,1]
    exact rt
def cM.f (a0:az) (a1:Int):Option az:=(if (a0.b.length:Int)+([a1]:List Int).length≤1099511627776 then (if ((a0.b++([a1]:List Int)).length:Int)>a0.most then some (({a0 with state:=4,b:=a0.b++([a1]:List Int)}:az)) else some (({a0 with state:=2,b:=a0.b++([a1]:List Int)}:az))) else none)
theorem cM.calls (H:cM.f a0 a1=some r) (HS:St [az.at b0 a0,R] w0 w):Calls Tryz.prog 240 #[pt b0,Value.int .u8 a1] w (Ret fun u w=>u=Value.tuple #[]∧St [az.at b0 r,R] w0 w):=by
 refine calls_enter func240 Z Z (go ?_)
 obtain ⟨_,_,_,HS⟩:=az.open HS
 refine go ?_
 refine W.e (Y.ls (e:=5) (Value.int .u8) ([a1]:List Int) HS Z Z (fun _=>by kernel_rfl)) Z ?_
 rintro _ w ⟨_,rfl,HS⟩
 obtain ⟨_,H⟩:=ite_n H
 refine W.e (Y.appF (Value.int .u8) (fun _=>Z) 2 underlying48 ap5 Z HS Z Z Z (rdC.at 0 row_rd HS Z) (by omega) (by omega)) Z ?_
 rintro _ w ⟨_,_,rfl,HS⟩
 refine go ?_
 refine W.sr 3 HS Z Z Z fun w HS=>go ?_
 refine W.sr 2 HS Z Z Z fun w HS=>go ?_
 apply V.da [] [] [(17,_),(18,_),(19,_),(20,_),(21,_),(22,_),(23,_),(24,_),(25,_),(26,_)] mo HS
 rfl
 refine T.ff [0,26] fun w HS=>?_
 refine go ?_
 refine V.cd H Z (fun _ H=>go ?_) (fun _ H=>go ?_)
 ·refine W.sr 2 HS Z Z Z fun w HS=>go ?_
  have HS:=(az.close tv (HS.b [1,1])).ke [0,1]
  exact rt
 ·have HS:=(az.close tv (HS.b [1,1])).ke [0,1]
  exact rt
mutual
def aQ.j0 (a0:az) (a1:Int) (x8:Bool):Option (Int × List Int × az):=(if x8=true then some (0,([]:List Int),a0) else (if a0.state=3 then ((cM.f a0 (ixor .u8 a1 (32))).bind fun t12=>some (0,([]:List Int),t12)) else (if a1=125 then some (0,([]:List Int),({a0 with state:=3}:az)) else ((cM.f a0 a1).bind fun t17=>some (0,([]:List Int),t17)))))
end
def aQ.f (k:Nat) (a0:az) (a1:Int):Option (Int × List Int × az):=(if a1=126 then ((cr.f k a0).bind fun t3=>some (t3.1,t3.2.1,t3.2.2)) else (if a0.state=0 then (aQ.j0 a0 a1 (decide (a0.state=0))) else (aQ.j0 a0 a1 (decide (a0.state=4)))))
theorem aQ.calls (H:aQ.f k a0 a1=some r) (HS:St [az.at b0 a0,R] w0 w):Calls Tryz.prog 192 #[pt b0,Value.int .u8 a1] w (Ret fun u w=>∃aq1 cq1,u=Value.tuple #[vi r.1,vs aq1 r.2.1.length cq1]∧St [rB aq1 cq1 r.2.1,az.at b0 r.2.2,R] w0 w):=by
 refine calls_enter func192 Z Z (go ?_)
 refine V.scope 1 (go ?_)
 refine V.cd H Z (fun _ H=>go ?_) (fun _ H=>go ?_)
 ·refine W.kl H func239 (fun _ h=>cr.calls h HS.j1) ?_
  rintro _ _ w H ⟨_,_,rfl,HS⟩
  have HS:=HS.o2
  refine go ?_
  exact rt
 ·obtain ⟨_,_,_,HS⟩:=az.open HS
  refine gs ?_
  refine V.mj (σ:=Bool) [0,1,15] (fun x8 w=>St [az.at b0 a0,R] w0 w∧aQ.j0 a0 a1 x8=some r) (fun x8=>[(16,vb x8)]) ?_ ?_
  ·refine go ?_
   refine V.cd H Z (fun _ H=>go ?_) (fun _ H=>go ?_)
   ·have HS:=az.close tv HS
    exact At.mt _ ⟨HS,H⟩
   ·have HS:=az.close tv HS
    exact At.mt _ ⟨HS,H⟩
  ·rintro x8 w ⟨HS,H⟩
   refine V.cv H Z (fun _ H=>go ?_) (fun _ H=>go ?_)
   ·refine At.jump Z (go ?_)
    have HS:=row_nilF (Value.int .u8) 5 1 HS
    exact rt
   ·refine V.cd H Z (fun _ H=>go ?_) (fun _ H=>go ?_)
    ·refine W.r (X.xor Z Z) Z (go ?_)
     refine At.jump Z (go ?_)
     refine W.kl H func240 (fun _ h=>cM.calls h HS.j1) ?_
     rintro _ _ w H ⟨rfl,HS⟩
     have HS:=HS.o1
     refine go ?_
     have HS:=row_nilF (Value.int .u8) 5 1 HS
     exact rt
    ·refine V.cd H Z (fun _ H=>go ?_) (fun _ H=>go ?_)
     ·obtain ⟨_,_,_,HS⟩:=az.open HS
      refine go ?_
      refine W.sr 2 HS Z Z Z fun w HS=>go ?_
      refine At.jump Z (go ?_)
      have HS:=(az.close tv ((row_nilF (Value.int .u8) 5 1 HS).b [1,1])).b [1]
      exact rt
     ·refine W.kl H func240 (fun _ h=>cM.calls h HS.j1) ?_
      rintro _ _ w H ⟨rfl,HS⟩
      have HS:=HS.o1
      refine go ?_
      have HS:=row_nilF (Value.int .u8) 5 1 HS
      exact rt
def aV.f (a0:Int):Int:=imin (w64 (a0+1)) (4294967295)
theorem aV.cell {L:List As} {w0 w:World} (j z:Nat) {b o:Nat} {c c':Array Value} {e:TypeId} {v:Int} {L':List As} (HS:Sep.St L w0 w) (hL:L[j]?=some (blk b c e)) (hc:c[z]?=some (vi v)) (ho:o=z)
  [q:SetA c z (vi (aV.f v)) c'] [r:SetL L j (blk b c' e) L']:Calls Tryz.prog 193 #[po b o] w (Ret fun u w=>u=Value.tuple #[]∧Sep.St L' w0 w):=by
 subst ho
 refine calls_enter func193 Z Z ?_
 exact V.region (W.rd (X.move Z) Z Z Z (W.rd (X.move Z) Z Z Z (W.rd (X.nilCheck Z) Z Z Z (W.rd (X.loadAt j HS hL underlying3 Z Z hc) Z Z Z (W.rd (X.add Z Z) Z Z Z (W.rd (X.min2 Z Z) Z Z Z (W.rd (X.nilCheck Z) Z Z Z (W.ev_none (Y.storeAt j HS hL inf3 Z Z Z hc q.h r.h) Z Z fun _ w HS=>W.nil (At.end0 Z ⟨_,Z,Z,HS⟩)))))))))
def eX.f (a0:Bool):Option (Nat × Nat):=(if a0=true then some (((4607182418800017408,0):Nat × Nat)) else some (((0,4607182418800017408):Nat × Nat)))
theorem eX.calls (H:eX.f a0=some r) (HS:St [R] w0 w):Calls Tryz.prog 275 #[vb a0] w (Ret fun u w=>u=Value.complex .f64 r.1 r.2∧St [R] w0 w):=by
 refine calls_enter func275 Z Z (go ?_)
 refine V.cv H Z (fun _ H=>go ?_) (fun _ H=>go ?_)
 ·exact rt
 ·exact rt
mutual
def bE.j0 (a1:Bool) (x2:aP):Option aP:=(if 0≤x2.at_∧x2.at_<(x2.l.length:Int) then ((eX.f a1).bind fun t9=>((cxop .add x2.sum t9).bind fun t11=>(if ¬(((x2.l.set x2.at_.toNat a1).length:Int)=0) then some (({l:=x2.l.set x2.at_.toNat a1,at_:=(w64 (x2.at_+1)).tmod (((x2.l.set x2.at_.toNat a1).length:Int)),kept:=x2.kept,sum:=t11}:aP)) else none))) else none)
end
def bE.f (a0:aP) (a1:Bool):Option aP:=(if a0.kept=(a0.l.length:Int) then (if 0≤a0.at_∧a0.at_<(a0.l.length:Int) then ((eX.f (a0.l.getD a0.at_.toNat false)).bind fun t20=>((cxop .sub a0.sum t20).bind fun t22=>(bE.j0 a1 ({a0 with sum:=t22}:aP)))) else none) else (bE.j0 a1 ({a0 with kept:=w64 (a0.kept+1)}:aP)))
theorem bE.calls (H:bE.f a0 a1=some r) (HS:St [aP.at b0 a0,R] w0 w):Calls Tryz.prog 241 #[pt b0,vb a1] w (Ret fun u w=>u=Value.tuple #[]∧St [aP.at b0 r,R] w0 w):=by
 unfold bE.f at H
 refine calls_enter func241 Z Z ?_
 have H:_=some r:=H
 refine V.mj (σ:=aP) [0,1] (fun x2 w=>St [aP.at b0 x2,R] w0 w∧bE.j0 a1 x2=some r) (fun _=>[]) ?_ ?_
 ·refine go ?_
  obtain ⟨_,_,_,HS⟩:=aP.open HS
  apply V.da [] [] [(4,_),(5,_),(6,_),(7,_),(8,_),(9,_),(10,_),(11,_),(12,_),(13,_)] mo HS
  rfl
  refine T.ff [0,1,13] fun w HS=>?_
  refine go ?_
  refine V.cd H Z (fun _ H=>?_) (fun _ H=>go ?_)
  ·obtain ⟨c17,H⟩:=ite_n H
   obtain ⟨_,_,hh⟩:=(rdC.at 1 row_rd HS rfl).some (by decide) c17.1 c17.2;subst hh
   apply V.da [14,18] [15,16,17] [(14,_),(15,_),(16,_),(17,_),(18,_),(19,_),(20,_),(21,_),(22,_),(23,_),(24,_),(25,_),(26,_),(27,_)] mo HS
   rfl
   refine T.e [27] [] [4,5,6,7,8,9,10,11,12,13] (fun w HS=>?_) ⟨rd,rd,rd,rd,rd,rd,rd,rd,rd,rd,rd,rd,rd,.n1 26 Z Z (fun w HS=>X.load underlying4 Z Z ((rdC.at 1 row_rd HS Z).cellB c17.1 c17.2)),rds⟩
   refine Y.kl H func275 (fun _ h=>eX.calls h HS.j0) ?_
   rintro _ _ w H ⟨rfl,HS⟩
   have HS:=HS.o0
   obtain ⟨_,A23,H⟩:=bind_s H
   apply T.na [(28,_),(29,_),(30,_),(31,_)] HS
   exact nmk
   refine T.e [29,31] [] [0,1,2,3,15,16,17] (fun w HS=>?_) ⟨rd,rd,rd,rd,.n2 17 28 Z Z Z (fun w HS=>X.cxop A23 Z Z),rds⟩
   refine Y.sr 3 HS Z Z Z fun _ w HS=>?_
   refine T.nn HS ?_
   refine T.ff [0,1] fun w HS=>?_
   have HS:=aP.close tv HS
   exact At.mt _ ⟨HS,H⟩
  ·refine W.sr 2 HS Z Z Z fun w HS=>go ?_
   have HS:=aP.close tv HS
   exact At.mt _ ⟨HS,H⟩
 ·rintro x2 w ⟨HS,H⟩
  unfold bE.j0 at H
  refine go ?_
  obtain ⟨_,c0_4,_,HS⟩:=aP.open HS
  obtain ⟨c6,H⟩:=ite_n H
  obtain ⟨eb7,eo8,hh⟩:=(rdC.at 1 row_rd HS rfl).some (by decide) c6.1 c6.2;subst hh
  apply V.da [10] [] [(39,_),(40,_),(41,_),(42,_),(43,_),(44,_),(45,_),(46,_),(47,_),(48,_)] mo HS
  rfl
  refine T.e [47,48] [] [0,1,2,3,4,5,6,7,8,9] fun w HS=>?_
  refine ⟨_,Y.storeRowN vb (fun _=>Z) 1 HS Z inf4 Z Z c6.1 c6.2,?_⟩
  rintro _ w HS
  refine T.nn HS ?_
  refine T.ff [0,1] fun w HS=>?_
  have HS:Sep.St [blk b0 (#[vs (some ⟨eb7,eo8,none⟩) (x2.l.set x2.at_.toNat a1).length c0_4,vi x2.at_,vi x2.kept,Value.complex .f64 x2.sum.1 x2.sum.2]) 256,row 4 1 (.slice (some ⟨eb7,eo8,none⟩) (x2.l.set x2.at_.toNat a1).length c0_4) (x2.l.set x2.at_.toNat a1).length ((x2.l.set x2.at_.toNat a1).map Value.bool),R] w0 w:=by simpa only [List.length_set,List.set_cons_succ,List.set_cons_zero] using HS
  refine go ?_
  apply V.da [5,9] [6,7,8] [(49,_),(50,_),(51,_),(52,_),(53,_)] mo HS
  rfl
  refine T.e [53] [] [4] fun w HS=>?_
  refine Y.kl H func275 (fun _ h=>eX.calls h HS.j0) ?_
  rintro _ _ w H ⟨rfl,HS⟩
  have HS:=HS.o0
  obtain ⟨_,A12,H⟩:=bind_s H
  apply T.na [(54,_),(55,_),(56,_),(57,_)] HS
  exact nmk
  refine T.e [55,57] [] [0,1,2,3,6,7,8] (fun w HS=>?_) ⟨rd,rd,rd,rd,.n2 52 54 Z Z Z (fun w HS=>X.cxop A12 Z Z),rds⟩
  refine Y.sr 3 HS Z Z Z fun _ w HS=>?_
  refine T.nn HS ?_
  refine T.ff [0] fun w HS=>?_
  refine go ?_
  obtain ⟨c13,H⟩:=ite_n H
  apply V.da [14] [] [(58,_),(59,_),(60,_),(61,_),(62,_),(63,_),(64,_),(65,_),(66,_),(67,_),(68,_),(69,_),(70,_),(71,_)] mo HS
  rfl
  refine T.e [69,71] [] [0,1,2,3,4,5,6,7,8,9,10,11,12,13] (fun w HS=>?_) ⟨rd,rd,rd,rd,rd,rd,rd,rd,rd,rd,rd,.n2 63 68 Z Z Z (fun w HS=>X.rem Z Z c13),rds⟩
  refine Y.sr 1 HS Z Z Z fun _ w HS=>?_
  refine T.nn HS ?_
  refine T.ff [] fun w HS=>?_
  have HS:=aP.close tv HS
  exact rt
def dX.f (a0:aP):Option (Nat × Nat):=some a0.sum
theorem dX.calls (H:dX.f a0=some r) (HS:St [blk b0 (#[vs a0_p0 a0.l.length c0_p0,vi a0.at_,vi a0.kept,Value.complex .f64 a0.sum.1 a0.sum.2]) 256,row 4 1 (.slice a0_p0 a0.l.length c0_p0) a0.l.length (a0.l.map Value.bool),R] w0 w):Calls Tryz.prog 243 #[pt b0] w (Ret fun u w=>u=Value.complex .f64 r.1 r.2∧St [blk b0 (#[vs a0_p0 a0.l.length c0_p0,vi a0.at_,vi a0.kept,Value.complex .f64 a0.sum.1 a0.sum.2]) 256,row 4 1 (.slice a0_p0 a0.l.length c0_p0) a0.l.length (a0.l.map Value.bool),R] w0 w):=by
 refine calls_enter func243 Z Z (go ?_)
 exact rt
mutual
def du.j0 (a0:Nat) (x1:Bool):Option (Int × Bool):=(if x1=true then some (0,false) else ((f2i .i64 a0).bind fun t4=>some (t4,fcmp .eql (FloatKind.f64.nearest t4) a0)))
end
def du.f (a0:Nat):Option (Int × Bool):=(if fcmp .geq a0 (0:Nat)=true then (du.j0 a0 (!(fcmp .leq a0 (4751297606873776128:Nat)))) else (du.j0 a0 true))
theorem du.calls (H:du.f a0=some r) (HS:St [R] w0 w):Calls Tryz.prog 276 #[Value.float .f64 a0] w (Ret fun u w=>u=Value.tuple #[vi r.1,vb r.2]∧St [R] w0 w):=by
 refine calls_enter func276 Z Z ?_
 refine V.seq ?_
 refine gs ?_
 refine V.seq ?_
 refine V.mj (σ:=Bool) [0] (fun x1 w=>St [R] w0 w∧du.j0 a0 x1=some r) (fun x1=>[(11,vb x1)]) ?_ ?_
 ·refine go ?_
  refine W.r (X.fcmp (fcmp .geq a0 (0:Nat)) Z (by decide) Z Z) Z (go ?_)
  refine W.cv 7 H Z (fun _ H=>go ?_) (fun _ H=>go ?_)
  ·refine W.r (X.fcmp (fcmp .leq a0 (4751297606873776128:Nat)) Z (by decide) Z Z) Z (go ?_)
   exact At.mt _ ⟨HS,H⟩
  ·exact At.mt _ ⟨HS,H⟩
 ·rintro x1 w ⟨HS,H⟩
  refine V.cv H Z (fun _ H=>go ?_) (fun _ H=>go ?_)
  ·exact rt
  ·obtain ⟨t4,A5,H⟩:=bind_s H
   refine W.r (X.f2i A5 underlying280 underlying3 Z) Z (go ?_)
   refine W.r (X.i2f underlying3 underlying280 Z) Z (go ?_)
   refine W.r (X.fcmp (fcmp .eql (FloatKind.f64.nearest t4) a0) Z (by decide) Z Z) Z (go ?_)
   exact rt
mutual
def dA.j0 (t1:Int × Bool) (t3:Int × Bool) (x5:Bool):Option (Int × Int × Bool):=(if x5=true then some (0,0,false) else some (t1.1,t3.1,true))
end
def dA.f (a0:(Nat × Nat)):Option (Int × Int × Bool):=((du.f a0.1).bind fun t1=>((du.f a0.2).bind fun t3=>(if t1.2=true then (dA.j0 t1 t3 (!t3.2)) else (dA.j0 t1 t3 true))))
theorem dA.calls (H:dA.f a0=some r) (HS:St [R] w0 w):Calls Tryz.prog 242 #[Value.complex .f64 a0.1 a0.2] w (Ret fun u w=>u=Value.tuple #[vi r.1,vi r.2.1,vb r.2.2]∧St [R] w0 w):=by
 refine calls_enter func242 Z Z (go ?_)
 refine W.r (X.real Z) Z ?_
 refine W.kl H func276 (fun _ h=>du.calls h HS.j0) ?_
 rintro t1 _ w H ⟨rfl,HS⟩
 have HS:=HS.o0
 refine go ?_
 refine W.r (X.imag Z) Z ?_
 refine W.kl H func276 (fun _ h=>du.calls h HS.j0) ?_
 rintro t3 _ w H ⟨rfl,HS⟩
 have HS:=HS.o0
 refine gs ?_
 refine V.seq ?_
 refine V.mj (σ:=Bool) [5,7] (fun x5 w=>St [R] w0 w∧dA.j0 t1 t3 x5=some r) (fun x5=>[(26,vb x5)]) ?_ ?_
 ·refine go ?_
  refine W.cx 23 H Z (fun _ H=>go ?_) (fun _ H=>go ?_)
  ·exact At.mt _ ⟨HS,H⟩
  ·exact At.mt _ ⟨HS,H⟩
 ·rintro x5 w ⟨HS,H⟩
  refine V.cv H Z (fun _ H=>go ?_) (fun _ H=>go ?_)
  ·exact rt
  ·exact rt
def dG.f (a0:aP):Option aP:=some (({l:=a0.l,at_:=0,kept:=0,sum:=((0,0):Nat × Nat)}:aP))
theorem dG.calls (H:dG.f a0=some r) (HS:St [aP.at b0 a0,R] w0 w):Calls Tryz.prog 244 #[pt b0] w (Ret fun u w=>u=Value.tuple #[]∧St [aP.at b0 r,R] w0 w):=by
 refine calls_enter func244 Z Z (go ?_)
 obtain ⟨a0_1,c0_1,_,HS⟩:=aP.open HS
 refine go ?_
 refine W.r (X.bd (Value.agg #[vs a0_1 a0.l.length c0_1,vi (0),vi (0),Value.complex .f64 (((0,0):Nat × Nat)).1 (((0,0):Nat × Nat)).2]) Z (fun _=>by kernel_rfl)) Z (go ?_)
 refine W.ss HS Z Z Z Z fun w HS=>go ?_
 have HS:=aP.close tv HS
 exact rt
mutual
def aE.j2 (x7:ap) (x30:Bool):Option (Int × ap):=(if x30=true then some (1,({x7 with state:=1}:ap)) else some (x7.state,x7))
def aE.j1 (x7:ap) (t15:Int × Int × Bool) (x19:Bool):Option (Int × ap):=(if x19=true then ((dG.f x7.w).bind fun t24=>some (0,({x7 with w:=t24,state:=0}:ap))) else (if t15.2.1≥x7.bad then some (2,({x7 with state:=2}:ap)) else (if t15.2.1≥(w64 ((w64 (x7.bad+1)).tdiv (2))) then (aE.j2 x7 (decide (x7.state=0))) else (aE.j2 x7 false))))
def aE.j0 (x7:ap):Option (Int × ap):=((dX.f x7.w).bind fun t13=>((dA.f t13).bind fun t15=>(if x7.state=0 then (aE.j1 x7 t15 false) else (aE.j1 x7 t15 (decide (x7.row≥x7.good))))))
end
def aE.f (a0:ap) (a1:Bool):Option (Int × ap):=((bE.f a0.w a1).bind fun t3=>(if a1=true then (aE.j0 ({a0 with w:=t3,row:=imin (w64 (a0.row+1)) (16),silence:=0}:ap)) else (aE.j0 ({a0 with w:=t3,row:=0,silence:=0}:ap))))
theorem aE.calls (H:aE.f a0 a1=some r) (HS:St [ap.at b0 a0,R] w0 w):Calls Tryz.prog 194 #[pt b0,vb a1] w (Ret fun u w=>u=vi r.1∧St [ap.at b0 r.2,R] w0 w):=by
 refine calls_enter func194 Z Z (go ?_)
 obtain ⟨_,_,HS⟩:=ap.open HS
 refine go ?_
 have HS:=HS.b [1]
 refine W.kl H func241 (fun _ h=>bE.calls h HS.j1) ?_
 rintro _ _ w H ⟨rfl,HS⟩
 have HS:=HS.o1
 refine go ?_
 refine W.sr 5 HS Z Z Z fun w HS=>go ?_
 refine W.sr 4 HS Z Z Z fun w HS=>?_
 refine gs ?_
 refine V.mj (σ:=ap) [0] (fun x7 w=>St [ap.at b0 x7,R] w0 w∧aE.j0 x7=some r) (fun _=>[]) ?_ ?_
 ·refine go ?_
  refine V.cx H Z (fun _ H=>go ?_) (fun _ H=>go ?_)
  ·have HS:=ap.close tv (HS.b [1])
   exact At.mt _ ⟨HS,H⟩
  ·refine W.sr 4 HS Z Z Z fun w HS=>go ?_
   have HS:=ap.close tv (HS.b [1])
   exact At.mt _ ⟨HS,H⟩
 ·rintro x7 w ⟨HS,H⟩
  refine go ?_
  obtain ⟨_,_,HS⟩:=ap.open HS
  refine go ?_
  have HS:=HS.fr 1
  obtain ⟨_,_,_,HS⟩:=aP.open HS
  refine W.kl H func243 (fun _ h=>dX.calls h HS.j2) ?_
  rintro _ _ w H ⟨rfl,HS⟩
  have HS:=HS.o2
  refine W.kl H func242 (fun _ h=>dA.calls h HS.j0) ?_
  rintro t15 _ w H ⟨rfl,HS⟩
  have HS:=HS.o0
  refine gs ?_
  refine V.seq ?_
  refine gs ?_
  refine V.mj (σ:=Bool) [0,6] (fun x19 w=>St [ap.at b0 x7,R] w0 w∧aE.j1 x7 t15 x19=some r) (fun x19=>[(41,vb x19)]) ?_ ?_
  ·refine ite_c H (fun c38 H=>?_) (fun c38 H=>?_)
   ·apply V.da [] [] [(42,_),(43,_),(44,_),(45,_),(46,_),(47,_),(48,_),(49,_),(50,_),(51,_),(52,_),(53,_),(54,_),(55,_),(56,_),(57,_),(41,_)] mo HS
    rfl
    refine T.ff [0,6,41] fun w HS=>?_
    have HS:=ap.close tv ((aP.close tv HS).b [1])
    exact At.mt _ ⟨HS,H⟩
   ·apply V.da [] [] [(42,_),(43,_),(44,_),(45,_),(46,_),(47,_),(48,_),(49,_),(50,_),(51,_),(52,_),(53,_),(54,_),(55,_),(56,_),(57,_),(41,_)] mo HS
    rfl
    refine T.ff [0,6,41] fun w HS=>?_
    have HS:=ap.close tv ((aP.close tv HS).b [1])
    exact At.mt _ ⟨HS,H⟩
  ·rintro x19 w ⟨HS,H⟩
   refine V.cv H Z (fun _ H=>go ?_) (fun _ H=>go ?_)
   ·obtain ⟨_,_,HS⟩:=ap.open HS
    refine go ?_
    have HS:=HS.b [1]
    refine W.kl H func244 (fun _ h=>dG.calls h HS.j1) ?_
    rintro _ _ w H ⟨rfl,HS⟩
    have HS:=HS.o1
    refine go ?_
    refine W.sr 6 HS Z Z Z fun w HS=>go ?_
    have HS:=ap.close tv (HS.b [1])
    exact rt
   ·obtain ⟨_,_,HS⟩:=ap.open HS
    refine go ?_
    refine V.cd H Z (fun _ H=>go ?_) (fun _ H=>?_)
    ·refine W.sr 6 HS Z Z Z fun w HS=>go ?_
     have HS:=ap.close tv HS
     exact rt
    ·refine V.mj (σ:=Bool) [0] (fun x30 w=>St [ap.at b0 x7,R] w0 w∧aE.j2 x7 x30=some r) (fun x30=>[(76,vb x30)]) ?_ ?_
     ·refine go ?_
      refine W.r (X.quo Z Z (by decide)) Z (go ?_)
      refine W.cd 85 H Z (fun _ H=>go ?_) (fun _ H=>go ?_)
      ·have HS:=ap.close tv HS
       exact At.mt _ ⟨HS,H⟩
      ·have HS:=ap.close tv HS
       exact At.mt _ ⟨HS,H⟩
     ·rintro x30 w ⟨HS,H⟩
      refine V.cv H Z (fun _ H=>go ?_) (fun _ H=>go ?_)
      ·obtain ⟨_,_,HS⟩:=ap.open HS
       refine go ?_
       refine W.sr 6 HS Z Z Z fun w HS=>go ?_
       have HS:=ap.close tv HS
       exact rt
      ·obtain ⟨_,_,HS⟩:=ap.open HS
       refine go ?_
       have HS:=ap.close tv HS
       exact rt
def db.f (a0:aH):Option Int:=some a0.line
theorem db.calls (H:db.f a0=some r) (HS:St [blk b0 (#[vi a0.hold,vi a0.wait,vb a0.revert,vi a0.command,vi a0.remote,vi a0.own,vi a0.bad,vi a0.left,vi a0.line]) 168,R] w0 w):Calls Tryz.prog 66 #[pt b0] w (Ret fun u w=>u=vi r∧St [blk b0 (#[vi a0.hold,vi a0.wait,vb a0.revert,vi a0.command,vi a0.remote,vi a0.own,vi a0.bad,vi a0.left,vi a0.line]) 168,R] w0 w):=by
 refine calls_enter func66 Z Z (go ?_)
 exact rt
def bV.f (a0:aK) (a1:Int):Option (Bool × aK):=(if ¬((a0.came.length:Int)=0) then (if 0≤(w64 ((w64 (a0.at_+(a0.came.length:Int)))-a1)).tmod (a0.came.length:Int)∧(w64 ((w64 (a0.at_+(a0.came.length:Int)))-a1)).tmod (a0.came.length:Int)<(a0.came.length:Int) then some (!(a0.came.getD ((w64 ((w64 (a0.at_+(a0.came.length:Int)))-a1)).tmod (a0.came.length:Int)).toNat false),({a0 with came:=a0.came.set ((w64 ((w64 (a0.at_+(a0.came.length:Int)))-a1)).tmod (a0.came.length:Int)).toNat true}:aK)) else none) else none)
theorem bV.calls (H:bV.f a0 a1=some r) (HS:St [aK.at b0 a0,R] w0 w):Calls Tryz.prog 277 #[pt b0,vi a1] w (Ret fun u w=>u=vb r.1∧St [aK.at b0 r.2,R] w0 w):=by
 unfold bV.f at H
 refine calls_enter func277 Z Z ?_
 have H:_=some r:=H
 refine go ?_
 obtain ⟨_,c3_1,_,HS⟩:=aK.open HS
 refine go ?_
 obtain ⟨c3,H⟩:=ite_n H
 obtain ⟨c4,H⟩:=ite_n H
 obtain ⟨eb5,eo6,hh⟩:=(rdC.at 1 row_rd HS rfl).some (by decide) c4.1 c4.2;subst hh
 apply V.da [] [] [(13,_),(14,_),(15,_),(16,_),(17,_),(18,_),(19,_),(20,_),(21,_),(22,_),(23,_),(24,_),(25,_),(26,_),(27,_),(6,_)] mo HS
 rfl
 refine T.ff [6] (fun w HS=>?_) ⟨rd,rd,rd,rd,rd,rd,rd,rd,rd,rd,rd,rd,rd,.n2 24 25 Z Z Z (fun w HS=>X.rem Z Z c3),rds⟩
 refine go ?_
 refine W.r (X.load underlying4 Z Z ((rdC.at 1 row_rd HS Z).cellB c4.1 c4.2)) Z (go ?_)
 refine W.en (Y.storeRowF vb (fun _=>Z) 1 HS Z inf4 Z Z c4.1 c4.2) Z ?_
 rintro _ w HS
 have HS:Sep.St [blk b0 (#[vb a0.known,Value.int .u32 a0.highest,vi a0.at_,vs (some ⟨eb5,eo6,none⟩) (a0.came.set ((w64 ((w64 (a0.at_+(a0.came.length:Int)))-a1)).tmod (a0.came.length:Int)).toNat true).length c3_1]) 200,row 4 1 (.slice (some ⟨eb5,eo6,none⟩) (a0.came.set ((w64 ((w64 (a0.at_+(a0.came.length:Int)))-a1)).tmod (a0.came.length:Int)).toNat true).length c3_1) (a0.came.set ((w64 ((w64 (a0.at_+(a0.came.length:Int)))-a1)).tmod (a0.came.length:Int)).toNat true).length ((a0.came.set ((w64 ((w64 (a0.at_+(a0.came.length:Int)))-a1)).tmod (a0.came.length:Int)).toNat true).map Value.bool),R] w0 w:=by simpa only [List.length_set,List.set_cons_succ,List.set_cons_zero] using HS
 refine go ?_
 have HS:=aK.close tv HS
 exact rt
def cW.f (a0:aK):Option aK:=(if ¬((a0.came.length:Int)=0) then (if 0≤(w64 (a0.at_+1)).tmod (a0.came.length:Int)∧(w64 (a0.at_+1)).tmod (a0.came.length:Int)<(a0.came.length:Int) then some (({a0 with at_:=(w64 (a0.at_+1)).tmod (a0.came.length:Int),came:=a0.came.set ((w64 (a0.at_+1)).tmod (a0.came.length:Int)).toNat false}:aK)) else none) else none)
theorem cW.calls (H:cW.f a0=some r) (HS:St [aK.at b0 a0,R] w0 w):Calls Tryz.prog 278 #[pt b0] w (Ret fun u w=>u=Value.tuple #[]∧St [aK.at b0 r,R] w0 w):=by
 unfold cW.f at H
 refine calls_enter func278 Z Z ?_
 have H:_=some r:=H
 refine go ?_
 obtain ⟨_,c3_1,_,HS⟩:=aK.open HS
 obtain ⟨c3,H⟩:=ite_n H
 apply V.da [14] [] [(2,_),(3,_),(4,_),(5,_),(6,_),(7,_),(8,_),(9,_),(10,_),(11,_),(12,_),(13,_),(14,_),(15,_)] mo HS
 rfl
 refine T.e [13,15] [] [0,1,2,3,4,5,6,7,8,9,10,11,12,13] (fun w HS=>?_) ⟨rd,rd,rd,rd,rd,rd,rd,rd,rd,rd,rd,.n2 7 12 Z Z Z (fun w HS=>X.rem Z Z c3),rds⟩
 refine Y.sr 2 HS Z Z Z fun _ w HS=>?_
 refine T.nn HS ?_
 refine T.ff [0] fun w HS=>?_
 refine go ?_
 obtain ⟨c4,H⟩:=ite_n H
 obtain ⟨eb5,eo6,hh⟩:=(rdC.at 1 row_rd HS rfl).some (by decide) c4.1 c4.2;subst hh
 apply V.da [9] [] [(16,_),(17,_),(18,_),(19,_),(20,_),(21,_),(22,_),(23,_),(24,_)] mo HS
 rfl
 refine T.e [24] [] [0,1,2,3,4,5,6,7,8] fun w HS=>?_
 refine ⟨_,Y.storeRowN vb (fun _=>Z) 1 HS Z inf4 Z Z c4.1 c4.2,?_⟩
 rintro _ w HS
 refine T.nn HS ?_
 refine T.ff [] fun w HS=>?_
 have HS:Sep.St [blk b0 (#[vb a0.known,Value.int .u32 a0.highest,vi ((w64 (a0.at_+1)).tmod (a0.came.length:Int)),vs (some ⟨eb5,eo6,none⟩) (a0.came.set ((w64 (a0.at_+1)).tmod (a0.came.length:Int)).toNat false).length c3_1]) 200,row 4 1 (.slice (some ⟨eb5,eo6,none⟩) (a0.came.set ((w64 (a0.at_+1)).tmod (a0.came.length:Int)).toNat false).length c3_1) (a0.came.set ((w64 (a0.at_+1)).tmod (a0.came.length:Int)).toNat false).length ((a0.came.set ((w64 (a0.at_+1)).tmod (a0.came.length:Int)).toNat false).map Value.bool),R] w0 w:=by simpa only [List.length_set,List.set_cons_succ,List.set_cons_zero] using HS
 have HS:=aK.close tv HS
 exact rt
end Go.Proofs.YtaejcbpijdacmaaGreat

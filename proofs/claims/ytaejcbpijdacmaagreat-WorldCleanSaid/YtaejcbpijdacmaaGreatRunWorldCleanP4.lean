/- WorldClean: the functions that its law reaches, as plain functions, and that the machine's calls come to what these say. Conditions: those that stand at each. -/
import Derived.Test.YtaejcbpijdacmaaGreatRunWorldCleanP3
set_option linter.all false
set_option maxRecDepth 100000
set_option maxHeartbeats 4000000
set_option synthInstance.maxSize 100000
set_option synthInstance.maxHeartbeats 1000000
namespace Go.Proofs.YtaejcbpijdacmaaGreat
open Go.RowKit Go.Proofs.YtaejcbpijdacmaaGreat.Sep Go.Proofs.YtaejcbpijdacmaaGreat.Walk Go.Proofs.Tryz
attribute [local irreducible] V W At T Code.rounds RdO RdOk
set_option autoImplicit true
set_option relaxedAutoImplicit true
mutual
def bb.l0:Nat→aK→Int→Int→aK→Option (Bool × aK)
 |0,_,_,_,_=>none
 |k+1,a0,a1,x8,x9=>(if x8<(imin (IntKind.u32.wrap (a1-a0.highest)) (IntKind.u32.wrap (a0.came.length:Int))) then ((cW.f x9).bind fun t13=>(bb.l0 k a0 a1 (IntKind.u32.wrap (x8+1)) t13)) else ((bV.f ({x9 with highest:=a1}:aK) 0).bind fun t17=>some t17))
end
def bb.f (k:Nat) (a0:aK) (a1:Int):Option (Bool × aK):=(if a0.known=true then (if (IntKind.u32.wrap (a0.highest-a1))=0 then some (false,a0) else (if (IntKind.u32.wrap (a1-a0.highest))<2147483648 then (bb.l0 k a0 a1 0 a0) else (if (IntKind.u32.wrap (a0.highest-a1))<(IntKind.u32.wrap (a0.came.length:Int)) then ((bV.f a0 (w64 (IntKind.u32.wrap (a0.highest-a1)))).bind fun t20=>some t20) else some (false,a0)))) else ((bV.f ({a0 with known:=true,highest:=a1}:aK) 0).bind fun t22=>some t22))
theorem bb.calls (H:bb.f k a0 a1=some r) (HS:St [aK.at b0 a0,R] w0 w):Calls Tryz.prog 245 #[pt b0,Value.int .u32 a1] w (Ret fun u w=>u=vb r.1∧St [aK.at b0 r.2,R] w0 w):=by
 refine calls_enter func245 Z Z (go ?_)
 obtain ⟨_,_,_,HS⟩:=aK.open HS
 refine go ?_
 refine V.cx H Z (fun _ H=>go ?_) (fun _ H=>go ?_)
 ·apply V.da [] [] [(21,_),(22,_),(23,_),(24,_),(25,_),(26,_),(27,_),(28,_),(29,_),(30,_),(31,_),(32,_),(5,_),(6,_)] mo HS
  rfl
  refine T.ff [0,1,5,6] fun w HS=>?_
  refine go ?_
  refine V.cd H Z (fun _ H=>go ?_) (fun _ H=>go ?_)
  ·have HS:=aK.close tv HS
   exact rt
  ·refine V.cd H Z (fun _ H=>go ?_) (fun _ H=>go ?_)
   ·have HS:=aK.close tv HS
    refine V.lj (σ:=Int × aK) [0,1,46] (fun kq (x8,x9) w=>St [aK.at b0 x9,R] w0 w∧bb.l0 kq a0 a1 x8 x9=some r∧kq≤k) (fun (x8,x9)=>[(47,Value.int .u32 x8)]) (_,_) ⟨HS,H,Nat.le_refl _⟩ ?_
    rintro kq10 ⟨x8,x9⟩ w ⟨HS,H,_⟩
    cases kq10 with
    |zero=>exact absurd H (by simp [bb.l0])
    |succ kq10=>
     simp only [bb.l0] at H
     refine go ?_
     refine V.cd H Z (fun _ H=>go ?_) (fun _ H=>go ?_)
     ·refine W.kl H func278 (fun _ h=>cW.calls h HS.j1) ?_
      rintro _ _ w H ⟨rfl,HS⟩
      have HS:=HS.o1
      refine go ?_
      exact At.rn (_,_) ⟨HS,H,by omega⟩
     ·obtain ⟨_,_,_,HS⟩:=aK.open HS
      refine go ?_
      refine W.sr 1 HS Z Z Z fun w HS=>go ?_
      have HS:=aK.close tv HS
      refine W.kl H func277 (fun _ h=>bV.calls h HS.j1) ?_
      rintro _ _ w H ⟨rfl,HS⟩
      have HS:=HS.o1
      refine go ?_
      exact rt
   ·refine W.cd 66 H Z (fun _ H=>go ?_) (fun _ H=>go ?_)
    ·have HS:=aK.close tv HS
     refine W.kl H func277 (fun _ h=>bV.calls h HS.j1) ?_
     rintro _ _ w H ⟨rfl,HS⟩
     have HS:=HS.o1
     refine go ?_
     exact rt
    ·have HS:=aK.close tv HS
     exact rt
 ·refine W.sr 0 HS Z Z Z fun w HS=>go ?_
  refine W.sr 1 HS Z Z Z fun w HS=>go ?_
  have HS:=aK.close tv HS
  refine W.kl H func277 (fun _ h=>bV.calls h HS.j1) ?_
  rintro _ _ w H ⟨rfl,HS⟩
  have HS:=HS.o1
  refine go ?_
  exact rt
mutual
def bG.l0:Nat→(List Int)→Int→Int→Option Int
 |0,_,_,_=>none
 |k+1,a0,a1,x1=>(if x1<(a0.length:Int) then (if 0≤x1∧x1<(a0.length:Int) then (if a1=(a0.getD x1.toNat 0) then some x1 else (bG.l0 k a0 a1 (w64 (x1+1)))) else none) else some (-1))
end
def bG.f (k:Nat) (a0:List Int) (a1:Int):Option Int:=(bG.l0 k a0 a1 0)
theorem bG.calls (H:bG.f k a0 a1=some r) (HS:St [R] w0 w) (hr0:dB R sa0 sc0 a0):Calls Tryz.prog 303 #[vs sa0 a0.length sc0,Value.int .u8 a1] w (Ret fun u w=>u=vi r∧St [R] w0 w):=by
 refine calls_enter func303 Z Z (go ?_)
 refine V.lj (σ:=Int) [0,1,7] (fun kq x1 w=>St [R] w0 w∧bG.l0 kq a0 a1 x1=some r∧kq≤k) (fun x1=>[(8,vi x1)]) _ ⟨HS,H,Nat.le_refl _⟩ ?_
 rintro kq2 x1 w ⟨HS,H,_⟩
 cases kq2 with
 |zero=>exact absurd H (by simp [bG.l0])
 |succ kq2=>
  simp only [bG.l0] at H
  refine go ?_
  refine V.cd H Z (fun _ H=>go ?_) (fun _ H=>go ?_)
  ·obtain ⟨c5,H⟩:=ite_n H
   obtain ⟨_,_,hh⟩:=(rdC.at 0 hr0 HS rfl).some (by decide) c5.1 c5.2;subst hh
   refine go ?_
   refine W.r (X.load underlying5 Z Z ((rdC.at 0 hr0 HS Z).cellI c5.1 c5.2)) Z (go ?_)
   refine V.cd H Z (fun _ H=>go ?_) (fun _ H=>go ?_)
   ·exact rt
   ·exact At.rn _ ⟨HS,H,by omega⟩
  ·exact rt
mutual
def bF.l0:Nat→(List Int)→Int→Int→Option Int
 |0,_,_,_=>none
 |k+1,a0,x1,x2=>(if x2<(a0.length:Int) then (if 0≤x2∧x2<(a0.length:Int) then (if ¬(w64 (8*x2)<0) then (bF.l0 k a0 (ior .i64 x1 (w64 ((w64 (a0.getD x2.toNat 0))*2^(min (w64 (8*x2)).toNat IntKind.i64.bits)))) (w64 (x2+1))) else none) else none) else some x1)
end
def bF.f (k:Nat) (a0:List Int):Option Int:=(bF.l0 k a0 0 0)
theorem bF.calls (H:bF.f k a0=some r) (HS:St [R] w0 w) (hr0:dB R sa0 sc0 a0):Calls Tryz.prog 304 #[vs sa0 a0.length sc0] w (Ret fun u w=>u=vi r∧St [R] w0 w):=by
 refine calls_enter func304 Z Z (go ?_)
 refine V.lj (σ:=Int × Int) [6,7] (fun kq (x1,x2) w=>St [R] w0 w∧bF.l0 kq a0 x1 x2=some r∧kq≤k) (fun (x1,x2)=>[(3,vi x1),(8,vi x2)]) (_,_) ⟨HS,H,Nat.le_refl _⟩ ?_
 rintro kq3 ⟨x1,x2⟩ w ⟨HS,H,_⟩
 cases kq3 with
 |zero=>exact absurd H (by simp [bF.l0])
 |succ kq3=>
  simp only [bF.l0] at H
  refine go ?_
  refine V.cd H Z (fun _ H=>go ?_) (fun _ H=>go ?_)
  ·obtain ⟨c6,H⟩:=ite_n H
   obtain ⟨_,_,hh⟩:=(rdC.at 0 hr0 HS rfl).some (by decide) c6.1 c6.2;subst hh
   refine go ?_
   refine W.r (X.load underlying5 Z Z ((rdC.at 0 hr0 HS Z).cellI c6.1 c6.2)) Z (go ?_)
   obtain ⟨c9,H⟩:=ite_n H
   refine W.r (X.shl Z Z c9) Z ?_
   refine W.r (X.or Z Z) Z (go ?_)
   exact At.rn (_,_) ⟨HS,H,by omega⟩
  ·exact rt
mutual
def ck.j0 (k:Nat) (a0:List Int) (a1:Int) (x20:aF):Option (aF × Int × Int):=((bZ.f ([]:List Int) 0 a1).bind fun t22=>(if (a0.length:Int)<(w64 (2*(t22.length:Int))) then some (({Kind:=0,Ns:=0,Nr:=0,Poll:=false}:aF),0,3) else (if 0≤(0:Int)∧(0:Int)≤(t22.length:Int)∧(t22.length:Int)≤(a0.length:Int) then (if 0≤(t22.length:Int)∧(t22.length:Int)≤w64 (2*(t22.length:Int))∧w64 (2*(t22.length:Int))≤(a0.length:Int) then ((bF.f k (cut a0 (0:Int) (t22.length:Int))).bind fun t31=>((bF.f k (cut a0 (t22.length:Int) (w64 (2*(t22.length:Int))))).bind fun t33=>(if x20.Kind=0 then some (({Kind:=x20.Kind,Ns:=w64 (t31.tdiv (2)),Nr:=w64 (t33.tdiv (2)),Poll:=decide ((iand .i64 t33 (1))=1)}:aF),w64 (2*(t22.length:Int)),0) else (if t31=(w64 (a0.getD (0:Int).toNat 0)) then some (({x20 with Nr:=w64 (t33.tdiv (2)),Poll:=decide ((iand .i64 t33 (1))=1)}:aF),w64 (2*(t22.length:Int)),0) else some (({Kind:=0,Ns:=0,Nr:=0,Poll:=false}:aF),0,2))))) else none) else none)))
end
def ck.f (k:Nat) (a0:List Int) (a1:Int):Option (aF × Int × Int):=((dh.f a1).bind fun t3=>(if t3=true then (if (a0.length:Int)=0 then some (({Kind:=0,Ns:=0,Nr:=0,Poll:=false}:aF),0,3) else (if 0≤(0:Int)∧(0:Int)<(a0.length:Int) then ((dR.f).bind fun t11=>((bG.f k t11 (iandn .u8 (a0.getD (0:Int).toNat 0) (16))).bind fun t13=>(if t13≥0 then some (({Kind:=w64 (3+t13),Ns:=0,Nr:=0,Poll:=!(decide ((iand .u8 (a0.getD (0:Int).toNat 0) (16))=0))}:aF),1,0) else (if (a0.getD (0:Int).toNat 0)=1 then (ck.j0 k a0 a1 ({Kind:=1,Ns:=0,Nr:=0,Poll:=false}:aF)) else (if (a0.getD (0:Int).toNat 0)=9 then (ck.j0 k a0 a1 ({Kind:=2,Ns:=0,Nr:=0,Poll:=false}:aF)) else (if (iand .u8 (a0.getD (0:Int).toNat 0) (1))=1 then some (({Kind:=0,Ns:=0,Nr:=0,Poll:=false}:aF),0,2) else (ck.j0 k a0 a1 ({Kind:=0,Ns:=0,Nr:=0,Poll:=false}:aF)))))))) else none)) else some (({Kind:=0,Ns:=0,Nr:=0,Poll:=false}:aF),0,1)))
theorem ck.calls (H:ck.f k a0 a1=some r) (HS:St [R] w0 w) (hr0:dB R sa0 sc0 a0):Calls Tryz.prog 279 #[vs sa0 a0.length sc0,vi a1] w (Ret fun u w=>u=Value.tuple #[Value.agg #[vi r.1.Kind,vi r.1.Ns,vi r.1.Nr,vb r.1.Poll],vi r.2.1,vi r.2.2]∧St [R] w0 w):=by
 refine calls_enter func279 Z Z (go ?_)
 refine W.e (Y.alloc (z:=Value.agg (#[vi (0),vi (0),vi (0),vb false])) HS ze161) Z ?_
 rintro _ w ⟨nb1,rfl,HS⟩
 refine go ?_
 refine W.kl H func299 (fun _ h=>dh.calls h HS.j0) ?_
 rintro _ _ w H ⟨rfl,HS⟩
 have HS:=HS.o0
 refine go ?_
 refine V.cx H Z (fun _ H=>go ?_) (fun _ H=>go ?_)
 ·refine V.cd H Z (fun _ H=>go ?_) (fun _ H=>go ?_)
  ·refine W.r (X.bd (Value.agg #[vi (0),vi (0),vi (0),vb false]) Z (fun _=>by kernel_rfl)) Z ?_
   refine W.ss HS Z Z Z Z fun w HS=>go ?_
   have hv7:=run_loadSt (P:=Tryz.prog) (p:=0) 0 [vi (0),vi (0),vi (0),vb false] HS rfl underlying161 rfl inf161 rfl
   have HS:=HS.ke [1]
   cases H
   exact At.retv3 Z ⟨_,Z,hv7⟩ Z Z ⟨_,Z,Z,HS⟩
  ·obtain ⟨c8,H⟩:=ite_n H
   obtain ⟨_,_,hh⟩:=(rdC.at 1 hr0 HS rfl).some (by decide) c8.1 c8.2;subst hh
   apply V.da [0,5] [6] [(21,_),(22,_),(23,_),(24,_)] mo HS
   rfl
   refine T.e [] [6] [] (fun w HS=>?_) ⟨rd,rd,.n1 22 Z Z (fun w HS=>X.load underlying5 Z Z ((rdC.at 1 hr0 HS Z).cellI c8.1 c8.2)),.n1 23 Z Z (fun w HS=>X.andNot Z Z),rds⟩
   refine Y.kl H func272 (fun _ h=>dR.calls h HS.j0) ?_
   rintro t11 _ w H ⟨at11_0,ct11_0,rfl,HS⟩
   have HS:=HS.o1
   refine T.nw HS ?_
   refine T.e [20,24] [] [1,2,3,4] (fun w HS=>?_) ⟨rd,rd,.n1 22 Z Z (fun w HS=>X.load underlying5 Z Z ((rdC.at 2 hr0 HS Z).cellI c8.1 c8.2)),.n1 23 Z Z (fun w HS=>X.andNot Z Z),rds⟩
   refine Y.kl H func303 (fun _ h=>bG.calls h HS.j0 (rdC.part 0 row_rd Z)) ?_
   rintro t13 _ w H ⟨rfl,HS⟩
   have HS:=HS.o0
   apply T.na [(25,_),(7,_)] HS
   exact nmk
   refine T.ff [0,1,4,7] fun w HS=>?_
   refine go ?_
   refine V.cd H Z (fun _ H=>go ?_) (fun _ H=>go ?_)
   ·refine W.r (X.load underlying5 Z Z ((rdC.at 2 hr0 HS Z).cellI c8.1 c8.2)) Z ?_
    refine W.r (X.and Z Z) Z (go ?_)
    refine W.r (X.bd (Value.agg #[vi (w64 (3+t13)),vi (0),vi (0),vb (!(decide ((iand .u8 (a0.getD (0:Int).toNat 0) (16))=0)))]) Z (fun _=>by kernel_rfl)) Z ?_
    refine W.ss HS Z Z Z Z fun w HS=>go ?_
    have hv16:=run_loadSt (P:=Tryz.prog) (p:=0) 1 [vi (w64 (3+t13)),vi (0),vi (0),vb (!(decide ((iand .u8 (a0.getD (0:Int).toNat 0) (16))=0)))] HS rfl underlying161 rfl inf161 rfl
    have HS:=HS.ke [2]
    cases H
    exact At.retv3 Z ⟨_,Z,hv16⟩ Z Z ⟨_,Z,Z,HS⟩
   ·refine W.r (X.bd (Value.agg #[vi (0),vi (0),vi (0),vb false]) Z (fun _=>by kernel_rfl)) Z ?_
    refine W.e (Y.alloc (z:=Value.agg (#[vi (0),vi (0),vi (0),vb false])) HS ze161) Z ?_
    rintro _ w ⟨nb17,rfl,HS⟩
    refine W.ss HS Z Z Z Z fun w HS=>?_
    refine gs ?_
    refine V.mj (σ:=aF) [0,1,4,8] (fun x20 w=>St [aF.at nb1 ({Kind:=0,Ns:=0,Nr:=0,Poll:=false}:aF),aF.at nb17 x20,rB at11_0 ct11_0 t11,R] w0 w∧∃kf21,kf21≤k∧ck.j0 kf21 a0 a1 x20=some r) (fun _=>[]) ?_ ?_
    ·refine go ?_
     refine W.r (X.load underlying5 Z Z ((rdC.at 3 hr0 HS Z).cellI c8.1 c8.2)) Z (go ?_)
     refine V.cd H Z (fun _ H=>go ?_) (fun _ H=>go ?_)
     ·refine W.sr 0 HS Z Z Z fun w HS=>go ?_
      have HS:=(aF.close tv ((aF.close tv (HS.b [2])).b [1])).b [1]
      exact At.mt _ ⟨HS,k,by omega,H⟩
     ·refine W.r (X.load underlying5 Z Z ((rdC.at 3 hr0 HS Z).cellI c8.1 c8.2)) Z (go ?_)
      refine V.cd H Z (fun _ H=>go ?_) (fun _ H=>go ?_)
      ·refine W.sr 0 HS Z Z Z fun w HS=>go ?_
       have HS:=(aF.close tv ((aF.close tv (HS.b [2])).b [1])).b [1]
       exact At.mt _ ⟨HS,k,by omega,H⟩
      ·refine W.r (X.load underlying5 Z Z ((rdC.at 3 hr0 HS Z).cellI c8.1 c8.2)) Z ?_
       refine W.r (X.and Z Z) Z (go ?_)
       refine V.cd H Z (fun _ H=>go ?_) (fun _ H=>go ?_)
       ·refine W.r (X.bd (Value.agg #[vi (0),vi (0),vi (0),vb false]) Z (fun _=>by kernel_rfl)) Z ?_
        refine W.ss HS Z Z Z Z fun w HS=>go ?_
        have hv51:=run_loadSt (P:=Tryz.prog) (p:=0) 2 [vi (0),vi (0),vi (0),vb false] HS rfl underlying161 rfl inf161 rfl
        have HS:=HS.ke [3]
        cases H
        exact At.retv3 Z ⟨_,Z,hv51⟩ Z Z ⟨_,Z,Z,HS⟩
       ·have HS:=(aF.close tv ((aF.close tv (HS.b [2])).b [1])).b [1]
        exact At.mt _ ⟨HS,k,by omega,H⟩
    ·rintro x20 w ⟨HS,kf21,_,H⟩
     refine go ?_
     have HS:=row_nilF (Value.int .u8) 5 1 HS
     refine W.kl H func271 (fun _ h=>bZ.calls h HS.j1) ?_
     rintro _ _ w H ⟨_,_,rfl,HS⟩
     have HS:=HS.o1
     refine go ?_
     refine V.cd H Z (fun _ H=>go ?_) (fun _ H=>go ?_)
     ·refine W.r (X.bd (Value.agg #[vi (0),vi (0),vi (0),vb false]) Z (fun _=>by kernel_rfl)) Z ?_
      have HS:=HS.fr 1
      obtain ⟨_,HS⟩:=aF.open HS
      refine W.ss HS Z Z Z Z fun w HS=>go ?_
      have hv28:=run_loadSt (P:=Tryz.prog) (p:=0) 0 [vi (0),vi (0),vi (0),vb false] HS rfl underlying161 rfl inf161 rfl
      have HS:=HS.ke [4]
      cases H
      exact At.retv3 Z ⟨_,Z,hv28⟩ Z Z ⟨_,Z,Z,HS⟩
     ·obtain ⟨c29,H⟩:=ite_n H
      obtain ⟨c30,H⟩:=ite_n H
      apply V.da [3,9] [10,11] [(65,_),(66,_),(67,_),(69,_),(70,_),(71,_),(72,_),(73,_)] mo HS
      rfl
      refine T.e [67] [10,11] [0,1,2] (fun w HS=>?_) ⟨rd,rd,.n2 65 66 Z Z Z (fun w HS=>X.slH underlying48 inf5 Z Z c29 (rdC.at 4 hr0 HS Z).cap),rd,rd,rd,rd,.ns [(69,_),(70,_),(72,_)] ⟨Z,Z,Z,tv⟩ Z (fun w HS=>X.slLH underlying48 inf5 Z Z Z c30 (rdC.at 4 hr0 HS Z).cap),rds⟩
      refine Y.kl H func304 (fun _ h=>bF.calls h HS.j0 (rdC.part 4 (rdC.subM hr0 c29) Z)) ?_
      rintro t31 _ w H ⟨rfl,HS⟩
      have HS:=HS.o0
      refine T.nw HS ?_
      refine T.e [73] [] [4,5,6,7,8] (fun w HS=>?_) ⟨rd,rd,rd,rd,.ns [(69,_),(70,_),(72,_)] ⟨Z,Z,Z,tv⟩ Z (fun w HS=>X.slLH underlying48 inf5 Z Z Z c30 (rdC.at 4 hr0 HS Z).cap),rds⟩
      refine Y.kl H func304 (fun _ h=>bF.calls h HS.j0 (rdC.part 4 (rdC.subM hr0 c30) Z)) ?_
      rintro t33 _ w H ⟨rfl,HS⟩
      have HS:=HS.o0
      apply T.na [(74,_),(10,_),(11,_)] HS
      exact nmk
      refine T.ff [0,4,8,9,10,11] fun w HS=>?_
      refine go ?_
      have HS:=HS.fr 2
      obtain ⟨_,HS⟩:=aF.open HS
      refine go ?_
      refine V.cd H Z (fun _ H=>go ?_) (fun _ H=>go ?_)
      ·refine W.r (X.quo Z Z (by decide)) Z (go ?_)
       refine W.sr 1 HS Z Z Z fun w HS=>go ?_
       refine W.r (X.quo Z Z (by decide)) Z (go ?_)
       refine W.r (X.and Z Z) Z (go ?_)
       refine W.sr 2 HS Z Z Z fun w HS=>go ?_
       refine W.sr 3 HS Z Z Z fun w HS=>go ?_
       have HS:=HS.fr 2
       obtain ⟨_,HS⟩:=aF.open HS
       refine W.ss HS Z Z Z Z fun w HS=>go ?_
       have hv40:=run_loadSt (P:=Tryz.prog) (p:=0) 0 [vi x20.Kind,vi (w64 (t31.tdiv (2))),vi (w64 (t33.tdiv (2))),vb (decide ((iand .i64 t33 (1))=1))] HS rfl underlying161 rfl inf161 rfl
       have HS:=HS.ke [4]
       cases H
       exact At.retv3 Z ⟨_,Z,hv40⟩ Z Z ⟨_,Z,Z,HS⟩
      ·refine W.r (X.load underlying5 Z Z ((rdC.at 4 hr0 HS Z).cellI c8.1 c8.2)) Z (go ?_)
       refine V.cm H Z (fun _ H=>go ?_) (fun _ H=>go ?_)
       ·refine W.r (X.quo Z Z (by decide)) Z (go ?_)
        refine W.r (X.and Z Z) Z (go ?_)
        refine W.sr 2 HS Z Z Z fun w HS=>go ?_
        refine W.sr 3 HS Z Z Z fun w HS=>go ?_
        have HS:=HS.fr 2
        obtain ⟨_,HS⟩:=aF.open HS
        refine W.ss HS Z Z Z Z fun w HS=>go ?_
        have hv44:=run_loadSt (P:=Tryz.prog) (p:=0) 0 [vi x20.Kind,vi x20.Ns,vi (w64 (t33.tdiv (2))),vb (decide ((iand .i64 t33 (1))=1))] HS rfl underlying161 rfl inf161 rfl
        have HS:=HS.ke [4]
        cases H
        exact At.retv3 Z ⟨_,Z,hv44⟩ Z Z ⟨_,Z,Z,HS⟩
       ·refine W.r (X.bd (Value.agg #[vi (0),vi (0),vi (0),vb false]) Z (fun _=>by kernel_rfl)) Z ?_
        have HS:=HS.fr 2
        obtain ⟨_,HS⟩:=aF.open HS
        refine W.ss HS Z Z Z Z fun w HS=>go ?_
        have hv47:=run_loadSt (P:=Tryz.prog) (p:=0) 0 [vi (0),vi (0),vi (0),vb false] HS rfl underlying161 rfl inf161 rfl
        have HS:=HS.ke [4]
        cases H
        exact At.retv3 Z ⟨_,Z,hv47⟩ Z Z ⟨_,Z,Z,HS⟩
 ·refine W.r (X.bd (Value.agg #[vi (0),vi (0),vi (0),vb false]) Z (fun _=>by kernel_rfl)) Z ?_
  refine W.ss HS Z Z Z Z fun w HS=>go ?_
  have hv52:=run_loadSt (P:=Tryz.prog) (p:=0) 0 [vi (0),vi (0),vi (0),vb false] HS rfl underlying161 rfl inf161 rfl
  have HS:=HS.ke [1]
  cases H
  exact At.retv3 Z ⟨_,Z,hv52⟩ Z Z ⟨_,Z,Z,HS⟩
def dQ.f (a0:ae) (a1:Int):Option Bool:=((dt.f a0.tag a1 65536).bind fun t1=>(if t1≥1 then some (decide (t1<32768)) else some false))
theorem dQ.calls (H:dQ.f a0 a1=some r) (HS:St [blk b0 (#[vi a0.m,vi a0.t1,vi a0.n2,vi a0.size,vi a0.state,vi a0.tag,vi a0.tries,vb a0.rejected,pt b8_p0,pt b9_p0,pt b10_p0,vs a11_p0 a0.out.length c11_p0,vs a12_p0 a0.inds.length c12_p0,vi a0.sent,vi a0.acked,vi a0.lost]) 158,aC.at b8_p0 a0.log,aD.at b9_p0 a0.order,aI.at b10_p0 a0.timers,row 48 1 (.slice a11_p0 a0.out.length c11_p0) a0.out.length d11_p0,tie (El.sl (El.int .u8)) d11_p0 a0.out,row 3 1 (.slice a12_p0 a0.inds.length c12_p0) a0.inds.length (a0.inds.map (Value.int .i64)),R] w0 w):Calls Tryz.prog 305 #[pt b0,vi a1] w (Ret fun u w=>u=vb r∧St [blk b0 (#[vi a0.m,vi a0.t1,vi a0.n2,vi a0.size,vi a0.state,vi a0.tag,vi a0.tries,vb a0.rejected,pt b8_p0,pt b9_p0,pt b10_p0,vs a11_p0 a0.out.length c11_p0,vs a12_p0 a0.inds.length c12_p0,vi a0.sent,vi a0.acked,vi a0.lost]) 158,aC.at b8_p0 a0.log,aD.at b9_p0 a0.order,aI.at b10_p0 a0.timers,row 48 1 (.slice a11_p0 a0.out.length c11_p0) a0.out.length d11_p0,tie (El.sl (El.int .u8)) d11_p0 a0.out,row 3 1 (.slice a12_p0 a0.inds.length c12_p0) a0.inds.length (a0.inds.map (Value.int .i64)),R] w0 w):=by
 refine calls_enter func305 Z Z (go ?_)
 refine W.kl H func301 (fun _ h=>dt.calls h HS.j0) ?_
 rintro t1 _ w H ⟨rfl,HS⟩
 have HS:=HS.o0
 refine go ?_
 refine W.cd 14 H Z (fun _ H=>go ?_) (fun _ H=>go ?_)
 ·exact rt
 ·exact rt
mutual
def bm.j0 (x10:ae):Option ae:=some x10
def bm.j2 (k:Nat) (a0:ae) (a1:Int) (a2:Bool) (x18:Bool):Option ae:=(if x18=true then ((dw.f a0 2).bind fun t21=>((bJ.f k ({t21 with tag:=a1}:ae) ({Kind:=4,Ns:=0,Nr:=0,Poll:=a2}:aF)).bind fun t25=>(if a0.state=2 then (if (t25.inds.length:Int)+([3]:List Int).length≤1099511627776 then some (({t25 with inds:=t25.inds++([3]:List Int)}:ae)) else none) else (if (t25.inds.length:Int)+([1]:List Int).length≤1099511627776 then some (({t25 with inds:=t25.inds++([1]:List Int)}:ae)) else none)))) else (if a0.state=0 then ((bJ.f k a0 ({Kind:=6,Ns:=0,Nr:=0,Poll:=false}:aF)).bind fun t47=>(bm.j0 t47)) else (bm.j0 a0)))
def bm.j1 (k:Nat) (a0:ae) (a1:Int) (a2:Bool) (x13:Bool):Option ae:=(if x13=true then ((bJ.f k a0 ({Kind:=4,Ns:=0,Nr:=0,Poll:=a2}:aF)).bind fun t16=>some t16) else ((dQ.f a0 a1).bind fun t51=>(if t51=true then (bm.j2 k a0 a1 a2 true) else (if a0.state=1 then (bm.j2 k a0 a1 a2 (decide (a1=a0.tag))) else (bm.j2 k a0 a1 a2 false)))))
end
def bm.f (k:Nat) (a0:ae) (a1:Int) (a2:Bool):Option ae:=(if a0.state=3 then some a0 else (if a0.state=2 then (bm.j1 k a0 a1 a2 (decide (a1=a0.tag))) else (bm.j1 k a0 a1 a2 false)))
theorem bm.calls (H:bm.f k a0 a1 a2=some r) (HS:St [ae.at b0 a0,R] w0 w):Calls Tryz.prog 280 #[pt b0,vi a1,vb a2] w (Ret fun u w=>u=Value.tuple #[]∧St [ae.at b0 r,R] w0 w):=by
 refine calls_enter func280 Z Z ?_
 refine V.scope 1 (go ?_)
 obtain ⟨_,_,_,_,_,_,_,_,_,HS⟩:=ae.open HS
 refine gs ?_
 refine V.mj (σ:=ae) [] (fun x10 w=>St [ae.at b0 x10,R] w0 w∧bm.j0 x10=some r) (fun _=>[]) ?_ ?_
 ·refine go ?_
  refine V.cd H Z (fun _ H=>go ?_) (fun _ H=>?_)
  ·have HS:=ae.close tv HS
   exact rt
  ·refine V.mj (σ:=Bool) [0,1,2,6] (fun x13 w=>St [ae.at b0 a0,R] w0 w∧∃kf14,kf14≤k∧bm.j1 kf14 a0 a1 a2 x13=some r) (fun x13=>[(18,vb x13)]) ?_ ?_
   ·refine go ?_
    refine W.cd 20 H Z (fun _ H=>go ?_) (fun _ H=>go ?_)
    ·have HS:=ae.close tv HS
     exact At.mt _ ⟨HS,k,by omega,H⟩
    ·have HS:=ae.close tv HS
     exact At.mt _ ⟨HS,k,by omega,H⟩
   ·rintro x13 w ⟨HS,kf14,_,H⟩
    refine V.cv H Z (fun _ H=>go ?_) (fun _ H=>?_)
    ·refine W.r (X.bd (Value.agg #[vi (4),vi (0),vi (0),vb a2]) Z (fun _=>by kernel_rfl)) Z ?_
     refine W.kl H func113 (fun _ h=>bJ.calls h HS.j1) ?_
     rintro _ _ w H ⟨rfl,HS⟩
     have HS:=HS.o1
     refine go ?_
     exact rt
    ·refine V.mj (σ:=Bool) [0,1,2,6] (fun x18 w=>St [ae.at b0 a0,R] w0 w∧∃kf19,kf19≤kf14∧bm.j2 kf19 a0 a1 a2 x18=some r) (fun x18=>[(32,vb x18)]) ?_ ?_
     ·refine go ?_
      obtain ⟨_,_,_,_,_,_,_,_,_,HS⟩:=ae.open HS
      refine W.kl H func305 (fun _ h=>dQ.calls h HS.j7) ?_
      rintro _ _ w H ⟨rfl,HS⟩
      have HS:=HS.o7
      refine go ?_
      refine W.cv 36 H Z (fun _ H=>go ?_) (fun _ H=>go ?_)
      ·have HS:=ae.close tv HS
       exact At.mt _ ⟨HS,kf14,by omega,H⟩
      ·refine W.cd 42 H Z (fun _ H=>go ?_) (fun _ H=>go ?_)
       ·have HS:=ae.close tv HS
        exact At.mt _ ⟨HS,kf14,by omega,H⟩
       ·have HS:=ae.close tv HS
        exact At.mt _ ⟨HS,kf14,by omega,H⟩
     ·rintro x18 w ⟨HS,kf19,_,H⟩
      refine V.cv H Z (fun _ H=>go ?_) (fun _ H=>go ?_)
      ·refine At.jump Z (go ?_)
       refine W.kl H func149 (fun _ h=>dw.calls h HS.j1) ?_
       rintro _ _ w H ⟨rfl,HS⟩
       have HS:=HS.o1
       refine go ?_
       obtain ⟨_,_,_,_,_,_,_,_,_,HS⟩:=ae.open HS
       refine go ?_
       refine W.sr 5 HS Z Z Z fun w HS=>go ?_
       refine W.r (X.bd (Value.agg #[vi (4),vi (0),vi (0),vb a2]) Z (fun _=>by kernel_rfl)) Z ?_
       have HS:=ae.close tv HS
       refine W.kl H func113 (fun _ h=>bJ.calls h HS.j1) ?_
       rintro _ _ w H ⟨rfl,HS⟩
       have HS:=HS.o1
       refine go ?_
       refine V.cd H Z (fun _ H=>go ?_) (fun _ H=>go ?_)
       ·obtain ⟨_,_,_,_,_,_,_,_,_,HS⟩:=ae.open HS
        refine go ?_
        refine W.e (Y.ls (e:=3) (Value.int .i64) ([3]:List Int) HS Z Z (fun _=>by kernel_rfl)) Z ?_
        rintro _ w ⟨_,rfl,HS⟩
        obtain ⟨_,H⟩:=ite_n H
        refine W.e (Y.appF (Value.int .i64) (fun _=>Z) 7 underlying141 ap3 Z HS Z Z Z (rdC.at 0 row_rd HS Z) (by omega) (by omega)) Z ?_
        rintro _ w ⟨_,_,rfl,HS⟩
        refine go ?_
        refine W.sr 12 HS Z Z Z fun w HS=>go ?_
        have HS:=(ae.close tv (HS.b [1,1,1,1,1,1,1])).ke [0,1]
        exact rt
       ·obtain ⟨_,_,_,_,_,_,_,_,_,HS⟩:=ae.open HS
        refine go ?_
        refine W.e (Y.ls (e:=3) (Value.int .i64) ([1]:List Int) HS Z Z (fun _=>by kernel_rfl)) Z ?_
        rintro _ w ⟨_,rfl,HS⟩
        obtain ⟨_,H⟩:=ite_n H
        refine W.e (Y.appF (Value.int .i64) (fun _=>Z) 7 underlying141 ap3 Z HS Z Z Z (rdC.at 0 row_rd HS Z) (by omega) (by omega)) Z ?_
        rintro _ w ⟨_,_,rfl,HS⟩
        refine go ?_
        refine W.sr 12 HS Z Z Z fun w HS=>go ?_
        have HS:=(ae.close tv (HS.b [1,1,1,1,1,1,1])).ke [0,1]
        exact rt
      ·obtain ⟨_,_,_,_,_,_,_,_,_,HS⟩:=ae.open HS
       refine go ?_
       refine V.cd H Z (fun _ H=>go ?_) (fun _ H=>go ?_)
       ·refine W.r (X.bd (Value.agg #[vi (6),vi (0),vi (0),vb false]) Z (fun _=>by kernel_rfl)) Z ?_
        have HS:=ae.close tv HS
        refine W.kl H func113 (fun _ h=>bJ.calls h HS.j1) ?_
        rintro t47 _ w H ⟨rfl,HS⟩
        have HS:=HS.o1
        refine go ?_
        exact At.meet t47 tv ⟨HS,H⟩
       ·have HS:=ae.close tv HS
        exact At.meet a0 tv ⟨HS,H⟩
 ·rintro x10 w ⟨HS,H⟩
  refine go ?_
  exact rt
mutual
def bN.j0 (a0:aC) (x2:Bool):Option (Int × List Int × Bool × aC):=(if x2=true then some (0,([]:List Int),false,a0) else (if 0≤a0.out∧a0.out<(a0.l.length:Int) then ((cD.f ({a0 with out:=w64 (a0.out+1)}:aC) a0.out).bind fun t16=>((aT.f (a0.l.getD a0.out.toNat [])).bind fun t18=>some (t16,t18,true,({a0 with out:=w64 (a0.out+1)}:aC)))) else none))
end
def bN.f (a0:aC):Option (Int × List Int × Bool × aC):=(if a0.out=(a0.l.length:Int) then (bN.j0 a0 true) else (bN.j0 a0 (decide (a0.out=a0.window))))
theorem bN.calls (H:bN.f a0=some r) (HS:St [aC.at b0 a0,R] w0 w):Calls Tryz.prog 222 #[pt b0] w (Ret fun u w=>∃aq1 cq1,u=Value.tuple #[vi r.1,vs aq1 r.2.1.length cq1,vb r.2.2.1]∧St [rB aq1 cq1 r.2.1,aC.at b0 r.2.2.2,R] w0 w):=by
 refine calls_enter func222 Z Z ?_
 refine V.seq ?_
 refine gs ?_
 refine V.seq ?_
 refine V.mj (σ:=Bool) [0] (fun x2 w=>St [aC.at b0 a0,R] w0 w∧bN.j0 a0 x2=some r) (fun x2=>[(26,vb x2)]) ?_ ?_
 ·obtain ⟨_,_,_,_,HS⟩:=aC.open HS
  refine ite_c H (fun c22 H=>?_) (fun c22 H=>?_)
  ·apply V.da [] [] [(6,_),(7,_),(8,_),(9,_),(10,_),(11,_),(12,_),(13,_),(14,_),(15,_),(16,_),(17,_),(18,_),(19,_),(20,_),(21,_),(22,_),(23,_),(24,_),(25,_),(26,_)] mo HS
   rfl
   refine T.ff [0,26] fun w HS=>?_
   have HS:=aC.close tv HS
   exact At.mt _ ⟨HS,H⟩
  ·apply V.da [] [] [(6,_),(7,_),(8,_),(9,_),(10,_),(11,_),(12,_),(13,_),(14,_),(15,_),(16,_),(17,_),(18,_),(19,_),(20,_),(21,_),(22,_),(23,_),(24,_),(25,_),(26,_)] mo HS
   rfl
   refine T.ff [0,26] fun w HS=>?_
   have HS:=aC.close tv HS
   exact At.mt _ ⟨HS,H⟩
 ·rintro x2 w ⟨HS,H⟩
  refine V.cv H Z (fun _ H=>go ?_) (fun _ H=>go ?_)
  ·have HS:=row_nilF (Value.int .u8) 5 1 HS
   exact rt
  ·obtain ⟨_,_,_,_,HS⟩:=aC.open HS
   refine go ?_
   refine W.sr 4 HS Z Z Z fun w HS=>go ?_
   obtain ⟨c7,H⟩:=ite_n H
   obtain ⟨_,_,hh⟩:=(rdC.at 1 row_rd HS rfl).some (by decide) c7.1 c7.2;subst hh
   obtain ⟨_,hc11,HS⟩:=St.tie_at 2 HS rfl ([]) c7.1 c7.2
   obtain ⟨_,_,he15,HN⟩:=St.sl_openF (Value.int .u8) (fun t=>tie_int t) HS;clear HS;subst he15;have HS:=HN
   apply V.da [2,10] [11,12,13] [(38,_),(39,_),(41,_),(42,_),(43,_),(44,_),(45,_),(46,_),(47,_)] mo HS
   rfl
   refine T.e [38,39] [11,12,13] [0,1] (fun w HS=>?_) ⟨rd,rd,rd,rd,rd,rd,rd,rd,.n1 46 Z Z (fun w HS=>X.load underlying48 Z Z ((rdC.at 2 row_rd HS Z).cellEl0 (hc11 0 _ Z))),rds⟩
   have HS:=HS.b [1,1,1]
   refine Y.kl H func262 (fun _ h=>cD.calls h HS.j3) ?_
   rintro _ _ w H ⟨rfl,HS⟩
   have HS:=HS.o3
   refine T.nw HS ?_
   refine T.e [47] [] [3,4,5,6,7,8,9] (fun w HS=>?_) ⟨rd,rd,rd,rd,rd,rd,.n1 46 Z Z (fun w HS=>X.load underlying48 Z Z ((rdC.at 1 row_rd HS Z).cellEl0 (hc11 0 _ Z))),rds⟩
   refine Y.kl H func127 (fun _ h=>aT.calls h HS.j0 (rdC.part 3 fsl.rd Z)) ?_
   rintro _ _ w H ⟨_,_,rfl,HS⟩
   have HS:=HS.o1
   apply T.na [(48,_),(2,_),(3,_),(4,_)] HS
   exact nmk
   refine T.ff [2,3,4] fun w HS=>?_
   refine go ?_
   have HS:=(aC.close tv (HS.b [1,1,1])).ke [1,0,1]
   exact rt
mutual
def bD.l0:Nat→Int→Bool→ae→(List Int)→Option ae
 |0,_,_,_,_=>none
 |k+1,x14,x15,x16,x19=>(if x15=true then ((dz.f k x16 x14 x19 false).bind fun t31=>((cp.f t31.timers 0).bind fun t37=>(if t37.2=true then (bD.j1 (bD.l0 k) t31) else ((cu.f t31).bind fun t40=>(bD.j1 (bD.l0 k) t40))))) else some x16)
def bD.j1 (Lq25:Int→Bool→ae→(List Int)→Option ae) (x23:ae):Option ae:=((bN.f x23.log).bind fun t29=>(Lq25 t29.1 t29.2.2.1 ({x23 with log:=t29.2.2.2}:ae) t29.2.1))
end
def bD.f (k:Nat) (a0:ae):Option ae:=(if a0.state=2 then ((bN.f a0.log).bind fun t5=>(bD.l0 k t5.1 t5.2.2.1 ({a0 with log:=t5.2.2.2}:ae) t5.2.1)) else some a0)
theorem bD.calls (H:bD.f k a0=some r) (HS:St [ae.at b0 a0,R] w0 w):Calls Tryz.prog 152 #[pt b0] w (Ret fun u w=>u=Value.tuple #[]∧St [ae.at b0 r,R] w0 w):=by
 refine calls_enter func152 Z Z (go ?_)
 obtain ⟨_,_,_,_,_,_,_,_,_,HS⟩:=ae.open HS
 refine go ?_
 refine V.cm H Z (fun _ H=>go ?_) (fun _ H=>go ?_)
 ·have HS:=HS.b [1]
  refine W.kl H func222 (fun _ h=>bN.calls h HS.j1) ?_
  rintro _ _ w H ⟨_,_,rfl,HS⟩
  have HS:=HS.o2
  refine go ?_
  have HS:=ae.close tv (HS.b [2,1,1,1,1,1,1])
  refine V.lj (σ:=Int × Bool × ae × Option Addr × Nat × List Int) [0] (fun kq (x14,x15,x16,ra17,rc18,x19) w=>St [ae.at b0 x16,rB ra17 rc18 x19,R] w0 w∧bD.l0 kq x14 x15 x16 x19=some r∧kq≤k) (fun (x14,x15,x16,ra17,rc18,x19)=>[(2,vi x14),(3,vs ra17 x19.length rc18),(4,vb x15)]) (_,_,_,_,_,_) ⟨HS,H,Nat.le_refl _⟩ ?_
  rintro kq20 ⟨x14,x15,x16,ra17,rc18,x19⟩ w ⟨HS,H,_⟩
  cases kq20 with
  |zero=>exact absurd H (by simp [bD.l0])
  |succ kq20=>
   simp only [bD.l0] at H
   refine go ?_
   refine V.cv H Z (fun _ H=>?_) (fun _ H=>go ?_)
   ·refine gs ?_
    refine V.mj (σ:=ae) [0] (fun x23 w=>St [ae.at b0 x23,R] w0 w∧∃kl26,kl26≤kq20∧bD.j1 (bD.l0 kl26) x23=some r) (fun _=>[]) ?_ ?_
    ·refine go ?_
     have HS:=((St.row_freeze (HS.fr 1)).more 0 rfl (fun _ t=>t) fsl.pers).b [2]
     refine W.kl H func223 (fun _ h=>dz.calls h HS.j2) ?_
     rintro _ _ w H ⟨rfl,HS⟩
     have HS:=HS.o1
     refine go ?_
     obtain ⟨_,_,_,_,_,_,_,_,_,HS⟩:=ae.open HS
     refine go ?_
     have HS:=HS.fr 3
     obtain ⟨hi36,HS⟩:=aI.open HS
     refine W.kl H func184 (fun _ h=>cp.calls h HS.j1 (by first|exact hi36|(simp only [List.length_set];exact hi36))) ?_
     rintro _ _ w H ⟨rfl,HS⟩
     have HS:=HS.o1
     refine go ?_
     refine V.cx H Z (fun _ H=>go ?_) (fun _ H=>go ?_)
     ·have HS:=(ae.close tv ((aI.close (by first|exact hi36|(simp only [List.length_set];exact hi36)) HS).b [1,1,1])).ke [0,1]
      exact At.mt _ ⟨HS,kq20,by omega,H⟩
     ·have HS:=ae.close tv ((aI.close (by first|exact hi36|(simp only [List.length_set];exact hi36)) HS).b [1,1,1])
      refine W.kl H func114 (fun _ h=>cu.calls h HS.j1) ?_
      rintro _ _ w H ⟨rfl,HS⟩
      have HS:=HS.o1
      refine go ?_
      have HS:=HS.ke [0,1]
      exact At.mt _ ⟨HS,kq20,by omega,H⟩
    ·rintro x23 w ⟨HS,kl26,_,H⟩
     refine go ?_
     obtain ⟨_,_,_,_,_,_,_,_,_,HS⟩:=ae.open HS
     refine go ?_
     have HS:=HS.b [1]
     refine W.kl H func222 (fun _ h=>bN.calls h HS.j1) ?_
     rintro _ _ w H ⟨_,_,rfl,HS⟩
     have HS:=HS.o2
     refine go ?_
     have HS:=ae.close tv (HS.b [2,1,1,1,1,1,1])
     exact At.rn (_,_,_,_,_,_) ⟨HS,H,by omega⟩
   ·have HS:=HS.ke [0,1]
    exact rt
 ·have HS:=ae.close tv HS
  exact rt
def dV.f (k:Nat) (a0:ae):Option ae:=(if a0.state=1 then ((de.f a0.timers 0).bind fun t4=>(if (a0.inds.length:Int)+([1]:List Int).length≤1099511627776 then ((bD.f k ({a0 with state:=2,tries:=0,timers:=t4.2,inds:=a0.inds++([1]:List Int)}:ae)).bind fun t12=>some t12) else none)) else (if a0.state=3 then ((cw.f a0).bind fun t15=>some t15) else some a0))
theorem dV.calls (H:dV.f k a0=some r) (HS:St [ae.at b0 a0,R] w0 w):Calls Tryz.prog 281 #[pt b0] w (Ret fun u w=>u=Value.tuple #[]∧St [ae.at b0 r,R] w0 w):=by
 refine calls_enter func281 Z Z (go ?_)
 obtain ⟨_,_,_,_,_,_,_,_,_,HS⟩:=ae.open HS
 refine go ?_
 refine V.cd H Z (fun _ H=>go ?_) (fun _ H=>go ?_)
 ·refine W.sr 4 HS Z Z Z fun w HS=>go ?_
  refine W.sr 6 HS Z Z Z fun w HS=>go ?_
  have HS:=HS.b [3]
  refine W.kl H func219 (fun _ h=>de.calls h HS.j1) ?_
  rintro _ _ w H ⟨rfl,HS⟩
  have HS:=HS.o1
  refine go ?_
  refine W.e (Y.ls (e:=3) (Value.int .i64) ([1]:List Int) HS Z Z (fun _=>by kernel_rfl)) Z ?_
  rintro _ w ⟨_,rfl,HS⟩
  obtain ⟨_,H⟩:=ite_n H
  refine W.e (Y.appF (Value.int .i64) (fun _=>Z) 7 underlying141 ap3 Z HS Z Z Z (rdC.at 0 row_rd HS Z) (by omega) (by omega)) Z ?_
  rintro _ w ⟨_,_,rfl,HS⟩
  refine go ?_
  refine W.sr 12 HS Z Z Z fun w HS=>go ?_
  have HS:=ae.close tv (HS.b [2,2,2,1,1,1,1])
  refine W.kl H func152 (fun _ h=>bD.calls h HS.j1) ?_
  rintro _ _ w H ⟨rfl,HS⟩
  have HS:=HS.o1
  refine go ?_
  have HS:=HS.ke [0,1]
  exact rt
 ·refine V.cd H Z (fun _ H=>go ?_) (fun _ H=>go ?_)
  ·have HS:=ae.close tv HS
   refine W.kl H func236 (fun _ h=>cw.calls h HS.j1) ?_
   rintro _ _ w H ⟨rfl,HS⟩
   have HS:=HS.o1
   refine go ?_
   exact rt
  ·have HS:=ae.close tv HS
   exact rt
mutual
def ce.j0 (k:Nat) (a0:ae) (a1:Int) (x2:Bool) (x3:Bool):Option ae:=(if x3=true then ((dq.f k a0 a1 ({Kind:=6,Ns:=0,Nr:=0,Poll:=false}:aF) ([]:List Int)).bind fun t6=>some t6) else ((bJ.f k a0 ({Kind:=4,Ns:=0,Nr:=0,Poll:=x2}:aF)).bind fun t8=>((cw.f t8).bind fun t10=>some t10)))
end
def ce.f (k:Nat) (a0:ae) (a1:Int) (a2:Bool):Option ae:=(if a1=a0.tag then (if a0.state=2 then (ce.j0 k a0 a1 a2 false) else (ce.j0 k a0 a1 a2 (!(decide (a0.state=3))))) else (ce.j0 k a0 a1 a2 true))
theorem ce.calls (H:ce.f k a0 a1 a2=some r) (HS:St [ae.at b0 a0,R] w0 w):Calls Tryz.prog 282 #[pt b0,vi a1,vb a2] w (Ret fun u w=>u=Value.tuple #[]∧St [ae.at b0 r,R] w0 w):=by
 refine calls_enter func282 Z Z ?_
 refine V.seq ?_
 refine V.mj (σ:=Bool × Bool) [0,1] (fun (x2,x3) w=>St [ae.at b0 a0,R] w0 w∧∃kf4,kf4≤k∧ce.j0 kf4 a0 a1 x2 x3=some r) (fun (x2,x3)=>[(2,vb x2),(25,vb x3)]) ?_ ?_
 ·refine go ?_
  obtain ⟨_,_,_,_,_,_,_,_,_,HS⟩:=ae.open HS
  refine go ?_
  refine W.cm 12 H Z (fun _ H=>go ?_) (fun _ H=>go ?_)
  ·refine W.cm 18 H Z (fun _ H=>go ?_) (fun _ H=>go ?_)
   ·have HS:=ae.close tv HS
    exact At.mt (_,_) ⟨HS,k,by omega,H⟩
   ·have HS:=ae.close tv HS
    exact At.mt (_,_) ⟨HS,k,by omega,H⟩
  ·have HS:=ae.close tv HS
   exact At.mt (_,_) ⟨HS,k,by omega,H⟩
 ·rintro ⟨x2,x3⟩ w ⟨HS,kf4,_,H⟩
  refine V.cv H Z (fun _ H=>go ?_) (fun _ H=>go ?_)
  ·refine W.r (X.bd (Value.agg #[vi (6),vi (0),vi (0),vb false]) Z (fun _=>by kernel_rfl)) Z ?_
   have HS:=((St.row_freeze (row_nilF (Value.int .u8) 5 1 HS)).more 0 rfl (fun _ t=>t) fsl.pers).b [2]
   refine W.kl H func176 (fun _ h=>dq.calls h HS.j2) ?_
   rintro _ _ w H ⟨rfl,HS⟩
   have HS:=HS.o1
   refine go ?_
   have HS:=HS.ke [0,1]
   exact rt
  ·refine W.r (X.bd (Value.agg #[vi (4),vi (0),vi (0),vb x2]) Z (fun _=>by kernel_rfl)) Z ?_
   refine W.kl H func113 (fun _ h=>bJ.calls h HS.j1) ?_
   rintro _ _ w H ⟨rfl,HS⟩
   have HS:=HS.o1
   refine go ?_
   refine W.kl H func236 (fun _ h=>cw.calls h HS.j1) ?_
   rintro _ _ w H ⟨rfl,HS⟩
   have HS:=HS.o1
   refine go ?_
   exact rt
mutual
def bz.j1 (a0:ae) (a1:Int) (x7:Bool):Option ae:=(if x7=true then ((cw.f ({a0 with tag:=a1}:ae)).bind fun t12=>some t12) else some a0)
def bz.j0 (a0:ae) (a1:Int) (x2:Bool):Option ae:=(if x2=true then ((cw.f a0).bind fun t5=>some t5) else (if a0.state=1 then ((dQ.f a0 a1).bind fun t17=>(bz.j1 a0 a1 t17)) else (bz.j1 a0 a1 false)))
end
def bz.f (a0:ae) (a1:Int):Option ae:=(if a1=a0.tag then (bz.j0 a0 a1 (!(decide (a0.state=0)))) else (bz.j0 a0 a1 false))
theorem bz.calls (H:bz.f a0 a1=some r) (HS:St [ae.at b0 a0,R] w0 w):Calls Tryz.prog 283 #[pt b0,vi a1] w (Ret fun u w=>u=Value.tuple #[]∧St [ae.at b0 r,R] w0 w):=by
 refine calls_enter func283 Z Z ?_
 refine gs ?_
 refine V.mj (σ:=Bool) [0,1] (fun x2 w=>St [ae.at b0 a0,R] w0 w∧bz.j0 a0 a1 x2=some r) (fun x2=>[(4,vb x2)]) ?_ ?_
 ·refine go ?_
  obtain ⟨_,_,_,_,_,_,_,_,_,HS⟩:=ae.open HS
  refine go ?_
  refine W.cd 11 H Z (fun _ H=>go ?_) (fun _ H=>go ?_)
  ·have HS:=ae.close tv HS
   exact At.mt _ ⟨HS,H⟩
  ·have HS:=ae.close tv HS
   exact At.mt _ ⟨HS,H⟩
 ·rintro x2 w ⟨HS,H⟩
  refine V.cv H Z (fun _ H=>go ?_) (fun _ H=>?_)
  ·refine W.kl H func236 (fun _ h=>cw.calls h HS.j1) ?_
   rintro _ _ w H ⟨rfl,HS⟩
   have HS:=HS.o1
   refine go ?_
   exact rt
  ·refine V.mj (σ:=Bool) [0,1] (fun x7 w=>St [ae.at b0 a0,R] w0 w∧bz.j1 a0 a1 x7=some r) (fun x7=>[(20,vb x7)]) ?_ ?_
   ·refine go ?_
    obtain ⟨_,_,_,_,_,_,_,_,_,HS⟩:=ae.open HS
    refine go ?_
    refine W.cd 26 H Z (fun _ H=>go ?_) (fun _ H=>go ?_)
    ·refine W.kl H func305 (fun _ h=>dQ.calls h HS.j7) ?_
     rintro _ _ w H ⟨rfl,HS⟩
     have HS:=HS.o7
     refine go ?_
     have HS:=ae.close tv HS
     exact At.mt _ ⟨HS,H⟩
    ·have HS:=ae.close tv HS
     exact At.mt _ ⟨HS,H⟩
   ·rintro x7 w ⟨HS,H⟩
    refine V.cv H Z (fun _ H=>go ?_) (fun _ H=>go ?_)
    ·obtain ⟨_,_,_,_,_,_,_,_,_,HS⟩:=ae.open HS
     refine go ?_
     refine W.sr 5 HS Z Z Z fun w HS=>go ?_
     have HS:=ae.close tv HS
     refine W.kl H func236 (fun _ h=>cw.calls h HS.j1) ?_
     rintro _ _ w H ⟨rfl,HS⟩
     have HS:=HS.o1
     refine go ?_
     exact rt
    ·exact rt
def cT.f (a0:List (List Int)) (a1:Int) (a2:Int):Option (List (List Int)):=(if 0≤a1∧a1≤a2∧a2≤(a0.length:Int) then (if a1=a2 then some a0 else (if 0≤(0:Int)∧(0:Int)≤a1∧a1≤(a0.length:Int) then (if 0≤a2∧a2≤(a0.length:Int)∧(a0.length:Int)≤(a0.length:Int) then some ((cut a0 (0:Int) a1)++(cut a0 a2 (a0.length:Int))) else none) else none)) else none)
theorem cT.calls (H:cT.f a0 a1 a2=some r) (HS:St [row 48 1 (.slice sa0 a0.length sc0) a0.length sd0,tie (El.sl (El.int .u8)) sd0 a0,R] w0 w):Calls Tryz.prog 320 #[vs sa0 a0.length sc0,vi a1,vi a2] w (Ret fun u w=>∃aq0 cq0 dq0,u=vs aq0 r.length cq0∧St [row 48 1 (.slice aq0 r.length cq0) r.length dq0,tie (El.sl (El.int .u8)) dq0 r,R] w0 w):=by
 refine calls_enter func320 Z Z (go ?_)
 obtain ⟨c1,H⟩:=ite_n H
 refine W.r (X.sl3 underlying35 inf48 Z Z Z Z c1 (Int.ofNat_le.2 (rdC.at 0 row_rd HS Z).cap)) Z (go ?_)
 refine V.cd H Z (fun _ H=>go ?_) (fun _ H=>go ?_)
 ·exact rt
 ·obtain ⟨c5,H⟩:=ite_n H
  obtain ⟨c6,H⟩:=ite_n H
  apply V.da [6] [7] [(20,_),(21,_),(22,_),(23,_),(24,_),(25,_)] mo HS
  rfl
  refine T.e [22,25] [] [0,1,2,3,4,5] (fun w HS=>?_) ⟨rd,rd,.n2 20 21 Z Z Z (fun w HS=>X.slH underlying35 inf48 Z Z c5 (rdC.at 0 row_rd HS Z).cap),rd,rd,.n2 23 24 Z Z Z (fun w HS=>X.slL underlying35 inf48 Z Z c6),rds⟩
  have hlt7:a1<a2:=by omega
  have hd8:0≤a1∧a1<a2∧a2≤(a0.length:Int):=by omega
  have hc9:(a0.length:Int)≤(sc0:Int):=Int.ofNat_le.2 (rdC.at 0 row_rd HS rfl).cap
  have hl10:(((cut a0 (0:Int) a1)++(cut a0 a2 (a0.length:Int))).length:Int)≤(a0.length:Int):=by rw [List.length_append,cut_len ⟨by omega,by omega,by omega⟩,cut_len ⟨by omega,by omega,by omega⟩];omega
  refine ⟨_,Y.appDel (xs:=a0) 0 underlying35 ap48 (by decide) HS Z hd8 Z Z (St.tie_one 1 HS Z),?_⟩
  rintro _ w ⟨rfl,HS⟩
  have HS:=St.tie_app 1 (St.tie_cut (0:Int) a1 ((St.tie_cut2 1 a2 (a0.length:Int) HS rfl).fr 2)) rfl
  apply T.na [(26,_),(0,_)] HS
  exact nmk
  refine T.ff [0,7] fun w HS=>?_
  refine go ?_
  refine W.r (X.slC underlying35 inf48 Z Z Z ⟨by omega,hl10⟩ hc9) Z ?_
  refine W.en (Y.clearTail (n0:=a0.length) 2 underlying35 ap48 Z Z HS Z (Int.ofNat_le.1 hl10) (Int.ofNat_le.1 hc9) Z) Z ?_
  rintro _ w HS
  refine go ?_
  have HS:=HS.ke [2,0,1]
  exact rt
mutual
def ca.j0 (a0:aC) (t3:Int) (x8:Bool):Option (Int × Bool × aC):=(if x8=true then some (0,false,a0) else ((cT.f a0.l 0 t3).bind fun t13=>((cD.f ({a0 with out:=w64 (a0.out-t3),l:=t13}:aC) t3).bind fun t15=>some (t3,true,({a0 with first:=t15,out:=w64 (a0.out-t3),l:=t13}:aC)))))
end
def ca.f (a0:aC) (a1:Int):Option (Int × Bool × aC):=((dt.f a0.first a1 a0.m).bind fun t3=>(if a1<0 then (ca.j0 a0 t3 true) else (if a1≥a0.m then (ca.j0 a0 t3 true) else (ca.j0 a0 t3 (decide (t3>a0.out))))))
theorem ca.calls (H:ca.f a0 a1=some r) (HS:St [aC.at b0 a0,R] w0 w):Calls Tryz.prog 315 #[pt b0,vi a1] w (Ret fun u w=>u=Value.tuple #[vi r.1,vb r.2.1]∧St [aC.at b0 r.2.2,R] w0 w):=by
 refine calls_enter func315 Z Z (go ?_)
 obtain ⟨_,_,_,_,HS⟩:=aC.open HS
 apply V.da [9] [10] [(7,_),(8,_),(9,_),(10,_),(11,_),(12,_),(13,_),(14,_),(15,_)] mo HS
 rfl
 refine T.e [10,11,15] [] [0,1,2,3,4,5,6,7,8] fun w HS=>?_
 refine Y.kl H func301 (fun _ h=>dt.calls h HS.j0) ?_
 rintro t3 _ w H ⟨rfl,HS⟩
 have HS:=HS.o0
 apply T.na [(16,_),(6,_)] HS
 exact nmk
 refine T.ff [0,1,6] fun w HS=>?_
 refine gs ?_
 refine V.seq ?_
 refine V.mj (σ:=Bool) [0,6] (fun x8 w=>St [aC.at b0 a0,R] w0 w∧ca.j0 a0 t3 x8=some r) (fun x8=>[(34,vb x8)]) ?_ ?_
 ·refine go ?_
  refine W.cd 19 H Z (fun _ H=>go ?_) (fun _ H=>go ?_)
  ·have HS:=aC.close tv HS
   exact At.mt _ ⟨HS,H⟩
  ·refine W.cd 27 H Z (fun _ H=>go ?_) (fun _ H=>go ?_)
   ·have HS:=aC.close tv HS
    exact At.mt _ ⟨HS,H⟩
   ·have HS:=aC.close tv HS
    exact At.mt _ ⟨HS,H⟩
 ·rintro x8 w ⟨HS,H⟩
  refine V.cv H Z (fun _ H=>go ?_) (fun _ H=>go ?_)
  ·exact rt
  ·obtain ⟨_,_,_,_,HS⟩:=aC.open HS
   refine go ?_
   have HS:=HS.b [1,1]
   refine W.kl H func320 (fun _ h=>cT.calls h HS.j2) ?_
   rintro _ _ w H ⟨_,_,_,rfl,HS⟩
   have HS:=HS.o2
   refine go ?_
   refine W.sr 5 HS Z Z Z fun w HS=>go ?_
   refine W.sr 4 HS Z Z Z fun w HS=>go ?_
   have HS:=HS.b [2]
   refine W.kl H func262 (fun _ h=>cD.calls h HS.j3) ?_
   rintro _ _ w H ⟨rfl,HS⟩
   have HS:=HS.o3
   refine go ?_
   refine W.sr 3 HS Z Z Z fun w HS=>go ?_
   have HS:=aC.close tv HS
   exact rt
def dx.f (k:Nat) (a0:ae) (a1:Int):Option (Bool × ae):=((ca.f a0.log a1).bind fun t3=>(if t3.1=0 then some (t3.2.1,({a0 with log:=t3.2.2}:ae)) else ((de.f a0.timers 0).bind fun t13=>((bK.f k t3.2.2).bind fun t17=>(if (t17.length:Int)>0 then ((cu.f ({a0 with tries:=0,log:=t3.2.2,timers:=t13.2,acked:=w64 (a0.acked+t3.1)}:ae)).bind fun t20=>some (t3.2.1,t20)) else some (t3.2.1,({a0 with tries:=0,log:=t3.2.2,timers:=t13.2,acked:=w64 (a0.acked+t3.1)}:ae)))))))
theorem dx.calls (H:dx.f k a0 a1=some r) (HS:St [ae.at b0 a0,R] w0 w):Calls Tryz.prog 306 #[pt b0,vi a1] w (Ret fun u w=>u=vb r.1∧St [ae.at b0 r.2,R] w0 w):=by
 refine calls_enter func306 Z Z (go ?_)
 obtain ⟨_,_,_,_,_,_,_,_,_,HS⟩:=ae.open HS
 refine go ?_
 have HS:=HS.b [1]
 refine W.kl H func315 (fun _ h=>ca.calls h HS.j1) ?_
 rintro _ _ w H ⟨rfl,HS⟩
 have HS:=HS.o1
 refine go ?_
 refine V.cd H Z (fun _ H=>go ?_) (fun _ H=>go ?_)
 ·have HS:=ae.close tv (HS.b [1])
  exact rt
 ·refine W.sr 14 HS Z Z Z fun w HS=>go ?_
  refine W.sr 6 HS Z Z Z fun w HS=>go ?_
  have HS:=HS.b [3]
  refine W.kl H func219 (fun _ h=>de.calls h HS.j1) ?_
  rintro _ _ w H ⟨rfl,HS⟩
  have HS:=HS.o1
  refine go ?_
  have HS:=HS.fr 1
  obtain ⟨_,_,_,_,HS⟩:=aC.open HS
  refine W.kl H func232 (fun _ h=>bK.calls h HS.j3) ?_
  rintro _ _ w H ⟨_,_,rfl,HS⟩
  have HS:=HS.o4
  refine go ?_
  refine V.cd H Z (fun _ H=>go ?_) (fun _ H=>go ?_)
  ·have HS:=ae.close tv ((aC.close tv (HS.b [1,1,1])).b [3,0,2,1,1,1,1])
   refine W.kl H func114 (fun _ h=>cu.calls h HS.j1) ?_
   rintro _ _ w H ⟨rfl,HS⟩
   have HS:=HS.o1
   refine go ?_
   have HS:=HS.ke [0,1]
   exact rt
  ·have HS:=(ae.close tv ((aC.close tv (HS.b [1,1,1])).b [3,0,2,1,1,1,1])).ke [0,1]
   exact rt
mutual
def bU.l0:Nat→Int→Bool→aD→(List Int)→Option (Int × aD)
 |0,_,_,_,_=>none
 |k+1,x26,x27,x28,x31=>(if x27=true then (if (x28.ready.length:Int)+(([x31]:List (List Int))).length≤1099511627776 then ((dK.f x28.next x28.m).bind fun t43=>(bU.l0 k (w64 (x26+1)) (mhas (mdel x28.kept x28.next) t43) ({x28 with next:=t43,kept:=mdel x28.kept x28.next,ready:=x28.ready++([x31]:List (List Int))}:aD) (mget (mdel x28.kept x28.next) t43 []))) else none) else some (x26,x28))
end
def bU.f (k:Nat) (a0:aD) (a1:Int) (a2:List Int):Option (Int × aD):=((dt.f a0.next a1 a0.m).bind fun t3=>(if ¬(a0.m=0) then (if t3≥a0.window then some ((-1),a0) else (if mhas a0.kept ((w64 (a0.next+t3)).tmod a0.m)=true then some (0,a0) else ((aT.f a2).bind fun t17=>(bU.l0 k 0 (mhas (mput a0.kept ((w64 (a0.next+t3)).tmod a0.m) t17) a0.next) ({a0 with kept:=mput a0.kept ((w64 (a0.next+t3)).tmod a0.m) t17}:aD) (mget (mput a0.kept ((w64 (a0.next+t3)).tmod a0.m) t17) a0.next []))))) else none))
theorem bU.calls (H:bU.f k a0 a1 a2=some r) (HS:St [aD.at b0 a0,R] w0 w) (hr2:dB R sa2 sc2 a2):Calls Tryz.prog 316 #[pt b0,vi a1,vs sa2 a2.length sc2] w (Ret fun u w=>u=vi r.1∧St [aD.at b0 r.2,R] w0 w):=by
 refine calls_enter func316 Z Z (go ?_)
 obtain ⟨_,_,_,_,_,_,HS⟩:=aD.open HS
 apply V.da [9] [10] [(13,_),(14,_),(15,_),(16,_),(17,_),(18,_),(19,_),(20,_),(21,_)] mo HS
 rfl
 refine T.e [16,17,21] [] [0,1,2,3,4,5,6,7,8] fun w HS=>?_
 refine Y.kl H func301 (fun _ h=>dt.calls h HS.j0) ?_
 rintro t3 _ w H ⟨rfl,HS⟩
 have HS:=HS.o0
 apply T.na [(22,_),(7,_)] HS
 exact nmk
 refine T.ff [0,2,7] fun w HS=>?_
 refine go ?_
 obtain ⟨c5,H⟩:=ite_n H
 apply V.da [] [] [(23,_),(24,_),(25,_),(26,_),(27,_),(28,_),(29,_),(30,_),(31,_),(32,_),(33,_),(1,_)] mo HS
 rfl
 refine T.ff [0,1,2,7] (fun w HS=>?_) ⟨rd,rd,rd,rd,rd,rd,rd,rd,rd,rd,.n2 28 32 Z Z Z (fun w HS=>X.rem Z Z c5),rds⟩
 refine go ?_
 refine V.cd H Z (fun _ H=>go ?_) (fun _ H=>go ?_)
 ·have HS:=aD.close tv HS
  exact rt
 ·have hm12:=St.tieM_has 2 ((w64 (a0.next+t3)).tmod a0.m) HS rfl
  have HS:=St.tieM_get 2 ((w64 (a0.next+t3)).tmod a0.m) (z:=.slice none 0 0) (d:=[]) sl_zero HS rfl
  obtain ⟨ea14,em15,hu13,HS⟩:=St.sl_openF (Value.int .u8) (fun t=>tie_int t) HS
  refine W.r (X.lookup (z:=.slice none 0 0) 2 underlying246 underlying3 ze48 HS Z Z Z hu13 hm12) Z (go ?_)
  refine V.cv H Z (fun _ H=>go ?_) (fun _ H=>go ?_)
  ·have HS:=(aD.close tv (HS.b [1,1,1,1,1])).ke [0,1]
   exact rt
  ·apply V.da [6,7] [] [(50,_),(51,_),(52,_),(53,_),(54,_),(55,_)] mo HS
   rfl
   refine T.e [55] [] [5] fun w HS=>?_
   refine Y.kl H func127 (fun _ h=>aT.calls h HS.j0 (rdC.part 6 hr2 Z)) ?_
   rintro t17 _ w H ⟨at17_0,ct17_0,rfl,HS⟩
   have HS:=HS.o1
   refine T.nw HS ?_
   refine T.e [53,54,56] [] [0,1,2,3,4] fun w HS=>?_
   have HS:=St.tieM_put ((w64 (a0.next+t3)).tmod a0.m) ((St.sl_close (E:=(El.int .u8)) (St.swap (St.put (A:=tie (El.int .u8) (t17.map (Value.int .u8)) t17) (fun _=>int_tie) ((St.row_freeze HS).more 0 rfl (fun _ t=>t) fsl.pers)))).b [0,4])
   refine ⟨_,Y.mapUpdate 4 underlying246 underlying3 HS Z Z Z Z,?_⟩
   rintro _ w HS
   refine T.nn HS ?_
   refine T.ff [0] fun w HS=>?_
   refine go ?_
   have hm19:=St.tieM_has 0 a0.next HS rfl
   have HS:=St.tieM_get 0 a0.next (z:=.slice none 0 0) (d:=[]) sl_zero HS rfl
   obtain ⟨_,_,hu20,HS⟩:=St.sl_openF (Value.int .u8) (fun t=>tie_int t) HS
   apply V.da [] [] [(58,_),(59,_),(60,_),(61,_),(62,_),(63,_),(64,_),(65,_),(66,_),(57,_),(67,_),(68,_),(11,_),(12,_)] mo HS
   rfl
   refine T.ff [0,10,11,12] (fun w HS=>?_) ⟨rd,rd,rd,rd,rd,rd,rd,rd,.n2 61 65 Z Z Z (fun w HS=>X.lookup (z:=.slice none 0 0) 5 underlying246 underlying3 ze48 HS Z Z Z hu20 hm19),rds⟩
   refine go ?_
   have HS:=aD.close tv (HS.b [4,4,1,3,3])
   refine V.lj (σ:=Int × Bool × aD × Option Addr × Nat × List Int) [0] (fun kq (x26,x27,x28,ra29,rc30,x31) w=>St [aD.at b0 x28,fB ra29 rc30 x31,fB at17_0 ct17_0 t17,fsl 1 (.slice ea14 (mget a0.kept ((w64 (a0.next+t3)).tmod a0.m) []).length em15) (mget a0.kept ((w64 (a0.next+t3)).tmod a0.m) []).length ((mget a0.kept ((w64 (a0.next+t3)).tmod a0.m) []).map (Value.int .u8)),R] w0 w∧bU.l0 kq x26 x27 x28 x31=some r∧kq≤k) (fun (x26,x27,x28,ra29,rc30,x31)=>[(10,vi x26),(11,vs ra29 x31.length rc30),(12,vb x27)]) (_,_,_,_,_,_) ⟨HS,H,Nat.le_refl _⟩ ?_
   rintro kq32 ⟨x26,x27,x28,ra29,rc30,x31⟩ w ⟨HS,H,_⟩
   cases kq32 with
   |zero=>exact absurd H (by simp [bU.l0])
   |succ kq32=>
    simp only [bU.l0] at H
    refine go ?_
    refine V.cv H Z (fun _ H=>go ?_) (fun _ H=>go ?_)
    ·obtain ⟨_,_,_,_,_,_,HS⟩:=aD.open HS
     apply V.da [8] [] [(82,_),(83,_),(84,_),(85,_),(86,_),(87,_),(88,_),(89,_)] mo HS
     rfl
     refine T.e [85,89] [] [0,1,2,3,4,5,6,7] fun w HS=>?_
     have HS:=St.tieM_del x28.next (HS.fr 2)
     refine ⟨_,Y.delete 2 underlying246 underlying3 HS Z Z Z,?_⟩
     rintro _ w HS
     refine T.nn HS ?_
     refine T.ff [0,10,11] fun w HS=>?_
     refine go ?_
     refine W.e (Y.lc (e:=48) (sz:=1) [vs ra29 x31.length rc30] HS Z Z (fun _=>by kernel_rfl)) Z ?_
     rintro _ w ⟨_,rfl,HS⟩
     have HS:=St.tie_cons (((St.sl_close (E:=(El.int .u8)) (St.swap (St.put (A:=tie (El.int .u8) (x31.map (Value.int .u8)) x31) (fun _=>int_tie) ((St.put (A:=tie (El.sl (El.int .u8)) ([]) (([]:List (List Int)))) (fun _=>tie.nil) HS).more 7 rfl (fun _ t=>t) fsl.pers)))).fr 1).fr 1)
     obtain ⟨_,H⟩:=ite_n H
     refine W.e (Y.app (xs:=x28.ready) (ys:=([x31]:List (List Int))) 5 underlying35 ap48 Z (by decide) HS Z Z Z (rdC.at 1 row_rd HS Z) (St.tie_one 0 HS Z) (by omega) (by omega)) Z ?_
     rintro _ w ⟨_,_,rfl,HS⟩
     have HS:=St.tie_app 1 (HS.fr 6) rfl
     refine go ?_
     refine W.sr 4 HS Z Z Z fun w HS=>go ?_
     apply V.da [9,12] [10,11] [(100,_),(101,_),(102,_),(103,_),(104,_),(105,_),(106,_),(107,_),(108,_)] mo HS
     rfl
     refine T.e [104,108] [] [1,2,3,4,5,6,7,8] fun w HS=>?_
     refine Y.kl H func112 (fun _ h=>dK.calls h HS.j0) ?_
     rintro t43 _ w H ⟨rfl,HS⟩
     have HS:=HS.o0
     apply T.na [(109,_),(110,_),(111,_)] HS
     exact nmk
     refine T.e [109,111] [] [0,10,11] fun w HS=>?_
     refine Y.sr 2 HS Z Z Z fun _ w HS=>?_
     refine T.nn HS ?_
     refine T.ff [0,10] fun w HS=>?_
     refine go ?_
     have hm45:=St.tieM_has 3 t43 HS rfl
     have HS:=St.tieM_get 3 t43 (z:=.slice none 0 0) (d:=[]) sl_zero HS rfl
     obtain ⟨_,_,hu46,HS⟩:=St.sl_openF (Value.int .u8) (fun t=>tie_int t) HS
     apply V.da [] [] [(71,_),(72,_),(73,_),(74,_),(75,_),(76,_),(77,_),(78,_),(79,_),(70,_),(80,_),(81,_),(11,_),(12,_)] mo HS
     rfl
     refine T.ff [0,10,11,12] (fun w HS=>?_) ⟨rd,rd,rd,rd,rd,rd,rd,rd,.n2 74 78 Z Z Z (fun w HS=>X.lookup (z:=.slice none 0 0) 6 underlying246 underlying3 ze48 HS Z Z Z hu46 hm45),rds⟩
     have HS:=(aD.close tv (HS.b [5,5,4,4,1])).ke [0,0,3,3,3]
     exact At.rn (_,_,_,_,_,_) ⟨HS,H,by omega⟩
    ·have HS:=HS.ke [0,3]
     exact rt
def eD.f (a0:aD):Option Bool:=some (decide ((a0.kept.length:Int)>0))
theorem eD.calls (H:eD.f a0=some r) (HS:St [blk b0 (#[vi a0.m,vi a0.window,vi a0.next,Value.map (some b3_p0),vs a4_p0 a0.ready.length c4_p0]) 248,mblk b3_p0 k3_p0,tieM (El.sl (El.int .u8)) k3_p0 a0.kept,row 48 1 (.slice a4_p0 a0.ready.length c4_p0) a0.ready.length d4_p0,tie (El.sl (El.int .u8)) d4_p0 a0.ready,R] w0 w):Calls Tryz.prog 317 #[pt b0] w (Ret fun u w=>u=vb r∧St [blk b0 (#[vi a0.m,vi a0.window,vi a0.next,Value.map (some b3_p0),vs a4_p0 a0.ready.length c4_p0]) 248,mblk b3_p0 k3_p0,tieM (El.sl (El.int .u8)) k3_p0 a0.kept,row 48 1 (.slice a4_p0 a0.ready.length c4_p0) a0.ready.length d4_p0,tie (El.sl (El.int .u8)) d4_p0 a0.ready,R] w0 w):=by
 refine calls_enter func317 Z Z (go ?_)
 refine W.r (X.lenMap (m:=a0.kept) 1 underlying246 HS Z (St.tieM_len 2 HS Z) Z) Z (go ?_)
 exact rt
mutual
def bw.j2 (k:Nat) (x10:ae) (x11:aF):Option ae:=((bJ.f k x10 x11).bind fun t15=>some t15)
def bw.j3 (k:Nat) (x4:ae) (x7:aF) (x17:Bool):Option ae:=(if x17=true then (bw.j2 k ({x4 with rejected:=true}:ae) ({x7 with Kind:=2,Poll:=false}:aF)) else (bw.j2 k x4 x7))
def bw.j1 (k:Nat) (x4:ae) (x7:aF):Option ae:=((eD.f x4.order).bind fun t28=>(if t28=true then (bw.j3 k x4 x7 (!x4.rejected)) else (bw.j3 k x4 x7 false)))
def bw.j0 (k:Nat) (a1:aF) (x4:ae):Option ae:=((cR.f x4.order).bind fun t37=>(bw.j1 k x4 ({Kind:=1,Ns:=0,Nr:=t37,Poll:=a1.Poll}:aF)))
end
def bw.f (k:Nat) (a0:ae) (a1:aF) (a2:List Int):Option ae:=((bU.f k a0.order a1.Ns a2).bind fun t47=>(if t47.1>0 then (bw.j0 k a1 ({a0 with rejected:=false,order:=t47.2}:ae)) else (bw.j0 k a1 ({a0 with order:=t47.2}:ae))))
theorem bw.calls (H:bw.f k a0 a1 a2=some r) (HS:St [ae.at b0 a0,R] w0 w) (hr2:dB R sa2 sc2 a2):Calls Tryz.prog 307 #[pt b0,Value.agg #[vi a1.Kind,vi a1.Ns,vi a1.Nr,vb a1.Poll],vs sa2 a2.length sc2] w (Ret fun u w=>u=Value.tuple #[]∧St [ae.at b0 r,R] w0 w):=by
 refine calls_enter func307 Z Z (go ?_)
 refine W.e (Y.box HS Z) Z ?_
 rintro _ w ⟨nb1,rfl,HS⟩
 refine gs ?_
 refine V.mj (σ:=ae) [0,4] (fun x4 w=>St [aF.at nb1 a1,ae.at b0 x4,R] w0 w∧∃kf5,kf5≤k∧bw.j0 kf5 a1 x4=some r) (fun _=>[]) ?_ ?_
 ·refine go ?_
  have HS:=HS.fr 1
  obtain ⟨_,_,_,_,_,_,_,_,_,HS⟩:=ae.open HS
  apply V.da [7] [8] [(7,_),(8,_),(9,_),(10,_),(11,_),(12,_),(13,_)] mo HS
  rfl
  refine T.e [10,12,13] [] [0,1,2,3,4,5,6] fun w HS=>?_
  have HS:=HS.b [2]
  refine Y.kl H func316 (fun _ h=>bU.calls h HS.j1 (rdC.part 7 hr2 Z)) ?_
  rintro _ _ w H ⟨rfl,HS⟩
  have HS:=HS.o1
  apply T.na [(14,_),(15,_)] HS
  exact nmk
  refine T.ff [0,4,15] fun w HS=>?_
  refine go ?_
  refine V.cd H Z (fun _ H=>go ?_) (fun _ H=>go ?_)
  ·refine W.sr 7 HS Z Z Z fun w HS=>go ?_
   have HS:=(ae.close tv ((aF.close tv (HS.b [7])).b [2,2,1,1,1,1,1])).b [1]
   exact At.mt _ ⟨HS,k,by omega,H⟩
  ·have HS:=(ae.close tv ((aF.close tv (HS.b [7])).b [2,2,1,1,1,1,1])).b [1]
   exact At.mt _ ⟨HS,k,by omega,H⟩
 ·rintro x4 w ⟨HS,kf5,_,H⟩
  refine V.mj (σ:=Nat × aF) [0] (fun (nb6,x7) w=>St [aF.at nb6 x7,aF.at nb1 a1,ae.at b0 x4,R] w0 w∧∃kf8,kf8≤kf5∧bw.j1 kf8 x4 x7=some r) (fun (nb6,x7)=>[(6,pt nb6)]) ?_ ?_
  ·have HS:=HS.fr 1
   obtain ⟨_,b9_31,_,_,_,_,_,_,_,HS⟩:=ae.open HS
   have HS:=HS.fr 7
   obtain ⟨_,HS⟩:=aF.open HS
   apply V.da [4,8,9] [7] [(19,_),(20,_),(21,_),(22,_),(24,_),(25,_)] mo HS
   rfl
   refine T.two Z Z ⟨.mv 0,.nc 19,.fa 20 fA,.ld 21 1 underlying155,.fa 4 fD,.ld 24 0 underlying4,tv⟩ (T.step (es:=[8,9]) _ [(22,pt b9_31)] Z ⟨.inr ⟨Z,Z⟩,tv⟩ (Or.inl Z) (by intro d hd;cases hd;exact ⟨by decide,Z,Z⟩) [] [0,1,2,3] Z Z Z Z Z (fun w HS=>?_)) (T.step (es:=[4,9]) _ [] Z tv (Or.inl Z) (by intro d hd;cases hd;exact ⟨by decide,Z,Z⟩) [7] [] Z Z Z Z Z (fun w HS=>?_))
   ·have HS:Sep.St _ w0 w:=HS
    have HS:=HS.fr 3
    obtain ⟨_,_,_,_,_,_,HS⟩:=aD.open HS
    refine Y.kl H func263 (fun _ h=>cR.calls h HS.j5) ?_
    rintro t37 _ w H ⟨rfl,HS⟩
    have HS:=HS.o5
    apply T.na [(23,_),(26,_)] HS
    exact nmk
    refine T.e [] [] [] (fun w HS=>?_) ⟨rd,rd,.n2 23 25 Z Z Z (fun w HS=>X.bd (Value.agg #[vi (1),vi (0),vi t37,vb a1.Poll]) Z (fun _=>by kernel_rfl)),rds⟩
    refine ⟨_,Y.alloc (z:=Value.agg (#[vi (0),vi (0),vi (0),vb false])) HS ze161,?_⟩
    rintro _ w ⟨_,rfl,HS⟩
    refine T.nw HS ?_
    refine T.e [6,26] [] [5,6,7] (fun w HS=>?_) ⟨rd,rd,.n2 23 25 Z Z Z (fun w HS=>X.bd (Value.agg #[vi (1),vi (0),vi t37,vb a1.Poll]) Z (fun _=>by kernel_rfl)),rds⟩
    refine ⟨_,Y.storeSt (c':=#[vi (1),vi (0),vi t37,vb a1.Poll]) 0 [vi (1),vi (0),vi t37,vb a1.Poll] HS Z inf161 Z Z Z Z Z Z,?_⟩
    rintro _ w HS
    refine T.nn HS ?_
    refine T.ff [0,6] fun w HS=>?_
    have HS:=(ae.close tv ((aD.close tv ((aF.close tv ((aF.close tv HS).b [6])).b [2,2,2,2,2])).b [3,3,0,2,2,2,2])).b [2,1]
    exact At.mt (_,_) ⟨HS,kf5,by omega,H⟩
   ·have HS:Sep.St _ w0 w:=HS
    refine ⟨_,Y.alloc (z:=Value.agg (#[vi (0),vi (0),vi (0),vb false])) HS ze161,?_⟩
    rintro _ w ⟨_,rfl,HS⟩
    refine T.nw HS ?_
    refine T.e [22] [] [0,1,2,3] fun w HS=>?_
    have HS:=HS.fr 4
    obtain ⟨_,_,_,_,_,_,HS⟩:=aD.open HS
    refine Y.kl H func263 (fun _ h=>cR.calls h HS.j5) ?_
    rintro t43 _ w H ⟨rfl,HS⟩
    have HS:=HS.o5
    apply T.na [(23,_),(26,_)] HS
    exact nmk
    refine T.e [6,26] [] [5,6,7] (fun w HS=>?_) ⟨rd,rd,.n2 23 25 Z Z Z (fun w HS=>X.bd (Value.agg #[vi (1),vi (0),vi t43,vb a1.Poll]) Z (fun _=>by kernel_rfl)),rds⟩
    refine ⟨_,Y.storeSt (c':=#[vi (1),vi (0),vi t43,vb a1.Poll]) 5 [vi (1),vi (0),vi t43,vb a1.Poll] HS Z inf161 Z Z Z Z Z Z,?_⟩
    rintro _ w HS
    refine T.nn HS ?_
    refine T.ff [0,6] fun w HS=>?_
    have HS:=(ae.close tv ((aD.close tv ((aF.close tv ((aF.close tv (HS.b [5])).b [6])).b [2,2,2,2,2])).b [3,3,0,2,2,2,2])).b [2,1]
    exact At.mt (_,_) ⟨HS,kf5,by omega,H⟩
  ·rintro ⟨nb6,x7⟩ w ⟨HS,kf8,_,H⟩
   refine V.mj (σ:=ae × aF) [0,6] (fun (x10,x11) w=>St [aF.at nb6 x11,aF.at nb1 a1,ae.at b0 x10,R] w0 w∧∃kf12,kf12≤kf8∧bw.j2 kf12 x10 x11=some r) (fun _=>[]) ?_ ?_
   ·refine V.mj (σ:=Bool) [0,6] (fun x17 w=>St [aF.at nb6 x7,aF.at nb1 a1,ae.at b0 x4,R] w0 w∧∃kf18,kf18≤kf8∧bw.j3 kf18 x4 x7 x17=some r) (fun x17=>[(38,vb x17)]) ?_ ?_
    ·refine go ?_
     have HS:=HS.fr 2
     obtain ⟨_,_,_,_,_,_,_,_,_,HS⟩:=ae.open HS
     refine go ?_
     have HS:=HS.fr 2
     obtain ⟨_,_,_,_,_,_,HS⟩:=aD.open HS
     refine W.kl H func317 (fun _ h=>eD.calls h HS.j5) ?_
     rintro _ _ w H ⟨rfl,HS⟩
     have HS:=HS.o5
     refine go ?_
     refine W.cv 32 H Z (fun _ H=>go ?_) (fun _ H=>go ?_)
     ·have HS:=(ae.close tv ((aD.close tv HS).b [1,1])).b [1,1]
      exact At.mt _ ⟨HS,kf8,by omega,H⟩
     ·have HS:=(ae.close tv ((aD.close tv HS).b [1,1])).b [1,1]
      exact At.mt _ ⟨HS,kf8,by omega,H⟩
    ·rintro x17 w ⟨HS,kf18,_,H⟩
     refine V.cv H Z (fun _ H=>go ?_) (fun _ H=>go ?_)
     ·have HS:=HS.fr 2
      obtain ⟨_,_,_,_,_,_,_,_,_,HS⟩:=ae.open HS
      refine go ?_
      refine W.sr 7 HS Z Z Z fun w HS=>go ?_
      have HS:=HS.fr 7
      obtain ⟨_,HS⟩:=aF.open HS
      refine go ?_
      refine W.sr 0 HS Z Z Z fun w HS=>go ?_
      refine W.sr 3 HS Z Z Z fun w HS=>go ?_
      have HS:=(ae.close tv ((aF.close tv HS).b [1,1,1,1,1,1,1])).b [1,1]
      exact At.mt (_,_) ⟨HS,kf18,by omega,H⟩
     ·exact At.mt (_,_) ⟨HS,kf18,by omega,H⟩
   ·rintro ⟨x10,x11⟩ w ⟨HS,kf12,_,H⟩
    refine go ?_
    obtain ⟨_,HS⟩:=aF.open HS
    refine go ?_
    have HS:=HS.b [2]
    refine W.kl H func113 (fun _ h=>bJ.calls h HS.j1) ?_
    rintro _ _ w H ⟨rfl,HS⟩
    have HS:=HS.o1
    refine go ?_
    have HS:=HS.ke [0,2]
    exact rt
mutual
def aS.j3 (k:Nat) (x27:ae):Option ae:=((bD.f k x27).bind fun t29=>some t29)
def aS.j2 (k:Nat) (a2:aF) (a3:List Int) (x25:ae):Option ae:=(if a2.Kind=0 then ((bw.f k x25 a2 a3).bind fun t34=>(aS.j3 k t34)) else (aS.j3 k x25))
def aS.j4 (k:Nat) (a2:aF) (a3:List Int) (x36:ae) (x37:Bool):Option ae:=(if x37=true then ((bY.f k x36).bind fun t40=>(aS.j2 k a2 a3 t40)) else (aS.j2 k a2 a3 x36))
def aS.j1 (k:Nat) (a0:ae) (a2:aF) (a3:List Int) (x18:Bool):Option ae:=(if x18=true then ((bJ.f k a0 ({Kind:=7,Ns:=0,Nr:=0,Poll:=false}:aF)).bind fun t21=>((cw.f t21).bind fun t23=>some t23)) else ((dx.f k a0 a2.Nr).bind fun t44=>(if t44.1=true then (aS.j4 k a2 a3 t44.2 (decide (a2.Kind=2))) else (aS.j4 k a2 a3 t44.2 false))))
def aS.j0 (k:Nat) (a0:ae) (a2:aF) (a3:List Int) (x15:Bool):Option ae:=(if x15=true then some a0 else (if a2.Kind=0 then (aS.j1 k a0 a2 a3 (decide ((a3.length:Int)>a0.size))) else (aS.j1 k a0 a2 a3 false)))
end
def aS.f (k:Nat) (a0:ae) (a1:Int) (a2:aF) (a3:List Int):Option ae:=(if a0.state=0 then ((dq.f k a0 a1 ({Kind:=6,Ns:=0,Nr:=0,Poll:=false}:aF) ([]:List Int)).bind fun t7=>some t7) else (if a0.state=2 then (aS.j0 k a0 a2 a3 (!(decide (a1=a0.tag)))) else (aS.j0 k a0 a2 a3 true)))
theorem aS.calls (H:aS.f k a0 a1 a2 a3=some r) (HS:St [ae.at b0 a0,R] w0 w) (hr3:dB R sa3 sc3 a3):Calls Tryz.prog 284 #[pt b0,vi a1,Value.agg #[vi a2.Kind,vi a2.Ns,vi a2.Nr,vb a2.Poll],vs sa3 a3.length sc3] w (Ret fun u w=>u=Value.tuple #[]∧St [ae.at b0 r,R] w0 w):=by
 refine calls_enter func284 Z Z (go ?_)
 refine W.e (Y.box HS Z) Z ?_
 rintro _ w ⟨nb1,rfl,HS⟩
 refine go ?_
 have HS:=HS.fr 1
 obtain ⟨_,_,_,_,_,_,_,_,_,HS⟩:=ae.open HS
 refine go ?_
 refine V.cd H Z (fun _ H=>go ?_) (fun _ H=>?_)
 ·refine W.r (X.bd (Value.agg #[vi (6),vi (0),vi (0),vb false]) Z (fun _=>by kernel_rfl)) Z ?_
  have HS:=((St.row_freeze (row_nilF (Value.int .u8) 5 1 (ae.close tv HS))).more 0 rfl (fun _ t=>t) fsl.pers).b [2]
  refine W.kl H func176 (fun _ h=>dq.calls h HS.j2) ?_
  rintro _ _ w H ⟨rfl,HS⟩
  have HS:=HS.o1
  refine go ?_
  have HS:=HS.ke [0,2]
  exact rt
 ·refine V.mj (σ:=Bool) [0,3,6] (fun x15 w=>St [aF.at nb1 a2,ae.at b0 a0,R] w0 w∧∃kf16,kf16≤k∧aS.j0 kf16 a0 a2 a3 x15=some r) (fun x15=>[(18,vb x15)]) ?_ ?_
  ·refine go ?_
   refine W.cm 24 H Z (fun _ H=>go ?_) (fun _ H=>go ?_)
   ·have HS:=(ae.close tv ((aF.close tv (HS.b [7])).b [1,1,1,1,1,1,1])).b [1]
    exact At.mt _ ⟨HS,k,by omega,H⟩
   ·have HS:=(ae.close tv ((aF.close tv (HS.b [7])).b [1,1,1,1,1,1,1])).b [1]
    exact At.mt _ ⟨HS,k,by omega,H⟩
  ·rintro x15 w ⟨HS,kf16,_,H⟩
   refine V.cv H Z (fun _ H=>go ?_) (fun _ H=>?_)
   ·have HS:=HS.ke [1,1]
    exact rt
   ·refine V.mj (σ:=Bool) [0,3,6] (fun x18 w=>St [aF.at nb1 a2,ae.at b0 a0,R] w0 w∧∃kf19,kf19≤kf16∧aS.j1 kf19 a0 a2 a3 x18=some r) (fun x18=>[(32,vb x18)]) ?_ ?_
    ·refine go ?_
     obtain ⟨_,HS⟩:=aF.open HS
     refine go ?_
     refine W.cd 36 H Z (fun _ H=>go ?_) (fun _ H=>go ?_)
     ·have HS:=HS.fr 1
      obtain ⟨_,_,_,_,_,_,_,_,_,HS⟩:=ae.open HS
      refine go ?_
      have HS:=(ae.close tv ((aF.close tv (HS.b [7])).b [1,1,1,1,1,1,1])).b [1]
      exact At.mt _ ⟨HS,kf16,by omega,H⟩
     ·have HS:=aF.close tv HS
      exact At.mt _ ⟨HS,kf16,by omega,H⟩
    ·rintro x18 w ⟨HS,kf19,_,H⟩
     refine V.cv H Z (fun _ H=>go ?_) (fun _ H=>?_)
     ·refine W.r (X.bd (Value.agg #[vi (7),vi (0),vi (0),vb false]) Z (fun _=>by kernel_rfl)) Z ?_
      have HS:=HS.b [1]
      refine W.kl H func113 (fun _ h=>bJ.calls h HS.j1) ?_
      rintro _ _ w H ⟨rfl,HS⟩
      have HS:=HS.o1
      refine go ?_
      refine W.kl H func236 (fun _ h=>cw.calls h HS.j1) ?_
      rintro _ _ w H ⟨rfl,HS⟩
      have HS:=HS.o1
      refine go ?_
      have HS:=HS.ke [0,1]
      exact rt
     ·refine gs ?_
      refine V.mj (σ:=ae) [0,3,6] (fun x25 w=>St [aF.at nb1 a2,ae.at b0 x25,R] w0 w∧∃kf26,kf26≤kf19∧aS.j2 kf26 a2 a3 x25=some r) (fun _=>[]) ?_ ?_
      ·refine V.mj (σ:=ae × Bool) [0,3,6] (fun (x36,x37) w=>St [aF.at nb1 a2,ae.at b0 x36,R] w0 w∧∃kf38,kf38≤kf19∧aS.j4 kf38 a2 a3 x36 x37=some r) (fun (x36,x37)=>[(58,vb x37)]) ?_ ?_
       ·refine go ?_
        obtain ⟨_,HS⟩:=aF.open HS
        refine go ?_
        have HS:=HS.b [1]
        refine W.kl H func306 (fun _ h=>dx.calls h HS.j1) ?_
        rintro _ _ w H ⟨rfl,HS⟩
        have HS:=HS.o1
        refine go ?_
        refine W.cv 54 H Z (fun _ H=>go ?_) (fun _ H=>go ?_)
        ·have HS:=aF.close tv (HS.b [1])
         exact At.mt (_,_) ⟨HS,kf19,by omega,H⟩
        ·have HS:=aF.close tv (HS.b [1])
         exact At.mt (_,_) ⟨HS,kf19,by omega,H⟩
       ·rintro ⟨x36,x37⟩ w ⟨HS,kf38,_,H⟩
        refine V.cv H Z (fun _ H=>go ?_) (fun _ H=>go ?_)
        ·have HS:=HS.b [1]
         refine W.kl H func183 (fun _ h=>bY.calls h HS.j1) ?_
         rintro _ _ w H ⟨rfl,HS⟩
         have HS:=HS.o1
         refine go ?_
         have HS:=HS.b [1]
         exact At.mt _ ⟨HS,kf38,by omega,H⟩
        ·exact At.mt _ ⟨HS,kf38,by omega,H⟩
      ·rintro x25 w ⟨HS,kf26,_,H⟩
       refine V.mj (σ:=ae) [0] (fun x27 w=>St [aF.at nb1 a2,ae.at b0 x27,R] w0 w∧∃kf28,kf28≤kf26∧aS.j3 kf28 x27=some r) (fun _=>[]) ?_ ?_
       ·refine go ?_
        obtain ⟨_,HS⟩:=aF.open HS
        refine go ?_
        refine V.cd H Z (fun _ H=>go ?_) (fun _ H=>go ?_)
        ·have HS:=HS.b [1]
         refine W.kl H func307 (fun _ h=>bw.calls h HS.j1 (rdC.part 1 hr3 Z)) ?_
         rintro _ _ w H ⟨rfl,HS⟩
         have HS:=HS.o1
         refine go ?_
         have HS:=aF.close tv (HS.b [1])
         exact At.mt _ ⟨HS,kf26,by omega,H⟩
        ·have HS:=aF.close tv HS
         exact At.mt _ ⟨HS,kf26,by omega,H⟩
       ·rintro x27 w ⟨HS,kf28,_,H⟩
        refine go ?_
        have HS:=HS.b [1]
        refine W.kl H func152 (fun _ h=>bD.calls h HS.j1) ?_
        rintro _ _ w H ⟨rfl,HS⟩
        have HS:=HS.o1
        refine go ?_
        have HS:=HS.ke [0,1]
        exact rt
mutual
def cB.j1 (a0:ae) (x32:Bool):Option ae:=(if x32=true then ((cw.f a0).bind fun t35=>some t35) else some a0)
def cB.j0 (k:Nat) (a0:ae) (a1:List Int) (x8:aF) (x9:Int) (x10:Int):Option ae:=(if x10=0 then (if x8.Kind=3 then ((bm.f k a0 (ior .i64 (w64 ((w64 (a1.getD (0:Int).toNat 0))*2^(min (8:Int).toNat IntKind.i64.bits))) (w64 (a1.getD (1:Int).toNat 0))) x8.Poll).bind fun t17=>some t17) else (if x8.Kind=4 then (if (ior .i64 (w64 ((w64 (a1.getD (0:Int).toNat 0))*2^(min (8:Int).toNat IntKind.i64.bits))) (w64 (a1.getD (1:Int).toNat 0)))=a0.tag then ((dV.f k a0).bind fun t23=>some t23) else some a0) else (if x8.Kind=5 then ((ce.f k a0 (ior .i64 (w64 ((w64 (a1.getD (0:Int).toNat 0))*2^(min (8:Int).toNat IntKind.i64.bits))) (w64 (a1.getD (1:Int).toNat 0))) x8.Poll).bind fun t26=>some t26) else (if x8.Kind=6 then ((bz.f a0 (ior .i64 (w64 ((w64 (a1.getD (0:Int).toNat 0))*2^(min (8:Int).toNat IntKind.i64.bits))) (w64 (a1.getD (1:Int).toNat 0)))).bind fun t29=>some t29) else (if x8.Kind=7 then (if (ior .i64 (w64 ((w64 (a1.getD (0:Int).toNat 0))*2^(min (8:Int).toNat IntKind.i64.bits))) (w64 (a1.getD (1:Int).toNat 0)))=a0.tag then (cB.j1 a0 (decide (a0.state=2))) else (cB.j1 a0 false)) else (if 0≤w64 (2+x9)∧w64 (2+x9)≤(a1.length:Int)∧(a1.length:Int)≤(a1.length:Int) then ((aS.f k a0 (ior .i64 (w64 ((w64 (a1.getD (0:Int).toNat 0))*2^(min (8:Int).toNat IntKind.i64.bits))) (w64 (a1.getD (1:Int).toNat 0))) x8 (cut a1 (w64 (2+x9)) (a1.length:Int))).bind fun t41=>some t41) else none)))))) else some a0)
end
def cB.f (k:Nat) (a0:ae) (a1:List Int):Option ae:=(if (a1.length:Int)<2 then some a0 else (if 0≤(0:Int)∧(0:Int)<(a1.length:Int) then (if 0≤(1:Int)∧(1:Int)<(a1.length:Int) then (if 0≤(2:Int)∧(2:Int)≤(a1.length:Int)∧(a1.length:Int)≤(a1.length:Int) then ((ck.f k (cut a1 (2:Int) (a1.length:Int)) a0.m).bind fun t46=>(cB.j0 k a0 a1 t46.1 t46.2.1 t46.2.2)) else none) else none) else none))
theorem cB.calls (H:cB.f k a0 a1=some r) (HS:St [ae.at b0 a0,R] w0 w) (hr1:dB R sa1 sc1 a1):Calls Tryz.prog 246 #[pt b0,vs sa1 a1.length sc1] w (Ret fun u w=>u=Value.tuple #[]∧St [ae.at b0 r,R] w0 w):=by
 refine calls_enter func246 Z Z (go ?_)
 refine V.cd H Z (fun _ H=>go ?_) (fun _ H=>go ?_)
 ·exact rt
 ·obtain ⟨c3,H⟩:=ite_n H
  obtain ⟨eb4,eo5,hh⟩:=(rdC.at 1 hr1 HS rfl).some (by decide) c3.1 c3.2;subst hh
  obtain ⟨c6,H⟩:=ite_n H
  apply V.da [] [] [(11,_),(12,_),(13,_),(14,_),(15,_),(16,_),(17,_),(18,_),(19,_),(20,_),(4,_)] mo HS
  rfl
  refine T.ff [0,1,4] (fun w HS=>?_) ⟨rd,rd,.n1 12 Z Z (fun w HS=>X.load underlying5 Z Z ((rdC.at 1 hr1 HS Z).cellI c3.1 c3.2)),rd,.n1 14 Z Z (fun w HS=>X.shl Z Z (by decide)),rd,rd,.n1 17 Z Z (fun w HS=>X.load underlying5 Z Z ((rdC.at 1 hr1 HS Z).cellI c6.1 c6.2)),rd,.n2 15 19 Z Z Z (fun w HS=>X.or Z Z),rds⟩
  refine gs ?_
  refine V.mj (σ:=Nat × aF × Int × Int) [0,1,4] (fun (nb7,x8,x9,x10) w=>St [aF.at nb7 x8,ae.at b0 a0,R] w0 w∧∃kf11,kf11≤k∧cB.j0 kf11 a0 a1 x8 x9 x10=some r) (fun (nb7,x8,x9,x10)=>[(5,pt nb7),(6,vi x9),(7,vi x10)]) ?_ ?_
  ·obtain ⟨c43,H⟩:=ite_n H
   obtain ⟨_,_,_,_,_,_,_,_,_,HS⟩:=ae.open HS
   apply V.da [6,11,12] [7,8,9,10,13,14] [(22,_),(23,_),(24,_),(25,_),(26,_),(27,_)] mo HS
   rfl
   refine T.two Z Z ⟨.mv 1,.n1 22 Z Z (fun w HS=>X.slL underlying48 inf5 Z Z c43),.mv 0,.nc 24,.fa 25 fw,.ld 26 0 underlying3,tv⟩ (T.step (es:=[11,12]) _ [(23,vs (vaddr (some ⟨eb4,eo5,none⟩) sc1 (2:Int).toNat 1) (cut a1 (2:Int) (a1.length:Int)).length (sc1-(2:Int).toNat)),(27,vi a0.m)] Z ⟨.inr ⟨Z,Z⟩,⟨.inr ⟨Z,Z⟩,tv⟩⟩ (Or.inl Z) (by intro d hd;cases hd;exact ⟨by decide,Z,Z⟩) [13,14] [0,1,2,3,4,5] Z Z Z Z Z (fun w HS=>?_)) (T.step (es:=[6,12]) _ [] Z tv (Or.inl Z) (by intro d hd;cases hd;exact ⟨by decide,Z,Z⟩) [7,8,9,10,13,14] [] Z Z Z Z Z (fun w HS=>?_))
   ·have HS:Sep.St _ w0 w:=HS
    refine Y.kl H func279 (fun _ h=>ck.calls h HS.j0 (rdC.part 7 (rdC.subM hr1 c43) Z)) ?_
    rintro t46 _ w H ⟨rfl,HS⟩
    have HS:=HS.o0
    apply T.na [(28,_),(21,_),(29,_),(30,_),(31,_)] HS
    exact nmk
    refine T.e [] [13,14] [] fun w HS=>?_
    refine ⟨_,Y.alloc (z:=Value.agg (#[vi (0),vi (0),vi (0),vb false])) HS ze161,?_⟩
    rintro _ w ⟨_,rfl,HS⟩
    refine T.nw HS ?_
    refine T.e [5,29] [] [7,8] fun w HS=>?_
    refine ⟨_,Y.storeSt (c':=#[vi t46.1.Kind,vi t46.1.Ns,vi t46.1.Nr,vb t46.1.Poll]) 0 [vi t46.1.Kind,vi t46.1.Ns,vi t46.1.Nr,vb t46.1.Poll] HS Z inf161 Z Z Z Z Z Z,?_⟩
    rintro _ w HS
    apply T.na [(6,_),(7,_)] HS
    exact nmk
    refine T.ff [0,1,4,5,6,7] fun w HS=>?_
    have HS:=(ae.close tv ((aF.close tv HS).b [1,1,1,1,1,1,1])).b [1]
    exact At.mt (_,_,_,_) ⟨HS,k,by omega,H⟩
   ·have HS:Sep.St _ w0 w:=HS
    refine ⟨_,Y.alloc (z:=Value.agg (#[vi (0),vi (0),vi (0),vb false])) HS ze161,?_⟩
    rintro _ w ⟨_,rfl,HS⟩
    refine T.nw HS ?_
    refine T.e [23,27] [13,14] [0,1,2,3,4,5] (fun w HS=>?_) ⟨rd,.n1 22 Z Z (fun w HS=>X.slL underlying48 inf5 Z Z c43),rds⟩
    refine Y.kl H func279 (fun _ h=>ck.calls h HS.j0 (rdC.part 8 (rdC.subM hr1 c43) Z)) ?_
    rintro t50 _ w H ⟨rfl,HS⟩
    have HS:=HS.o0
    apply T.na [(28,_),(21,_),(29,_),(30,_),(31,_)] HS
    exact nmk
    refine T.e [5,29] [] [7,8] fun w HS=>?_
    refine ⟨_,Y.storeSt (c':=#[vi t50.1.Kind,vi t50.1.Ns,vi t50.1.Nr,vb t50.1.Poll]) 0 [vi t50.1.Kind,vi t50.1.Ns,vi t50.1.Nr,vb t50.1.Poll] HS Z inf161 Z Z Z Z Z Z,?_⟩
    rintro _ w HS
    apply T.na [(6,_),(7,_)] HS
    exact nmk
    refine T.ff [0,1,4,5,6,7] fun w HS=>?_
    have HS:=(ae.close tv ((aF.close tv HS).b [1,1,1,1,1,1,1])).b [1]
    exact At.mt (_,_,_,_) ⟨HS,k,by omega,H⟩
  ·rintro ⟨nb7,x8,x9,x10⟩ w ⟨HS,kf11,_,H⟩
   refine go ?_
   refine V.cm H Z (fun _ H=>go ?_) (fun _ H=>go ?_)
   ·obtain ⟨_,HS⟩:=aF.open HS
    refine go ?_
    refine V.cd H Z (fun _ H=>go ?_) (fun _ H=>go ?_)
    ·have HS:=HS.b [1]
     refine W.kl H func280 (fun _ h=>bm.calls h HS.j1) ?_
     rintro _ _ w H ⟨rfl,HS⟩
     have HS:=HS.o1
     refine go ?_
     have HS:=HS.ke [0,1]
     exact rt
    ·refine V.cd H Z (fun _ H=>go ?_) (fun _ H=>go ?_)
     ·have HS:=HS.fr 1
      obtain ⟨_,_,_,_,_,_,_,_,_,HS⟩:=ae.open HS
      refine go ?_
      refine V.cd H Z (fun _ H=>go ?_) (fun _ H=>go ?_)
      ·have HS:=ae.close tv HS
       refine W.kl H func281 (fun _ h=>dV.calls h HS.j1) ?_
       rintro _ _ w H ⟨rfl,HS⟩
       have HS:=HS.o1
       refine go ?_
       have HS:=HS.ke [0,1]
       exact rt
      ·have HS:=(ae.close tv HS).ke [0,1]
       exact rt
     ·refine V.cd H Z (fun _ H=>go ?_) (fun _ H=>go ?_)
      ·have HS:=HS.b [1]
       refine W.kl H func282 (fun _ h=>ce.calls h HS.j1) ?_
       rintro _ _ w H ⟨rfl,HS⟩
       have HS:=HS.o1
       refine go ?_
       have HS:=HS.ke [0,1]
       exact rt
      ·refine V.cd H Z (fun _ H=>go ?_) (fun _ H=>go ?_)
       ·have HS:=HS.b [1]
        refine W.kl H func283 (fun _ h=>bz.calls h HS.j1) ?_
        rintro _ _ w H ⟨rfl,HS⟩
        have HS:=HS.o1
        refine go ?_
        have HS:=HS.ke [0,1]
        exact rt
       ·refine V.cd H Z (fun _ H=>?_) (fun _ H=>?_)
        ·refine V.mj (σ:=Bool) [0] (fun x32 w=>St [aF.at nb7 x8,ae.at b0 a0,R] w0 w∧cB.j1 a0 x32=some r) (fun x32=>[(87,vb x32)]) ?_ ?_
         ·refine go ?_
          have HS:=HS.fr 1
          obtain ⟨_,_,_,_,_,_,_,_,_,HS⟩:=ae.open HS
          refine go ?_
          refine W.cd 81 H Z (fun _ H=>go ?_) (fun _ H=>go ?_)
          ·have HS:=(ae.close tv ((aF.close tv (HS.b [7])).b [1,1,1,1,1,1,1])).b [1]
           exact At.mt _ ⟨HS,H⟩
          ·have HS:=(ae.close tv ((aF.close tv (HS.b [7])).b [1,1,1,1,1,1,1])).b [1]
           exact At.mt _ ⟨HS,H⟩
         ·rintro x32 w ⟨HS,H⟩
          refine V.cv H Z (fun _ H=>go ?_) (fun _ H=>go ?_)
          ·have HS:=HS.b [1]
           refine W.kl H func236 (fun _ h=>cw.calls h HS.j1) ?_
           rintro _ _ w H ⟨rfl,HS⟩
           have HS:=HS.o1
           refine go ?_
           have HS:=HS.ke [0,1]
           exact rt
          ·have HS:=HS.ke [1,1]
           exact rt
        ·obtain ⟨c40,H⟩:=ite_n H
         apply V.da [7] [] [(36,_),(37,_),(38,_),(39,_),(40,_),(41,_),(42,_)] mo HS
         rfl
         refine T.e [36,37,38,42] [] [0,1,2,3,4,5,6] (fun w HS=>?_) ⟨rd,rd,rd,rd,rd,rd,.n2 39 41 Z Z Z (fun w HS=>X.slL underlying48 inf5 Z Z c40),rds⟩
         have HS:=HS.b [1]
         refine Y.kl H func284 (fun _ h=>aS.calls h HS.j1 (rdC.part 1 (rdC.subM hr1 c40) Z)) ?_
         rintro _ _ w H ⟨rfl,HS⟩
         have HS:=HS.o1
         refine T.nw HS ?_
         refine T.ff [] fun w HS=>?_
         refine go ?_
         have HS:=HS.ke [0,1]
         exact rt
   ·have HS:=HS.ke [1,1]
    exact rt
mutual
def cF.j0 (a0:List Int) (x5:Bool):Option (Int × Int × Int):=(if x5=true then some (0,0,2) else some (w64 ((w64 (a0.getD (0:Int).toNat 0)).tdiv (16)),(w64 (a0.getD (0:Int).toNat 0)).tmod (16),0))
end
def cF.f (a0:List Int):Option (Int × Int × Int):=(if (a0.length:Int)<2 then some (0,0,3) else (if 0≤(0:Int)∧(0:Int)<(a0.length:Int) then (if (a0.length:Int)>2 then (cF.j0 a0 true) else (if 0≤(1:Int)∧(1:Int)<(a0.length:Int) then (if (a0.getD (1:Int).toNat 0)=(icom .u8 (a0.getD (0:Int).toNat 0)) then (if (w64 ((w64 (a0.getD (0:Int).toNat 0)).tdiv (16)))>8 then (cF.j0 a0 true) else (cF.j0 a0 (decide (((w64 (a0.getD (0:Int).toNat 0)).tmod (16))>1)))) else (cF.j0 a0 true)) else none)) else none))
theorem cF.calls (H:cF.f a0=some r) (HS:St [R] w0 w) (hr0:dB R sa0 sc0 a0):Calls Tryz.prog 247 #[vs sa0 a0.length sc0] w (Ret fun u w=>u=Value.tuple #[vi r.1,vi r.2.1,vi r.2.2]∧St [R] w0 w):=by
 refine calls_enter func247 Z Z (go ?_)
 refine V.cd H Z (fun _ H=>go ?_) (fun _ H=>go ?_)
 ·exact rt
 ·obtain ⟨c2,H⟩:=ite_n H
  obtain ⟨_,_,hh⟩:=(rdC.at 0 hr0 HS rfl).some (by decide) c2.1 c2.2;subst hh
  apply V.da [] [] [(10,_),(11,_),(12,_),(13,_),(14,_),(15,_),(16,_),(17,_),(18,_),(19,_),(5,_),(6,_)] mo HS
  rfl
  refine T.ff [0,5,6] (fun w HS=>?_) ⟨rd,rd,.n1 11 Z Z (fun w HS=>X.load underlying5 Z Z ((rdC.at 0 hr0 HS Z).cellI c2.1 c2.2)),rd,.n1 13 Z Z (fun w HS=>X.quo Z Z (by decide)),rd,rd,.n1 16 Z Z (fun w HS=>X.load underlying5 Z Z ((rdC.at 0 hr0 HS Z).cellI c2.1 c2.2)),rd,.n1 18 Z Z (fun w HS=>X.rem Z Z (by decide)),rds⟩
  refine gs ?_
  refine V.seq ?_
  refine V.mj (σ:=Bool) [5,6] (fun x5 w=>St [R] w0 w∧cF.j0 a0 x5=some r) (fun x5=>[(40,vb x5)]) ?_ ?_
  ·refine ite_c H (fun c8 H=>?_) (fun c8 H=>?_)
   ·apply V.da [] [] [(20,_),(21,_),(22,_),(23,_),(24,_),(25,_),(26,_),(27,_),(28,_),(29,_),(30,_),(31,_),(32,_),(33,_),(34,_),(35,_),(36,_),(37,_),(38,_),(39,_),(40,_)] mo HS
    rfl
    refine T.ff [5,6,40] fun w HS=>?_
    exact At.mt _ ⟨HS,H⟩
   ·obtain ⟨c9,H⟩:=ite_n H
    refine ite_c H (fun c10 H=>?_) (fun c10 H=>?_)
    ·refine ite_c H (fun c11 H=>?_) (fun c11 H=>?_)
     ·apply V.da [] [] [(20,_),(21,_),(22,_),(23,_),(24,_),(25,_),(26,_),(27,_),(28,_),(29,_),(30,_),(31,_),(32,_),(33,_),(34,_),(35,_),(36,_),(37,_),(38,_),(39,_),(40,_)] mo HS
      rfl
      refine T.ff [5,6,40] (fun w HS=>?_) ⟨rd,rd,rd,rd,rd,rd,.gw [(25,_),(23,_)] 3 false 23 ⟨Z,Z,tv⟩ Z (sb (dF c8)) (fun w HS=>X.load underlying5 Z Z ((rdC.at 0 hr0 HS Z).cellI c9.1 c9.2)),rd,rd,.gw [(28,_),(23,_)] 3 false 23 ⟨Z,Z,tv⟩ Z (sb (dF c8)) (fun w HS=>X.load underlying5 Z Z ((rdC.at 0 hr0 HS Z).cellI c2.1 c2.2)),.gw [(29,_),(23,_)] 3 false 23 ⟨Z,Z,tv⟩ Z (sb (dF c8)) (fun w HS=>X.com Z),rds⟩
      exact At.mt _ ⟨HS,H⟩
     ·apply V.da [] [] [(20,_),(21,_),(22,_),(23,_),(24,_),(25,_),(26,_),(27,_),(28,_),(29,_),(30,_),(31,_),(32,_),(33,_),(34,_),(35,_),(36,_),(37,_),(38,_),(39,_),(40,_)] mo HS
      rfl
      refine T.ff [5,6,40] (fun w HS=>?_) ⟨rd,rd,rd,rd,rd,rd,.gw [(25,_),(23,_)] 3 false 23 ⟨Z,Z,tv⟩ Z (sb (dF c8)) (fun w HS=>X.load underlying5 Z Z ((rdC.at 0 hr0 HS Z).cellI c9.1 c9.2)),rd,rd,.gw [(28,_),(23,_)] 3 false 23 ⟨Z,Z,tv⟩ Z (sb (dF c8)) (fun w HS=>X.load underlying5 Z Z ((rdC.at 0 hr0 HS Z).cellI c2.1 c2.2)),.gw [(29,_),(23,_)] 3 false 23 ⟨Z,Z,tv⟩ Z (sb (dF c8)) (fun w HS=>X.com Z),rds⟩
      exact At.mt _ ⟨HS,H⟩
    ·apply V.da [] [] [(20,_),(21,_),(22,_),(23,_),(24,_),(25,_),(26,_),(27,_),(28,_),(29,_),(30,_),(31,_),(32,_),(33,_),(34,_),(35,_),(36,_),(37,_),(38,_),(39,_),(40,_)] mo HS
     rfl
     refine T.ff [5,6,40] (fun w HS=>?_) ⟨rd,rd,rd,rd,rd,rd,.gw [(25,_),(23,_)] 3 false 23 ⟨Z,Z,tv⟩ Z (sb (dF c8)) (fun w HS=>X.load underlying5 Z Z ((rdC.at 0 hr0 HS Z).cellI c9.1 c9.2)),rd,rd,.gw [(28,_),(23,_)] 3 false 23 ⟨Z,Z,tv⟩ Z (sb (dF c8)) (fun w HS=>X.load underlying5 Z Z ((rdC.at 0 hr0 HS Z).cellI c2.1 c2.2)),.gw [(29,_),(23,_)] 3 false 23 ⟨Z,Z,tv⟩ Z (sb (dF c8)) (fun w HS=>X.com Z),rds⟩
     exact At.mt _ ⟨HS,H⟩
  ·rintro x5 w ⟨HS,H⟩
   refine V.cv H Z (fun _ H=>go ?_) (fun _ H=>go ?_)
   ·exact rt
   ·exact rt
def dI.f (a0:aH) (a1:Int):Option aH:=((cb.f a1).bind fun t1=>some ({a0 with remote:=t1}:aH))
theorem dI.calls (H:dI.f a0 a1=some r) (HS:St [aH.at b0 a0,R] w0 w):Calls Tryz.prog 248 #[pt b0,vi a1] w (Ret fun u w=>u=Value.tuple #[]∧St [aH.at b0 r,R] w0 w):=by
 refine calls_enter func248 Z Z (go ?_)
 refine W.kl H func190 (fun _ h=>cb.calls h HS.j0) ?_
 rintro _ _ w H ⟨rfl,HS⟩
 have HS:=HS.o0
 refine go ?_
 obtain ⟨_,HS⟩:=aH.open HS
 refine go ?_
 refine W.sr 4 HS Z Z Z fun w HS=>go ?_
 have HS:=aH.close tv HS
 exact rt
mutual
def aB.j0 (k:Nat) (a0:aa) (a1:Int) (a2:List Int) (x7:Bool):Option aa:=(if x7=true then some a0 else (if 0≤(1:Int)∧(1:Int)<(a2.length:Int) then (if 0≤(2:Int)∧(2:Int)<(a2.length:Int) then (if 0≤(3:Int)∧(3:Int)<(a2.length:Int) then (if 0≤(4:Int)∧(4:Int)<(a2.length:Int) then ((bb.f k a0.twins (ior .u32 (ior .u32 (ior .u32 (IntKind.u32.wrap ((IntKind.u32.wrap (a2.getD (1:Int).toNat 0))*2^(min (24:Int).toNat IntKind.u32.bits))) (IntKind.u32.wrap ((IntKind.u32.wrap (a2.getD (2:Int).toNat 0))*2^(min (16:Int).toNat IntKind.u32.bits)))) (IntKind.u32.wrap ((IntKind.u32.wrap (a2.getD (3:Int).toNat 0))*2^(min (8:Int).toNat IntKind.u32.bits)))) (IntKind.u32.wrap (a2.getD (4:Int).toNat 0)))).bind fun t16=>(if t16.1=true then (if 0≤(5:Int)∧(5:Int)≤(a2.length:Int)∧(a2.length:Int)≤(a2.length:Int) then ((cB.f k a0.arq (cut a2 (5:Int) (a2.length:Int))).bind fun t20=>some ({a0 with arq:=t20,twins:=t16.2}:aa)) else none) else (if 0≤a1∧a1<2 then (if a1=0 then some (({a0 with twins:=t16.2,sides:=(({a0.sides.1 with counts:=({a0.sides.1.counts with Twins:=aV.f a0.sides.1.counts.Twins}:aM)}:aU),a0.sides.2)}:aa)) else some (({a0 with twins:=t16.2,sides:=(a0.sides.1,({a0.sides.2 with counts:=({a0.sides.2.counts with Twins:=aV.f a0.sides.2.counts.Twins}:aM)}:aU))}:aa))) else none))) else none) else none) else none) else none))
def aB.j1 (a0:aa) (a2:List Int) (x34:Bool):Option aa:=(if x34=true then (if 0≤(1:Int)∧(1:Int)≤(a2.length:Int)∧(a2.length:Int)≤(a2.length:Int) then ((cF.f (cut a2 (1:Int) (a2.length:Int))).bind fun t38=>(if t38.2.2=0 then ((dI.f a0.aps t38.1).bind fun t43=>some ({a0 with aps:=t43}:aa)) else some a0)) else none) else some a0)
def aB.j2 (a0:aa) (a2:List Int) (x46:Bool):Option aa:=(if x46=true then (if 0≤(1:Int)∧(1:Int)≤(a2.length:Int)∧(a2.length:Int)≤(a2.length:Int) then ((cF.f (cut a2 (1:Int) (a2.length:Int))).bind fun t50=>(if t50.2.2=0 then ((dI.f a0.aps t50.1).bind fun t55=>some ({a0 with aps:=t55}:aa)) else some a0)) else none) else some a0)
end
def aB.f (k:Nat) (a0:aa) (a1:Int) (a2:List Int):Option aa:=(if 0≤(0:Int)∧(0:Int)<(a2.length:Int) then (if (a2.getD (0:Int).toNat 0)=0 then (if (a2.length:Int)≥5 then ((bu.f a0).bind fun t27=>(if t27=true then (aB.j0 k a0 a1 a2 false) else ((db.f a0.aps).bind fun t32=>(aB.j0 k a0 a1 a2 (!(decide (a1=t32))))))) else (if (a2.getD (0:Int).toNat 0)=1 then (aB.j1 a0 a2 (decide (a1=1))) else (aB.j1 a0 a2 false))) else (if (a2.getD (0:Int).toNat 0)=1 then (aB.j2 a0 a2 (decide (a1=1))) else (aB.j2 a0 a2 false))) else none)
theorem aB.calls (H:aB.f k a0 a1 a2=some r) (HS:St [aa.at b0 a0,R] w0 w) (hr2:dB R sa2 sc2 a2):Calls Tryz.prog 195 #[pt b0,vi a1,vs sa2 a2.length sc2] w (Ret fun u w=>u=Value.tuple #[]∧St [aa.at b0 r,R] w0 w):=by
 refine calls_enter func195 Z Z (go ?_)
 obtain ⟨c2,H⟩:=ite_n H
 obtain ⟨_,_,hh⟩:=(rdC.at 1 hr2 HS rfl).some (by decide) c2.1 c2.2;subst hh
 refine go ?_
 refine W.r (X.load underlying5 Z Z ((rdC.at 1 hr2 HS Z).cellI c2.1 c2.2)) Z (go ?_)
 refine W.cd 15 H Z (fun _ H=>go ?_) (fun _ H=>?_)
 ·refine V.cd H Z (fun _ H=>?_) (fun _ H=>?_)
  ·refine V.seq ?_
   refine V.mj (σ:=Bool) [0,1,2] (fun x7 w=>St [aa.at b0 a0,R] w0 w∧∃kf8,kf8≤k∧aB.j0 kf8 a0 a1 a2 x7=some r) (fun x7=>[(31,vb x7)]) ?_ ?_
   ·refine go ?_
    obtain ⟨_,_,_,_,_,_,_,_,_,_,HS⟩:=aa.open HS
    refine W.kl H func67 (fun _ h=>bu.calls h HS.j10) ?_
    rintro _ _ w H ⟨rfl,HS⟩
    have HS:=HS.o10
    refine go ?_
    refine W.cx 23 H Z (fun _ H=>go ?_) (fun _ H=>go ?_)
    ·have HS:=aa.close tv HS
     exact At.mt _ ⟨HS,k,by omega,H⟩
    ·have HS:=HS.fr 2
     obtain ⟨_,HS⟩:=aH.open HS
     refine W.kl H func66 (fun _ h=>db.calls h HS.j1) ?_
     rintro _ _ w H ⟨rfl,HS⟩
     have HS:=HS.o1
     refine go ?_
     have HS:=aa.close tv ((aH.close tv HS).b [1,1])
     exact At.mt _ ⟨HS,k,by omega,H⟩
   ·rintro x7 w ⟨HS,kf8,_,H⟩
    refine V.cv H Z (fun _ H=>go ?_) (fun _ H=>go ?_)
    ·exact rt
    ·obtain ⟨c10,H⟩:=ite_n H
     obtain ⟨c11,H⟩:=ite_n H
     obtain ⟨c12,H⟩:=ite_n H
     obtain ⟨c13,H⟩:=ite_n H
     apply V.da [] [] [(32,_),(33,_),(34,_),(35,_),(36,_),(37,_),(38,_),(39,_),(40,_),(41,_),(42,_),(43,_),(44,_),(45,_),(46,_),(47,_),(48,_),(49,_),(50,_),(51,_),(52,_),(53,_),(6,_)] mo HS
     rfl
     refine T.ff [0,1,2,6] (fun w HS=>?_) ⟨rd,rd,.n1 33 Z Z (fun w HS=>X.load underlying5 Z Z ((rdC.at 1 hr2 HS Z).cellI c10.1 c10.2)),rd,.n1 35 Z Z (fun w HS=>X.shl Z Z (by decide)),rd,rd,.n1 38 Z Z (fun w HS=>X.load underlying5 Z Z ((rdC.at 1 hr2 HS Z).cellI c11.1 c11.2)),rd,.n1 40 Z Z (fun w HS=>X.shl Z Z (by decide)),.n2 36 41 Z Z Z (fun w HS=>X.or Z Z),rd,rd,.n1 44 Z Z (fun w HS=>X.load underlying5 Z Z ((rdC.at 1 hr2 HS Z).cellI c12.1 c12.2)),rd,.n1 46 Z Z (fun w HS=>X.shl Z Z (by decide)),.n2 42 47 Z Z Z (fun w HS=>X.or Z Z),rd,rd,.n1 50 Z Z (fun w HS=>X.load underlying5 Z Z ((rdC.at 1 hr2 HS Z).cellI c13.1 c13.2)),rd,.n2 48 52 Z Z Z (fun w HS=>X.or Z Z),rds⟩
     refine go ?_
     obtain ⟨_,_,_,_,_,_,_,_,_,_,HS⟩:=aa.open HS
     refine go ?_
     have HS:=HS.b [3]
     refine W.kl H func245 (fun _ h=>bb.calls h HS.j1) ?_
     rintro _ _ w H ⟨rfl,HS⟩
     have HS:=HS.o1
     refine go ?_
     refine V.cv H Z (fun _ H=>?_) (fun _ H=>go ?_)
     ·obtain ⟨c19,H⟩:=ite_n H
      apply V.da [6] [] [(60,_),(61,_),(62,_),(63,_),(64,_),(65,_)] mo HS
      rfl
      refine T.e [63,65] [] [0,1,2,3,4,5] (fun w HS=>?_) ⟨rd,rd,rd,rd,rd,.n1 64 Z Z (fun w HS=>X.slL underlying48 inf5 Z Z c19),rds⟩
      have HS:=HS.b [2]
      refine Y.kl H func246 (fun _ h=>cB.calls h HS.j1 (rdC.part 9 (rdC.subM hr2 c19) Z)) ?_
      rintro _ _ w H ⟨rfl,HS⟩
      have HS:=HS.o1
      refine T.nw HS ?_
      refine T.ff [] fun w HS=>?_
      refine go ?_
      have HS:=aa.close tv (HS.b [2,0,1])
      exact rt
     ·obtain ⟨c22,H⟩:=ite_n H
      refine ite_c H (fun c23 H=>?_) (fun _ H=>?_)
      ·refine W.r (X.indexArK 0 c23 underlying101 inf100 Z Z c22.1 c22.2) Z (go ?_)
       refine W.e (Y.cl func193 (aV.cell 1 31 HS Z Z Z)) Z ?_
       rintro _ w ⟨rfl,HS⟩
       refine go ?_
       have HS:=aa.close tv (HS.b [1,1,1])
       exact rt
      ·have hk24:a1=1:=by omega
       refine W.r (X.indexArK 1 hk24 underlying101 inf100 Z Z c22.1 c22.2) Z (go ?_)
       refine W.e (Y.cl func193 (aV.cell 1 41 HS Z Z Z)) Z ?_
       rintro _ w ⟨rfl,HS⟩
       refine go ?_
       have HS:=aa.close tv (HS.b [1,1,1])
       exact rt
  ·refine V.mj (σ:=Bool) [0,2] (fun x34 w=>St [aa.at b0 a0,R] w0 w∧aB.j1 a0 a2 x34=some r) (fun x34=>[(75,vb x34)]) ?_ ?_
   ·refine go ?_
    refine W.r (X.load underlying5 Z Z ((rdC.at 1 hr2 HS Z).cellI c2.1 c2.2)) Z (go ?_)
    refine W.cd 80 H Z (fun _ H=>go ?_) (fun _ H=>go ?_)
    ·exact At.mt _ ⟨HS,H⟩
    ·exact At.mt _ ⟨HS,H⟩
   ·rintro x34 w ⟨HS,H⟩
    refine V.cv H Z (fun _ H=>go ?_) (fun _ H=>go ?_)
    ·obtain ⟨c37,H⟩:=ite_n H
     refine W.r (X.slL underlying48 inf5 Z Z c37) Z ?_
     refine W.kl H func247 (fun _ h=>cF.calls h HS.j0 (rdC.part 1 (rdC.subM hr2 c37) Z)) ?_
     rintro _ _ w H ⟨rfl,HS⟩
     have HS:=HS.o0
     refine go ?_
     refine V.cd H Z (fun _ H=>go ?_) (fun _ H=>go ?_)
     ·obtain ⟨_,_,_,_,_,_,_,_,_,_,HS⟩:=aa.open HS
      refine go ?_
      have HS:=HS.b [2]
      refine W.kl H func248 (fun _ h=>dI.calls h HS.j1) ?_
      rintro _ _ w H ⟨rfl,HS⟩
      have HS:=HS.o1
      refine go ?_
      have HS:=aa.close tv (HS.b [1,1])
      exact rt
     ·exact rt
    ·exact rt
 ·refine gs ?_
  refine V.mj (σ:=Bool) [0,2] (fun x46 w=>St [aa.at b0 a0,R] w0 w∧aB.j2 a0 a2 x46=some r) (fun x46=>[(75,vb x46)]) ?_ ?_
  ·refine go ?_
   refine W.r (X.load underlying5 Z Z ((rdC.at 1 hr2 HS Z).cellI c2.1 c2.2)) Z (go ?_)
   refine W.cd 80 H Z (fun _ H=>go ?_) (fun _ H=>go ?_)
   ·exact At.mt _ ⟨HS,H⟩
   ·exact At.mt _ ⟨HS,H⟩
  ·rintro x46 w ⟨HS,H⟩
   refine V.cv H Z (fun _ H=>go ?_) (fun _ H=>go ?_)
   ·obtain ⟨c49,H⟩:=ite_n H
    refine W.r (X.slL underlying48 inf5 Z Z c49) Z ?_
    refine W.kl H func247 (fun _ h=>cF.calls h HS.j0 (rdC.part 1 (rdC.subM hr2 c49) Z)) ?_
    rintro _ _ w H ⟨rfl,HS⟩
    have HS:=HS.o0
    refine go ?_
    refine V.cd H Z (fun _ H=>go ?_) (fun _ H=>go ?_)
    ·obtain ⟨_,_,_,_,_,_,_,_,_,_,HS⟩:=aa.open HS
     refine go ?_
     have HS:=HS.b [2]
     refine W.kl H func248 (fun _ h=>dI.calls h HS.j1) ?_
     rintro _ _ w H ⟨rfl,HS⟩
     have HS:=HS.o1
     refine go ?_
     have HS:=aa.close tv (HS.b [1,1])
     exact rt
    ·exact rt
   ·exact rt
end Go.Proofs.YtaejcbpijdacmaaGreat

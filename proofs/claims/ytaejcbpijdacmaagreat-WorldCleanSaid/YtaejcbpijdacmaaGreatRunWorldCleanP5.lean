/- WorldClean: the functions that its law reaches, as plain functions, and that the machine's calls come to what these say. Conditions: those that stand at each. -/
import Derived.Test.YtaejcbpijdacmaaGreatRunWorldCleanP4
set_option linter.all false
set_option maxRecDepth 100000
set_option maxHeartbeats 4000000
set_option synthInstance.maxSize 100000
set_option synthInstance.maxHeartbeats 1000000
namespace Go.Proofs.YtaejcbpijdacmaaGreat
open Go.RowKit Go.Proofs.YtaejcbpijdacmaaGreat.Sep Go.Proofs.YtaejcbpijdacmaaGreat.Walk Go.Proofs.Tryz
attribute [local irreducible] V W At T Code.rounds RdO RdOk
set_option autoImplicit true
set_option relaxedAutoImplicit true
def aX.f (k:Nat) (a0:aa) (a1:Int) (a2:Int):Option (Int × List Int × aa):=((cK.f a1).bind fun t2=>(if t2=true then (if 0≤a1∧a1<2 then (if a1=0 then ((aQ.f k a0.sides.1.reader a2).bind fun t9=>(if t9.1=1 then ((aE.f a0.sides.1.monitor true).bind fun t12=>((aB.f k ({a0 with sides:=(({reader:=t9.2.2,monitor:=t12.2,ring:=a0.sides.1.ring,counts:=({a0.sides.1.counts with Good:=aV.f a0.sides.1.counts.Good}:aM)}:aU),a0.sides.2)}:aa) a1 t9.2.1).bind fun t14=>some (t9.1,t9.2.1,t14))) else (if t9.1=2 then some (t9.1,t9.2.1,({a0 with sides:=(({a0.sides.1 with reader:=t9.2.2,counts:=({a0.sides.1.counts with Runts:=aV.f a0.sides.1.counts.Runts}:aM)}:aU),a0.sides.2)}:aa)) else (if t9.1=4 then ((aE.f a0.sides.1.monitor false).bind fun t18=>some (t9.1,t9.2.1,({a0 with sides:=(({reader:=t9.2.2,monitor:=t18.2,ring:=a0.sides.1.ring,counts:=({a0.sides.1.counts with Bad:=aV.f a0.sides.1.counts.Bad}:aM)}:aU),a0.sides.2)}:aa))) else (if t9.1=3 then ((aE.f a0.sides.1.monitor false).bind fun t21=>some (t9.1,t9.2.1,({a0 with sides:=(({reader:=t9.2.2,monitor:=t21.2,ring:=a0.sides.1.ring,counts:=({a0.sides.1.counts with Giants:=aV.f a0.sides.1.counts.Giants}:aM)}:aU),a0.sides.2)}:aa))) else (if t9.1=5 then ((aE.f a0.sides.1.monitor false).bind fun t24=>some (t9.1,t9.2.1,({a0 with sides:=(({reader:=t9.2.2,monitor:=t24.2,ring:=a0.sides.1.ring,counts:=({a0.sides.1.counts with Aborts:=aV.f a0.sides.1.counts.Aborts}:aM)}:aU),a0.sides.2)}:aa))) else some (t9.1,t9.2.1,({a0 with sides:=(({a0.sides.1 with reader:=t9.2.2}:aU),a0.sides.2)}:aa)))))))) else ((aQ.f k a0.sides.2.reader a2).bind fun t27=>(if t27.1=1 then ((aE.f a0.sides.2.monitor true).bind fun t30=>((aB.f k ({a0 with sides:=(a0.sides.1,({reader:=t27.2.2,monitor:=t30.2,ring:=a0.sides.2.ring,counts:=({a0.sides.2.counts with Good:=aV.f a0.sides.2.counts.Good}:aM)}:aU))}:aa) a1 t27.2.1).bind fun t32=>some (t27.1,t27.2.1,t32))) else (if t27.1=2 then some (t27.1,t27.2.1,({a0 with sides:=(a0.sides.1,({a0.sides.2 with reader:=t27.2.2,counts:=({a0.sides.2.counts with Runts:=aV.f a0.sides.2.counts.Runts}:aM)}:aU))}:aa)) else (if t27.1=4 then ((aE.f a0.sides.2.monitor false).bind fun t36=>some (t27.1,t27.2.1,({a0 with sides:=(a0.sides.1,({reader:=t27.2.2,monitor:=t36.2,ring:=a0.sides.2.ring,counts:=({a0.sides.2.counts with Bad:=aV.f a0.sides.2.counts.Bad}:aM)}:aU))}:aa))) else (if t27.1=3 then ((aE.f a0.sides.2.monitor false).bind fun t39=>some (t27.1,t27.2.1,({a0 with sides:=(a0.sides.1,({reader:=t27.2.2,monitor:=t39.2,ring:=a0.sides.2.ring,counts:=({a0.sides.2.counts with Giants:=aV.f a0.sides.2.counts.Giants}:aM)}:aU))}:aa))) else (if t27.1=5 then ((aE.f a0.sides.2.monitor false).bind fun t42=>some (t27.1,t27.2.1,({a0 with sides:=(a0.sides.1,({reader:=t27.2.2,monitor:=t42.2,ring:=a0.sides.2.ring,counts:=({a0.sides.2.counts with Aborts:=aV.f a0.sides.2.counts.Aborts}:aM)}:aU))}:aa))) else some (t27.1,t27.2.1,({a0 with sides:=(a0.sides.1,({a0.sides.2 with reader:=t27.2.2}:aU))}:aa))))))))) else none) else some (0,([]:List Int),a0)))
theorem aX.calls (H:aX.f k a0 a1 a2=some r) (HS:St [aa.at b0 a0,R] w0 w):Calls Tryz.prog 126 #[pt b0,vi a1,Value.int .u8 a2] w (Ret fun u w=>∃aq1 cq1,u=Value.tuple #[vi r.1,vs aq1 r.2.1.length cq1]∧St [rB aq1 cq1 r.2.1,aa.at b0 r.2.2,R] w0 w):=by
 refine calls_enter func126 Z Z (go ?_)
 refine W.kl H func99 (fun _ h=>cK.calls h HS.j0) ?_
 rintro _ _ w H ⟨rfl,HS⟩
 have HS:=HS.o0
 refine go ?_
 refine V.cx H Z (fun _ H=>go ?_) (fun _ H=>go ?_)
 ·obtain ⟨_,_,_,_,_,_,_,_,_,_,HS⟩:=aa.open HS
  refine go ?_
  obtain ⟨c7,H⟩:=ite_n H
  refine ite_c H (fun c8 H=>?_) (fun _ H=>?_)
  ·refine W.r (X.indexArK 0 c8 underlying101 inf100 Z Z c7.1 c7.2) Z (go ?_)
   have HS:=HS.b [4]
   refine W.kl H func192 (fun _ h=>aQ.calls h HS.j1) ?_
   rintro _ _ w H ⟨_,_,rfl,HS⟩
   have HS:=HS.o2
   refine go ?_
   refine V.cd H Z (fun _ H=>go ?_) (fun _ H=>go ?_)
   ·refine W.e (Y.cl func193 (aV.cell 2 25 HS Z Z Z)) Z ?_
    rintro _ w ⟨rfl,HS⟩
    refine go ?_
    have HS:=HS.b [6]
    refine W.kl H func194 (fun _ h=>aE.calls h HS.j1) ?_
    rintro _ _ w H ⟨rfl,HS⟩
    have HS:=HS.o1
    refine go ?_
    have HS:=aa.close tv (HS.b [3,3,3,3,2,0,1,1,1,1])
    refine W.kl H func195 (fun _ h=>aB.calls h HS.j1 (rdC.part 0 row_rd Z)) ?_
    rintro _ _ w H ⟨rfl,HS⟩
    have HS:=HS.o1
    refine go ?_
    have HS:=HS.b [1]
    exact rt
   ·refine V.cd H Z (fun _ H=>go ?_) (fun _ H=>go ?_)
    ·refine W.e (Y.cl func193 (aV.cell 2 28 HS Z Z Z)) Z ?_
     rintro _ w ⟨rfl,HS⟩
     refine go ?_
     have HS:=(aa.close tv (HS.b [2,2,2,2,1,1,1,1,1,1])).b [1]
     exact rt
    ·refine V.cd H Z (fun _ H=>go ?_) (fun _ H=>go ?_)
     ·refine W.e (Y.cl func193 (aV.cell 2 26 HS Z Z Z)) Z ?_
      rintro _ w ⟨rfl,HS⟩
      refine go ?_
      have HS:=HS.b [6]
      refine W.kl H func194 (fun _ h=>aE.calls h HS.j1) ?_
      rintro _ _ w H ⟨rfl,HS⟩
      have HS:=HS.o1
      refine go ?_
      have HS:=(aa.close tv (HS.b [3,3,3,3,2,0,1,1,1,1])).b [1]
      exact rt
     ·refine V.cd H Z (fun _ H=>go ?_) (fun _ H=>go ?_)
      ·refine W.e (Y.cl func193 (aV.cell 2 29 HS Z Z Z)) Z ?_
       rintro _ w ⟨rfl,HS⟩
       refine go ?_
       have HS:=HS.b [6]
       refine W.kl H func194 (fun _ h=>aE.calls h HS.j1) ?_
       rintro _ _ w H ⟨rfl,HS⟩
       have HS:=HS.o1
       refine go ?_
       have HS:=(aa.close tv (HS.b [3,3,3,3,2,0,1,1,1,1])).b [1]
       exact rt
      ·refine V.cd H Z (fun _ H=>go ?_) (fun _ H=>go ?_)
       ·refine W.e (Y.cl func193 (aV.cell 2 27 HS Z Z Z)) Z ?_
        rintro _ w ⟨rfl,HS⟩
        refine go ?_
        have HS:=HS.b [6]
        refine W.kl H func194 (fun _ h=>aE.calls h HS.j1) ?_
        rintro _ _ w H ⟨rfl,HS⟩
        have HS:=HS.o1
        refine go ?_
        have HS:=(aa.close tv (HS.b [3,3,3,3,2,0,1,1,1,1])).b [1]
        exact rt
       ·have HS:=(aa.close tv (HS.b [2,2,2,2,1,1,1,1,1,1])).b [1]
        exact rt
  ·have hk26:a1=1:=by omega
   refine W.r (X.indexArK 1 hk26 underlying101 inf100 Z Z c7.1 c7.2) Z (go ?_)
   have HS:=HS.b [7]
   refine W.kl H func192 (fun _ h=>aQ.calls h HS.j1) ?_
   rintro _ _ w H ⟨_,_,rfl,HS⟩
   have HS:=HS.o2
   refine go ?_
   refine V.cd H Z (fun _ H=>go ?_) (fun _ H=>go ?_)
   ·refine W.e (Y.cl func193 (aV.cell 2 35 HS Z Z Z)) Z ?_
    rintro _ w ⟨rfl,HS⟩
    refine go ?_
    have HS:=HS.b [9]
    refine W.kl H func194 (fun _ h=>aE.calls h HS.j1) ?_
    rintro _ _ w H ⟨rfl,HS⟩
    have HS:=HS.o1
    refine go ?_
    have HS:=aa.close tv (HS.b [3,3,3,3,3,3,3,2,0,1])
    refine W.kl H func195 (fun _ h=>aB.calls h HS.j1 (rdC.part 0 row_rd Z)) ?_
    rintro _ _ w H ⟨rfl,HS⟩
    have HS:=HS.o1
    refine go ?_
    have HS:=HS.b [1]
    exact rt
   ·refine V.cd H Z (fun _ H=>go ?_) (fun _ H=>go ?_)
    ·refine W.e (Y.cl func193 (aV.cell 2 38 HS Z Z Z)) Z ?_
     rintro _ w ⟨rfl,HS⟩
     refine go ?_
     have HS:=(aa.close tv (HS.b [2,2,2,2,2,2,2,1,1,1])).b [1]
     exact rt
    ·refine V.cd H Z (fun _ H=>go ?_) (fun _ H=>go ?_)
     ·refine W.e (Y.cl func193 (aV.cell 2 36 HS Z Z Z)) Z ?_
      rintro _ w ⟨rfl,HS⟩
      refine go ?_
      have HS:=HS.b [9]
      refine W.kl H func194 (fun _ h=>aE.calls h HS.j1) ?_
      rintro _ _ w H ⟨rfl,HS⟩
      have HS:=HS.o1
      refine go ?_
      have HS:=(aa.close tv (HS.b [3,3,3,3,3,3,3,2,0,1])).b [1]
      exact rt
     ·refine V.cd H Z (fun _ H=>go ?_) (fun _ H=>go ?_)
      ·refine W.e (Y.cl func193 (aV.cell 2 39 HS Z Z Z)) Z ?_
       rintro _ w ⟨rfl,HS⟩
       refine go ?_
       have HS:=HS.b [9]
       refine W.kl H func194 (fun _ h=>aE.calls h HS.j1) ?_
       rintro _ _ w H ⟨rfl,HS⟩
       have HS:=HS.o1
       refine go ?_
       have HS:=(aa.close tv (HS.b [3,3,3,3,3,3,3,2,0,1])).b [1]
       exact rt
      ·refine V.cd H Z (fun _ H=>go ?_) (fun _ H=>go ?_)
       ·refine W.e (Y.cl func193 (aV.cell 2 37 HS Z Z Z)) Z ?_
        rintro _ w ⟨rfl,HS⟩
        refine go ?_
        have HS:=HS.b [9]
        refine W.kl H func194 (fun _ h=>aE.calls h HS.j1) ?_
        rintro _ _ w H ⟨rfl,HS⟩
        have HS:=HS.o1
        refine go ?_
        have HS:=(aa.close tv (HS.b [3,3,3,3,3,3,3,2,0,1])).b [1]
        exact rt
       ·have HS:=(aa.close tv (HS.b [2,2,2,2,2,2,2,1,1,1])).b [1]
        exact rt
 ·have HS:=row_nilF (Value.int .u8) 5 1 HS
  exact rt
mutual
def av.l4:Nat→(List Int × au)→Int→ah→Option ah
 |0,_,_,_=>none
 |k+1,t75,x79,x80=>(if x79<(t75.1.length:Int) then (if 0≤x79∧x79<(t75.1.length:Int) then ((aX.f k x80.stations.2 0 (t75.1.getD x79.toNat 0)).bind fun t89=>(if t89.1=1 then (if (x80.ways.1.1.got.length:Int)+(([t89.2.1]:List (List Int))).length≤1099511627776 then (av.l4 k t75 (w64 (x79+1)) ({x80 with stations:=(x80.stations.1,t89.2.2),ways:=((({x80.ways.1.1 with got:=x80.ways.1.1.got++([t89.2.1]:List (List Int))}:bL),x80.ways.1.2),x80.ways.2)}:ah)) else none) else (av.l4 k t75 (w64 (x79+1)) ({x80 with stations:=(x80.stations.1,t89.2.2)}:ah)))) else none) else ((bC.f x80.ways.1.2.pipe x80.c.Rate).bind fun t100=>(av.l5 k t100 0 ({x80 with ways:=((x80.ways.1.1,({x80.ways.1.2 with pipe:=t100.2}:bL)),x80.ways.2)}:ah))))
def av.l5:Nat→(List Int × au)→Int→ah→Option ah
 |0,_,_,_=>none
 |k+1,t100,x125,x126=>(if x125<(t100.1.length:Int) then (if 0≤x125∧x125<(t100.1.length:Int) then ((aX.f k x126.stations.1 0 (t100.1.getD x125.toNat 0)).bind fun t135=>(if t135.1=1 then (if (x126.ways.1.2.got.length:Int)+(([t135.2.1]:List (List Int))).length≤1099511627776 then (av.l5 k t100 (w64 (x125+1)) ({x126 with stations:=(t135.2.2,x126.stations.2),ways:=((x126.ways.1.1,({x126.ways.1.2 with got:=x126.ways.1.2.got++([t135.2.1]:List (List Int))}:bL)),x126.ways.2)}:ah)) else none) else (av.l5 k t100 (w64 (x125+1)) ({x126 with stations:=(t135.2.2,x126.stations.2)}:ah)))) else none) else ((bC.f x126.ways.2.1.pipe x126.c.Rate).bind fun t146=>(av.l6 k t146 0 ({x126 with ways:=(x126.ways.1,(({x126.ways.2.1 with pipe:=t146.2}:bL),x126.ways.2.2))}:ah))))
def av.l6:Nat→(List Int × au)→Int→ah→Option ah
 |0,_,_,_=>none
 |k+1,t146,x171,x172=>(if x171<(t146.1.length:Int) then (if 0≤x171∧x171<(t146.1.length:Int) then ((aX.f k x172.stations.2 1 (t146.1.getD x171.toNat 0)).bind fun t181=>(if t181.1=1 then (if (x172.ways.2.1.got.length:Int)+(([t181.2.1]:List (List Int))).length≤1099511627776 then (av.l6 k t146 (w64 (x171+1)) ({x172 with stations:=(x172.stations.1,t181.2.2),ways:=(x172.ways.1,(({x172.ways.2.1 with got:=x172.ways.2.1.got++([t181.2.1]:List (List Int))}:bL),x172.ways.2.2))}:ah)) else none) else (av.l6 k t146 (w64 (x171+1)) ({x172 with stations:=(x172.stations.1,t181.2.2)}:ah)))) else none) else ((bC.f x172.ways.2.2.pipe x172.c.Rate).bind fun t192=>(av.l7 k t192 0 ({x172 with ways:=(x172.ways.1,(x172.ways.2.1,({x172.ways.2.2 with pipe:=t192.2}:bL)))}:ah))))
def av.l7:Nat→(List Int × au)→Int→ah→Option ah
 |0,_,_,_=>none
 |k+1,t192,x217,x218=>(if x217<(t192.1.length:Int) then (if 0≤x217∧x217<(t192.1.length:Int) then ((aX.f k x218.stations.1 1 (t192.1.getD x217.toNat 0)).bind fun t227=>(if t227.1=1 then (if (x218.ways.2.2.got.length:Int)+(([t227.2.1]:List (List Int))).length≤1099511627776 then (av.l7 k t192 (w64 (x217+1)) ({x218 with stations:=(t227.2.2,x218.stations.2),ways:=(x218.ways.1,(x218.ways.2.1,({x218.ways.2.2 with got:=x218.ways.2.2.got++([t227.2.1]:List (List Int))}:bL)))}:ah)) else none) else (av.l7 k t192 (w64 (x217+1)) ({x218 with stations:=(t227.2.2,x218.stations.2)}:ah)))) else none) else some (({x218 with now:=w64 (x218.now+1)}:ah)))
def av.j3 (k:Nat) (a0:ah) (t28:(List (List Int) × List (List Int)) × aa) (t40:(List (List Int) × List (List Int)) × aa) (t55:Int × au) (t59:List Int × aa) (t61:Int × au) (t65:List Int × aa) (t67:Int × au) (x70:Int):Option ah:=((bn.f k t59.2 1 x70).bind fun t71=>((cq.f a0.ways.2.2.pipe t71.1).bind fun t73=>((bC.f t55.2 a0.c.Rate).bind fun t75=>(av.l4 k t75 0 ({a0 with stations:=(t65.2,t71.2),ways:=((({pipe:=t75.2,sent:=a0.ways.1.1.sent++t28.1.1,got:=a0.ways.1.1.got}:bL),({pipe:=t61.2,sent:=a0.ways.1.2.sent++t40.1.1,got:=a0.ways.1.2.got}:bL)),(({pipe:=t67.2,sent:=a0.ways.2.1.sent++t28.1.2,got:=a0.ways.2.1.got}:bL),({pipe:=t73.2,sent:=a0.ways.2.2.sent++t40.1.2,got:=a0.ways.2.2.got}:bL)))}:ah)))))
def av.j2 (k:Nat) (a0:ah) (t28:(List (List Int) × List (List Int)) × aa) (t40:(List (List Int) × List (List Int)) × aa) (t53:List Int × aa) (t55:Int × au) (t59:List Int × aa) (t61:Int × au) (x64:Int):Option ah:=((bn.f k t53.2 1 x64).bind fun t65=>((cq.f a0.ways.2.1.pipe t65.1).bind fun t67=>((cE.f a0.ways.2.2.pipe).bind fun t240=>(if t240=true then (av.j3 k a0 t28 t40 t55 t59 t61 t65 t67 a0.c.Rate) else ((bQ.f a0.ways.2.2.pipe).bind fun t243=>(av.j3 k a0 t28 t40 t55 t59 t61 t65 t67 (imin a0.c.Rate t243)))))))
def av.j1 (k:Nat) (a0:ah) (t28:(List (List Int) × List (List Int)) × aa) (t40:(List (List Int) × List (List Int)) × aa) (t53:List Int × aa) (t55:Int × au) (x58:Int):Option ah:=((bn.f k t40.2 0 x58).bind fun t59=>((cq.f a0.ways.1.2.pipe t59.1).bind fun t61=>((cE.f a0.ways.2.1.pipe).bind fun t247=>(if t247=true then (av.j2 k a0 t28 t40 t53 t55 t59 t61 a0.c.Rate) else ((bQ.f a0.ways.2.1.pipe).bind fun t250=>(av.j2 k a0 t28 t40 t53 t55 t59 t61 (imin a0.c.Rate t250)))))))
def av.j0 (k:Nat) (a0:ah) (t28:(List (List Int) × List (List Int)) × aa) (t40:(List (List Int) × List (List Int)) × aa) (x52:Int):Option ah:=((bn.f k t28.2 0 x52).bind fun t53=>((cq.f a0.ways.1.1.pipe t53.1).bind fun t55=>((cE.f a0.ways.1.2.pipe).bind fun t254=>(if t254=true then (av.j1 k a0 t28 t40 t53 t55 a0.c.Rate) else ((bQ.f a0.ways.1.2.pipe).bind fun t257=>(av.j1 k a0 t28 t40 t53 t55 (imin a0.c.Rate t257)))))))
end
def av.f (k:Nat) (a0:ah):Option ah:=((aq.f k a0.stations.1).bind fun t28=>(if (a0.ways.1.1.sent.length:Int)+t28.1.1.length≤1099511627776 then (if (a0.ways.2.1.sent.length:Int)+t28.1.2.length≤1099511627776 then ((aq.f k a0.stations.2).bind fun t40=>(if (a0.ways.1.2.sent.length:Int)+t40.1.1.length≤1099511627776 then (if (a0.ways.2.2.sent.length:Int)+t40.1.2.length≤1099511627776 then ((cE.f a0.ways.1.1.pipe).bind fun t261=>(if t261=true then (av.j0 k a0 t28 t40 a0.c.Rate) else ((bQ.f a0.ways.1.1.pipe).bind fun t264=>(av.j0 k a0 t28 t40 (imin a0.c.Rate t264))))) else none) else none)) else none) else none))
theorem av.calls (H:av.f k a0=some r) (HS:St [ah.at b0 a0,R] w0 w):Calls Tryz.prog 15 #[pt b0] w (Ret fun u w=>u=Value.tuple #[]∧St [ah.at b0 r,R] w0 w):=by
 refine calls_enter func15 Z Z (go ?_)
 refine W.e (Y.box HS Z) Z ?_
 rintro _ w ⟨nb1,rfl,HS⟩
 refine go ?_
 have HS:=HS.fr 1
 obtain ⟨b16_4,b17_4,b18_4,_,_,d19_4,a20_4,c20_4,d20_4,b21_4,_,_,d22_4,a23_4,c23_4,d23_4,b24_4,_,_,d25_4,a26_4,c26_4,d26_4,b27_4,_,_,d28_4,a29_4,c29_4,d29_4,_,HS⟩:=ah.open HS
 refine go ?_
 refine V.rs 2 [(1,pt nb1),(9,Value.agg #[pt b16_4,pt b17_4]),(10,vi (0))] (go ?_)
 refine W.r (X.ixK (pt b16_4) Z Z (fun _=>by kernel_rfl)) Z (go ?_)
 have HS:=HS.b [1]
 refine W.kl H func55 (fun _ h=>aq.calls h HS.j1) ?_
 rintro t28 _ w H ⟨at28_0_0,ct28_0_0,dt28_0_0,at28_0_1,ct28_0_1,dt28_0_1,rfl,HS⟩
 have HS:=HS.o5
 refine go ?_
 refine V.rs 2 [(1,pt nb1),(2,vi (0)),(9,Value.agg #[pt b16_4,pt b17_4]),(10,vi (0)),(15,Value.agg #[vs at28_0_0 t28.1.1.length ct28_0_0,vs at28_0_1 t28.1.2.length ct28_0_1]),(16,vi (0))] (go ?_)
 refine W.r (X.ixK (vs at28_0_0 t28.1.1.length ct28_0_0) Z Z (fun _=>by kernel_rfl)) Z (go ?_)
 apply V.da [13,19] [17,18] [(20,_),(21,_),(22,_),(23,_),(24,_),(25,_),(26,_),(27,_),(28,_),(29,_),(30,_),(31,_),(32,_),(34,_),(35,_),(36,_)] mo HS
 rfl
 refine T.e [31,32] [] [3,4,5,6,7,8,9,10,11,12] fun w HS=>?_
 obtain ⟨_,H⟩:=ite_n H
 refine ⟨_,Y.app (xs:=a0.ways.1.1.sent) (ys:=t28.1.1) 8 underlying35 ap48 Z (by decide) HS Z Z Z (rdC.at 0 row_rd HS Z) (St.tie_one 1 HS Z) (by omega) (by omega),?_⟩
 rintro _ w ⟨ra35,rc36,rfl,HS⟩
 have HS:=St.tie_app 2 (HS.fr 9) rfl
 apply T.na [(33,_),(37,_),(38,_)] HS
 exact nmk
 refine T.e [33,38] [] [0,1,2,14,15,16,17,18] fun w HS=>?_
 refine Y.sr 19 HS Z Z Z fun _ w HS=>?_
 refine T.nn HS ?_
 refine T.ff [1,2,9,10,15,16] fun w HS=>?_
 refine go ?_
 refine At.ow [(1,pt nb1),(2,vi (0)),(9,Value.agg #[pt b16_4,pt b17_4]),(10,vi (0)),(15,Value.agg #[vs at28_0_0 t28.1.1.length ct28_0_0,vs at28_0_1 t28.1.2.length ct28_0_1]),(16,vi (1))] (go ?_)
 refine W.r (X.ixK (vs at28_0_1 t28.1.2.length ct28_0_1) Z Z (fun _=>by kernel_rfl)) Z (go ?_)
 apply V.da [13,19] [17,18] [(20,_),(21,_),(22,_),(23,_),(24,_),(25,_),(26,_),(27,_),(28,_),(29,_),(30,_),(31,_),(32,_),(34,_),(35,_),(36,_)] mo HS
 rfl
 refine T.e [31,32] [] [3,4,5,6,7,8,9,10,11,12] fun w HS=>?_
 obtain ⟨_,H⟩:=ite_n H
 refine ⟨_,Y.app (xs:=a0.ways.2.1.sent) (ys:=t28.1.2) 18 underlying35 ap48 Z (by decide) HS Z Z Z (rdC.at 3 row_rd HS Z) (St.tie_one 4 HS Z) (by omega) (by omega),?_⟩
 rintro _ w ⟨ra38,rc39,rfl,HS⟩
 have HS:=St.tie_app 5 (HS.fr 19) rfl
 apply T.na [(33,_),(37,_),(38,_)] HS
 exact nmk
 refine T.e [33,38] [] [0,1,2,14,15,16,17,18] fun w HS=>?_
 refine Y.sr 25 HS Z Z Z fun _ w HS=>?_
 refine T.nn HS ?_
 refine T.ff [1,2,9,10,15,16] fun w HS=>?_
 refine go ?_
 refine At.ow [(1,pt nb1),(2,vi (0)),(9,Value.agg #[pt b16_4,pt b17_4]),(10,vi (0)),(15,Value.agg #[vs at28_0_0 t28.1.1.length ct28_0_0,vs at28_0_1 t28.1.2.length ct28_0_1]),(16,vi (2))] (go ?_)
 refine At.ow [(1,pt nb1),(9,Value.agg #[pt b16_4,pt b17_4]),(10,vi (1))] (go ?_)
 refine W.r (X.ixK (pt b17_4) Z Z (fun _=>by kernel_rfl)) Z (go ?_)
 have HS:=HS.b [8]
 refine W.kl H func55 (fun _ h=>aq.calls h HS.j1) ?_
 rintro t40 _ w H ⟨at40_0_0,ct40_0_0,dt40_0_0,at40_0_1,ct40_0_1,dt40_0_1,rfl,HS⟩
 have HS:=HS.o5
 refine go ?_
 refine V.rs 2 [(1,pt nb1),(2,vi (1)),(9,Value.agg #[pt b16_4,pt b17_4]),(10,vi (1)),(15,Value.agg #[vs at40_0_0 t40.1.1.length ct40_0_0,vs at40_0_1 t40.1.2.length ct40_0_1]),(16,vi (0))] (go ?_)
 refine W.r (X.ixK (vs at40_0_0 t40.1.1.length ct40_0_0) Z Z (fun _=>by kernel_rfl)) Z (go ?_)
 apply V.da [13,19] [17,18] [(20,_),(21,_),(22,_),(23,_),(24,_),(25,_),(26,_),(27,_),(28,_),(29,_),(30,_),(31,_),(32,_),(34,_),(35,_),(36,_)] mo HS
 rfl
 refine T.e [31,32] [] [3,4,5,6,7,8,9,10,11,12] fun w HS=>?_
 obtain ⟨_,H⟩:=ite_n H
 refine ⟨_,Y.app (xs:=a0.ways.1.2.sent) (ys:=t40.1.1) 18 underlying35 ap48 Z (by decide) HS Z Z Z (rdC.at 0 row_rd HS Z) (St.tie_one 1 HS Z) (by omega) (by omega),?_⟩
 rintro _ w ⟨ra47,rc48,rfl,HS⟩
 have HS:=St.tie_app 2 (HS.fr 19) rfl
 apply T.na [(33,_),(37,_),(38,_)] HS
 exact nmk
 refine T.e [33,38] [] [0,1,2,14,15,16,17,18] fun w HS=>?_
 refine Y.sr 22 HS Z Z Z fun _ w HS=>?_
 refine T.nn HS ?_
 refine T.ff [1,2,9,10,15,16] fun w HS=>?_
 refine go ?_
 refine At.ow [(1,pt nb1),(2,vi (1)),(9,Value.agg #[pt b16_4,pt b17_4]),(10,vi (1)),(15,Value.agg #[vs at40_0_0 t40.1.1.length ct40_0_0,vs at40_0_1 t40.1.2.length ct40_0_1]),(16,vi (1))] (go ?_)
 refine W.r (X.ixK (vs at40_0_1 t40.1.2.length ct40_0_1) Z Z (fun _=>by kernel_rfl)) Z (go ?_)
 apply V.da [13,19] [17,18] [(20,_),(21,_),(22,_),(23,_),(24,_),(25,_),(26,_),(27,_),(28,_),(29,_),(30,_),(31,_),(32,_),(34,_),(35,_),(36,_)] mo HS
 rfl
 refine T.e [31,32] [] [3,4,5,6,7,8,9,10,11,12] fun w HS=>?_
 obtain ⟨_,H⟩:=ite_n H
 refine ⟨_,Y.app (xs:=a0.ways.2.2.sent) (ys:=t40.1.2) 27 underlying35 ap48 Z (by decide) HS Z Z Z (rdC.at 3 row_rd HS Z) (St.tie_one 4 HS Z) (by omega) (by omega),?_⟩
 rintro _ w ⟨ra50,rc51,rfl,HS⟩
 have HS:=St.tie_app 5 (HS.fr 28) rfl
 apply T.na [(33,_),(37,_),(38,_)] HS
 exact nmk
 refine T.e [33,38] [] [0,1,2,14,15,16,17,18] fun w HS=>?_
 refine Y.sr 28 HS Z Z Z fun _ w HS=>?_
 refine T.nn HS ?_
 refine T.ff [1,2,9,10,15,16] fun w HS=>?_
 refine go ?_
 refine At.ow [(1,pt nb1),(2,vi (1)),(9,Value.agg #[pt b16_4,pt b17_4]),(10,vi (1)),(15,Value.agg #[vs at40_0_0 t40.1.1.length ct40_0_0,vs at40_0_1 t40.1.2.length ct40_0_1]),(16,vi (2))] (go ?_)
 refine At.ow [(1,pt nb1),(9,Value.agg #[pt b16_4,pt b17_4]),(10,vi (2))] (go ?_)
 refine W.r (X.mkFunc Z) Z ?_
 refine W.inl (Y.cl (vs:=[pt b0,Value.func (.func 57) #[] #[pt nb1]]) func56 (calls_enter func56 Z Z ?_)) Z Z Z
 refine go ?_
 refine V.rs 2 [(0,pt b0),(1,Value.func (.func 57) #[] #[pt nb1]),(6,vi (0))] (go ?_)
 refine V.rs 2 [(0,pt b0),(1,Value.func (.func 57) #[] #[pt nb1]),(4,vi (0)),(6,vi (0)),(9,vi (0))] (go ?_)
 refine W.inl (Y.callV (vs:=[vi (0),vi (0),po b0 (0+18+0*6+0*3)]) (cs:=[pt nb1]) Z func57 (by kernel_rfl) Z Z (calls_enter func57 Z Z ?_)) Z Z Z
 apply V.da [13,14,15] [] [(7,_),(8,_),(9,_),(10,_),(11,_),(12,_),(13,_),(14,_),(15,_),(16,_),(17,_),(18,_),(19,_)] mo HS
 rfl
 refine T.e [18,19] [] [11,12] fun w HS=>?_
 refine ⟨(fun u w=>∃z:Int,u=vi z∧Sep.St [tie (El.sl (El.int .u8)) (d28_4++dt40_0_1) (a0.ways.2.2.sent++t40.1.2),tie (El.sl (El.int .u8)) (d22_4++dt40_0_0) (a0.ways.1.2.sent++t40.1.1),row 48 1 (.slice at40_0_0 t40.1.1.length ct40_0_0) t40.1.1.length dt40_0_0,tie (El.sl (El.int .u8)) dt40_0_0 t40.1.1,row 48 1 (.slice at40_0_1 t40.1.2.length ct40_0_1) t40.1.2.length dt40_0_1,tie (El.sl (El.int .u8)) dt40_0_1 t40.1.2,aa.at b17_4 t40.2,tie (El.sl (El.int .u8)) (d25_4++dt28_0_1) (a0.ways.2.1.sent++t28.1.2),tie (El.sl (El.int .u8)) (d19_4++dt28_0_0) (a0.ways.1.1.sent++t28.1.1),row 48 1 (.slice at28_0_0 t28.1.1.length ct28_0_0) t28.1.1.length dt28_0_0,tie (El.sl (El.int .u8)) dt28_0_0 t28.1.1,row 48 1 (.slice at28_0_1 t28.1.2.length ct28_0_1) t28.1.2.length dt28_0_1,tie (El.sl (El.int .u8)) dt28_0_1 t28.1.2,aa.at b16_4 t28.2,blk b0 (#[vi a0.c.Mode,vi a0.c.Modulus,vi a0.c.Window,vi a0.c.T1,vi a0.c.N2,vi a0.c.Hold,vi a0.c.Wait,vi a0.c.Keep,vi a0.c.Queue,vi a0.c.Size,vi a0.c.Ring,vi a0.c.Rate,vi a0.c.Bad,vi a0.c.Good,vb a0.c.Revert,vb a0.c.Wide,pt b16_4,pt b17_4,pt b18_4,vs ra35 (a0.ways.1.1.sent++t28.1.1).length rc36,vs a20_4 a0.ways.1.1.got.length c20_4,pt b21_4,vs ra47 (a0.ways.1.2.sent++t40.1.1).length rc48,vs a23_4 a0.ways.1.2.got.length c23_4,pt b24_4,vs ra38 (a0.ways.2.1.sent++t28.1.2).length rc39,vs a26_4 a0.ways.2.1.got.length c26_4,pt b27_4,vs ra50 (a0.ways.2.2.sent++t40.1.2).length rc51,vs a29_4 a0.ways.2.2.got.length c29_4,vi a0.now]) 83,au.at b18_4 a0.ways.1.1.pipe,row 48 1 (.slice ra35 (a0.ways.1.1.sent++t28.1.1).length rc36) (a0.ways.1.1.sent++t28.1.1).length (d19_4++dt28_0_0),row 48 1 (.slice a20_4 a0.ways.1.1.got.length c20_4) a0.ways.1.1.got.length d20_4,tie (El.sl (El.int .u8)) d20_4 a0.ways.1.1.got,au.at b21_4 a0.ways.1.2.pipe,row 48 1 (.slice ra47 (a0.ways.1.2.sent++t40.1.1).length rc48) (a0.ways.1.2.sent++t40.1.1).length (d22_4++dt40_0_0),row 48 1 (.slice a23_4 a0.ways.1.2.got.length c23_4) a0.ways.1.2.got.length d23_4,tie (El.sl (El.int .u8)) d23_4 a0.ways.1.2.got,au.at b24_4 a0.ways.2.1.pipe,row 48 1 (.slice ra38 (a0.ways.2.1.sent++t28.1.2).length rc39) (a0.ways.2.1.sent++t28.1.2).length (d25_4++dt28_0_1),row 48 1 (.slice a26_4 a0.ways.2.1.got.length c26_4) a0.ways.2.1.got.length d26_4,tie (El.sl (El.int .u8)) d26_4 a0.ways.2.1.got,au.at b27_4 a0.ways.2.2.pipe,row 48 1 (.slice ra50 (a0.ways.2.2.sent++t40.1.2).length rc51) (a0.ways.2.2.sent++t40.1.2).length (d28_4++dt40_0_1),row 48 1 (.slice a29_4 a0.ways.2.2.got.length c29_4) a0.ways.2.2.got.length d29_4,tie (El.sl (El.int .u8)) d29_4 a0.ways.2.2.got,blk nb1 (#[pt b0]) 25,R] w0 w∧av.j0 k a0 t28 t40 z=some r),Y.cl (vs:=[pt b0,po b0 (0+18+0*6+0*3)]) func60 (calls_enter func60 Z Z ?_),?_⟩
 ·refine go ?_
  have HS:=HS.fr 15
  obtain ⟨_,_,_,HS⟩:=au.open HS
  refine W.kl H func125 (fun _ h=>cE.calls h HS.j2) ?_
  rintro _ _ w H ⟨rfl,HS⟩
  have HS:=HS.o2
  refine go ?_
  refine V.cv H Z (fun _ H=>go ?_) (fun _ H=>go ?_)
  ·refine At.ret1 Z Z ⟨_,Z,?_⟩
   have HS:=(au.close tv HS).b [1,1,1,1,1,1,1,1,1,1,1,1,1,1,1]
   exact ⟨a0.c.Rate,Z,HS,H⟩
  ·apply V.da [9] [10,11] [(15,_),(16,_),(17,_),(18,_),(19,_),(20,_),(21,_),(22,_),(23,_)] mo HS
   rfl
   refine T.e [23] [] [5,6,7,8] fun w HS=>?_
   refine Y.kl H func110 (fun _ h=>bQ.calls h HS.j2) ?_
   rintro t264 _ w H ⟨rfl,HS⟩
   have HS:=HS.o2
   apply T.na [(24,_),(25,_),(4,_)] HS
   exact nmk
   refine T.ff [4] (fun w HS=>?_) ⟨rd,rd,rd,rd,rd,.n2 19 24 Z Z Z (fun w HS=>X.min2 Z Z),rds⟩
   refine go ?_
   refine At.ret1 Z Z ⟨_,Z,?_⟩
   have HS:=(au.close tv HS).b [1,1,1,1,1,1,1,1,1,1,1,1,1,1,1]
   exact ⟨imin a0.c.Rate t264,Z,HS,H⟩
 ·rintro _ w ⟨_,rfl,HS,H⟩
  refine T.nw HS ?_
  refine T.e [16,17,20] [] [4,5,6,7,8,9,10] fun w HS=>?_
  have HS:=HS.b [13]
  refine Y.kl H func59 (fun _ h=>bn.calls h HS.j1) ?_
  rintro t53 _ w H ⟨at53_0,ct53_0,rfl,HS⟩
  have HS:=HS.o2
  refine T.nw HS ?_
  refine T.e [10,21] [] [0,1,2,3] fun w HS=>?_
  have HS:=HS.b [16]
  refine Y.kl H func58 (fun _ h=>cq.calls h HS.j1 (rdC.part 0 row_rd Z)) ?_
  rintro t55 _ w H ⟨rfl,HS⟩
  have HS:=HS.o1
  refine T.nw HS ?_
  refine T.ff [] fun w HS=>?_
  refine At.end0 Z ⟨_,Z,?_⟩
  refine go ?_
  refine At.ow [(0,pt b0),(1,Value.func (.func 57) #[] #[pt nb1]),(4,vi (0)),(6,vi (0)),(9,vi (1))] (go ?_)
  refine W.inl (Y.callV (vs:=[vi (0),vi (1),po b0 (0+18+0*6+1*3)]) (cs:=[pt nb1]) Z func57 (by kernel_rfl) Z Z (calls_enter func57 Z Z ?_)) Z Z Z
  apply V.da [13,14,15] [] [(7,_),(8,_),(9,_),(10,_),(11,_),(12,_),(13,_),(14,_),(15,_),(16,_),(17,_),(18,_),(19,_)] mo HS
  rfl
  refine T.e [18,19] [] [11,12] fun w HS=>?_
  refine ⟨(fun u w=>∃z:Int,u=vi z∧Sep.St [au.at b18_4 t55.2,row 5 1 (.slice at53_0 t53.1.length ct53_0) t53.1.length (t53.1.map (Value.int .u8)),aa.at b16_4 t53.2,tie (El.sl (El.int .u8)) (d28_4++dt40_0_1) (a0.ways.2.2.sent++t40.1.2),tie (El.sl (El.int .u8)) (d22_4++dt40_0_0) (a0.ways.1.2.sent++t40.1.1),row 48 1 (.slice at40_0_0 t40.1.1.length ct40_0_0) t40.1.1.length dt40_0_0,tie (El.sl (El.int .u8)) dt40_0_0 t40.1.1,row 48 1 (.slice at40_0_1 t40.1.2.length ct40_0_1) t40.1.2.length dt40_0_1,tie (El.sl (El.int .u8)) dt40_0_1 t40.1.2,aa.at b17_4 t40.2,tie (El.sl (El.int .u8)) (d25_4++dt28_0_1) (a0.ways.2.1.sent++t28.1.2),tie (El.sl (El.int .u8)) (d19_4++dt28_0_0) (a0.ways.1.1.sent++t28.1.1),row 48 1 (.slice at28_0_0 t28.1.1.length ct28_0_0) t28.1.1.length dt28_0_0,tie (El.sl (El.int .u8)) dt28_0_0 t28.1.1,row 48 1 (.slice at28_0_1 t28.1.2.length ct28_0_1) t28.1.2.length dt28_0_1,tie (El.sl (El.int .u8)) dt28_0_1 t28.1.2,blk b0 (#[vi a0.c.Mode,vi a0.c.Modulus,vi a0.c.Window,vi a0.c.T1,vi a0.c.N2,vi a0.c.Hold,vi a0.c.Wait,vi a0.c.Keep,vi a0.c.Queue,vi a0.c.Size,vi a0.c.Ring,vi a0.c.Rate,vi a0.c.Bad,vi a0.c.Good,vb a0.c.Revert,vb a0.c.Wide,pt b16_4,pt b17_4,pt b18_4,vs ra35 (a0.ways.1.1.sent++t28.1.1).length rc36,vs a20_4 a0.ways.1.1.got.length c20_4,pt b21_4,vs ra47 (a0.ways.1.2.sent++t40.1.1).length rc48,vs a23_4 a0.ways.1.2.got.length c23_4,pt b24_4,vs ra38 (a0.ways.2.1.sent++t28.1.2).length rc39,vs a26_4 a0.ways.2.1.got.length c26_4,pt b27_4,vs ra50 (a0.ways.2.2.sent++t40.1.2).length rc51,vs a29_4 a0.ways.2.2.got.length c29_4,vi a0.now]) 83,row 48 1 (.slice ra35 (a0.ways.1.1.sent++t28.1.1).length rc36) (a0.ways.1.1.sent++t28.1.1).length (d19_4++dt28_0_0),row 48 1 (.slice a20_4 a0.ways.1.1.got.length c20_4) a0.ways.1.1.got.length d20_4,tie (El.sl (El.int .u8)) d20_4 a0.ways.1.1.got,au.at b21_4 a0.ways.1.2.pipe,row 48 1 (.slice ra47 (a0.ways.1.2.sent++t40.1.1).length rc48) (a0.ways.1.2.sent++t40.1.1).length (d22_4++dt40_0_0),row 48 1 (.slice a23_4 a0.ways.1.2.got.length c23_4) a0.ways.1.2.got.length d23_4,tie (El.sl (El.int .u8)) d23_4 a0.ways.1.2.got,au.at b24_4 a0.ways.2.1.pipe,row 48 1 (.slice ra38 (a0.ways.2.1.sent++t28.1.2).length rc39) (a0.ways.2.1.sent++t28.1.2).length (d25_4++dt28_0_1),row 48 1 (.slice a26_4 a0.ways.2.1.got.length c26_4) a0.ways.2.1.got.length d26_4,tie (El.sl (El.int .u8)) d26_4 a0.ways.2.1.got,au.at b27_4 a0.ways.2.2.pipe,row 48 1 (.slice ra50 (a0.ways.2.2.sent++t40.1.2).length rc51) (a0.ways.2.2.sent++t40.1.2).length (d28_4++dt40_0_1),row 48 1 (.slice a29_4 a0.ways.2.2.got.length c29_4) a0.ways.2.2.got.length d29_4,tie (El.sl (El.int .u8)) d29_4 a0.ways.2.2.got,blk nb1 (#[pt b0]) 25,R] w0 w∧av.j1 k a0 t28 t40 t53 t55 z=some r),Y.cl (vs:=[pt b0,po b0 (0+18+0*6+1*3)]) func60 (calls_enter func60 Z Z ?_),?_⟩
  ·refine go ?_
   have HS:=HS.fr 20
   obtain ⟨_,_,_,HS⟩:=au.open HS
   refine W.kl H func125 (fun _ h=>cE.calls h HS.j2) ?_
   rintro _ _ w H ⟨rfl,HS⟩
   have HS:=HS.o2
   refine go ?_
   refine V.cv H Z (fun _ H=>go ?_) (fun _ H=>go ?_)
   ·refine At.ret1 Z Z ⟨_,Z,?_⟩
    have HS:=(au.close tv HS).b [1,1,1,1,1,1,1,1,1,1,1,1,1,1,1,1,1,1,1,1]
    exact ⟨a0.c.Rate,Z,HS,H⟩
   ·apply V.da [9] [10,11] [(15,_),(16,_),(17,_),(18,_),(19,_),(20,_),(21,_),(22,_),(23,_)] mo HS
    rfl
    refine T.e [23] [] [5,6,7,8] fun w HS=>?_
    refine Y.kl H func110 (fun _ h=>bQ.calls h HS.j2) ?_
    rintro t257 _ w H ⟨rfl,HS⟩
    have HS:=HS.o2
    apply T.na [(24,_),(25,_),(4,_)] HS
    exact nmk
    refine T.ff [4] (fun w HS=>?_) ⟨rd,rd,rd,rd,rd,.n2 19 24 Z Z Z (fun w HS=>X.min2 Z Z),rds⟩
    refine go ?_
    refine At.ret1 Z Z ⟨_,Z,?_⟩
    have HS:=(au.close tv HS).b [1,1,1,1,1,1,1,1,1,1,1,1,1,1,1,1,1,1,1,1]
    exact ⟨imin a0.c.Rate t257,Z,HS,H⟩
  ·rintro _ w ⟨_,rfl,HS,H⟩
   refine T.nw HS ?_
   refine T.e [16,17,20] [] [4,5,6,7,8,9,10] fun w HS=>?_
   have HS:=HS.b [9]
   refine Y.kl H func59 (fun _ h=>bn.calls h HS.j1) ?_
   rintro t59 _ w H ⟨at59_0,ct59_0,rfl,HS⟩
   have HS:=HS.o2
   refine T.nw HS ?_
   refine T.e [10,21] [] [0,1,2,3] fun w HS=>?_
   have HS:=HS.b [21]
   refine Y.kl H func58 (fun _ h=>cq.calls h HS.j1 (rdC.part 0 row_rd Z)) ?_
   rintro t61 _ w H ⟨rfl,HS⟩
   have HS:=HS.o1
   refine T.nw HS ?_
   refine T.ff [] fun w HS=>?_
   refine At.end0 Z ⟨_,Z,?_⟩
   refine go ?_
   refine At.ow [(0,pt b0),(1,Value.func (.func 57) #[] #[pt nb1]),(4,vi (0)),(6,vi (0)),(9,vi (2))] (go ?_)
   refine At.ow [(0,pt b0),(1,Value.func (.func 57) #[] #[pt nb1]),(6,vi (1))] (go ?_)
   refine V.rs 2 [(0,pt b0),(1,Value.func (.func 57) #[] #[pt nb1]),(4,vi (1)),(6,vi (1)),(9,vi (0))] (go ?_)
   refine W.inl (Y.callV (vs:=[vi (1),vi (0),po b0 (0+18+1*6+0*3)]) (cs:=[pt nb1]) Z func57 (by kernel_rfl) Z Z (calls_enter func57 Z Z ?_)) Z Z Z
   apply V.da [13,14,15] [] [(7,_),(8,_),(9,_),(10,_),(11,_),(12,_),(13,_),(14,_),(15,_),(16,_),(17,_),(18,_),(19,_)] mo HS
   rfl
   refine T.e [18,19] [] [11,12] fun w HS=>?_
   refine ⟨(fun u w=>∃z:Int,u=vi z∧Sep.St [au.at b21_4 t61.2,row 5 1 (.slice at59_0 t59.1.length ct59_0) t59.1.length (t59.1.map (Value.int .u8)),aa.at b17_4 t59.2,au.at b18_4 t55.2,row 5 1 (.slice at53_0 t53.1.length ct53_0) t53.1.length (t53.1.map (Value.int .u8)),aa.at b16_4 t53.2,tie (El.sl (El.int .u8)) (d28_4++dt40_0_1) (a0.ways.2.2.sent++t40.1.2),tie (El.sl (El.int .u8)) (d22_4++dt40_0_0) (a0.ways.1.2.sent++t40.1.1),row 48 1 (.slice at40_0_0 t40.1.1.length ct40_0_0) t40.1.1.length dt40_0_0,tie (El.sl (El.int .u8)) dt40_0_0 t40.1.1,row 48 1 (.slice at40_0_1 t40.1.2.length ct40_0_1) t40.1.2.length dt40_0_1,tie (El.sl (El.int .u8)) dt40_0_1 t40.1.2,tie (El.sl (El.int .u8)) (d25_4++dt28_0_1) (a0.ways.2.1.sent++t28.1.2),tie (El.sl (El.int .u8)) (d19_4++dt28_0_0) (a0.ways.1.1.sent++t28.1.1),row 48 1 (.slice at28_0_0 t28.1.1.length ct28_0_0) t28.1.1.length dt28_0_0,tie (El.sl (El.int .u8)) dt28_0_0 t28.1.1,row 48 1 (.slice at28_0_1 t28.1.2.length ct28_0_1) t28.1.2.length dt28_0_1,tie (El.sl (El.int .u8)) dt28_0_1 t28.1.2,blk b0 (#[vi a0.c.Mode,vi a0.c.Modulus,vi a0.c.Window,vi a0.c.T1,vi a0.c.N2,vi a0.c.Hold,vi a0.c.Wait,vi a0.c.Keep,vi a0.c.Queue,vi a0.c.Size,vi a0.c.Ring,vi a0.c.Rate,vi a0.c.Bad,vi a0.c.Good,vb a0.c.Revert,vb a0.c.Wide,pt b16_4,pt b17_4,pt b18_4,vs ra35 (a0.ways.1.1.sent++t28.1.1).length rc36,vs a20_4 a0.ways.1.1.got.length c20_4,pt b21_4,vs ra47 (a0.ways.1.2.sent++t40.1.1).length rc48,vs a23_4 a0.ways.1.2.got.length c23_4,pt b24_4,vs ra38 (a0.ways.2.1.sent++t28.1.2).length rc39,vs a26_4 a0.ways.2.1.got.length c26_4,pt b27_4,vs ra50 (a0.ways.2.2.sent++t40.1.2).length rc51,vs a29_4 a0.ways.2.2.got.length c29_4,vi a0.now]) 83,row 48 1 (.slice ra35 (a0.ways.1.1.sent++t28.1.1).length rc36) (a0.ways.1.1.sent++t28.1.1).length (d19_4++dt28_0_0),row 48 1 (.slice a20_4 a0.ways.1.1.got.length c20_4) a0.ways.1.1.got.length d20_4,tie (El.sl (El.int .u8)) d20_4 a0.ways.1.1.got,row 48 1 (.slice ra47 (a0.ways.1.2.sent++t40.1.1).length rc48) (a0.ways.1.2.sent++t40.1.1).length (d22_4++dt40_0_0),row 48 1 (.slice a23_4 a0.ways.1.2.got.length c23_4) a0.ways.1.2.got.length d23_4,tie (El.sl (El.int .u8)) d23_4 a0.ways.1.2.got,au.at b24_4 a0.ways.2.1.pipe,row 48 1 (.slice ra38 (a0.ways.2.1.sent++t28.1.2).length rc39) (a0.ways.2.1.sent++t28.1.2).length (d25_4++dt28_0_1),row 48 1 (.slice a26_4 a0.ways.2.1.got.length c26_4) a0.ways.2.1.got.length d26_4,tie (El.sl (El.int .u8)) d26_4 a0.ways.2.1.got,au.at b27_4 a0.ways.2.2.pipe,row 48 1 (.slice ra50 (a0.ways.2.2.sent++t40.1.2).length rc51) (a0.ways.2.2.sent++t40.1.2).length (d28_4++dt40_0_1),row 48 1 (.slice a29_4 a0.ways.2.2.got.length c29_4) a0.ways.2.2.got.length d29_4,tie (El.sl (El.int .u8)) d29_4 a0.ways.2.2.got,blk nb1 (#[pt b0]) 25,R] w0 w∧av.j2 k a0 t28 t40 t53 t55 t59 t61 z=some r),Y.cl (vs:=[pt b0,po b0 (0+18+1*6+0*3)]) func60 (calls_enter func60 Z Z ?_),?_⟩
   ·refine go ?_
    have HS:=HS.fr 25
    obtain ⟨_,_,_,HS⟩:=au.open HS
    refine W.kl H func125 (fun _ h=>cE.calls h HS.j2) ?_
    rintro _ _ w H ⟨rfl,HS⟩
    have HS:=HS.o2
    refine go ?_
    refine V.cv H Z (fun _ H=>go ?_) (fun _ H=>go ?_)
    ·refine At.ret1 Z Z ⟨_,Z,?_⟩
     have HS:=(au.close tv HS).b [1,1,1,1,1,1,1,1,1,1,1,1,1,1,1,1,1,1,1,1,1,1,1,1,1]
     exact ⟨a0.c.Rate,Z,HS,H⟩
    ·apply V.da [9] [10,11] [(15,_),(16,_),(17,_),(18,_),(19,_),(20,_),(21,_),(22,_),(23,_)] mo HS
     rfl
     refine T.e [23] [] [5,6,7,8] fun w HS=>?_
     refine Y.kl H func110 (fun _ h=>bQ.calls h HS.j2) ?_
     rintro t250 _ w H ⟨rfl,HS⟩
     have HS:=HS.o2
     apply T.na [(24,_),(25,_),(4,_)] HS
     exact nmk
     refine T.ff [4] (fun w HS=>?_) ⟨rd,rd,rd,rd,rd,.n2 19 24 Z Z Z (fun w HS=>X.min2 Z Z),rds⟩
     refine go ?_
     refine At.ret1 Z Z ⟨_,Z,?_⟩
     have HS:=(au.close tv HS).b [1,1,1,1,1,1,1,1,1,1,1,1,1,1,1,1,1,1,1,1,1,1,1,1,1]
     exact ⟨imin a0.c.Rate t250,Z,HS,H⟩
   ·rintro _ w ⟨_,rfl,HS,H⟩
    refine T.nw HS ?_
    refine T.e [16,17,20] [] [4,5,6,7,8,9,10] fun w HS=>?_
    have HS:=HS.b [5]
    refine Y.kl H func59 (fun _ h=>bn.calls h HS.j1) ?_
    rintro t65 _ w H ⟨at65_0,ct65_0,rfl,HS⟩
    have HS:=HS.o2
    refine T.nw HS ?_
    refine T.e [10,21] [] [0,1,2,3] fun w HS=>?_
    have HS:=HS.b [26]
    refine Y.kl H func58 (fun _ h=>cq.calls h HS.j1 (rdC.part 0 row_rd Z)) ?_
    rintro t67 _ w H ⟨rfl,HS⟩
    have HS:=HS.o1
    refine T.nw HS ?_
    refine T.ff [] fun w HS=>?_
    refine At.end0 Z ⟨_,Z,?_⟩
    refine go ?_
    refine At.ow [(0,pt b0),(1,Value.func (.func 57) #[] #[pt nb1]),(4,vi (1)),(6,vi (1)),(9,vi (1))] (go ?_)
    refine W.inl (Y.callV (vs:=[vi (1),vi (1),po b0 (0+18+1*6+1*3)]) (cs:=[pt nb1]) Z func57 (by kernel_rfl) Z Z (calls_enter func57 Z Z ?_)) Z Z Z
    apply V.da [13,14,15] [] [(7,_),(8,_),(9,_),(10,_),(11,_),(12,_),(13,_),(14,_),(15,_),(16,_),(17,_),(18,_),(19,_)] mo HS
    rfl
    refine T.e [18,19] [] [11,12] fun w HS=>?_
    refine ⟨(fun u w=>∃z:Int,u=vi z∧Sep.St [au.at b24_4 t67.2,row 5 1 (.slice at65_0 t65.1.length ct65_0) t65.1.length (t65.1.map (Value.int .u8)),aa.at b16_4 t65.2,au.at b21_4 t61.2,row 5 1 (.slice at59_0 t59.1.length ct59_0) t59.1.length (t59.1.map (Value.int .u8)),aa.at b17_4 t59.2,au.at b18_4 t55.2,row 5 1 (.slice at53_0 t53.1.length ct53_0) t53.1.length (t53.1.map (Value.int .u8)),tie (El.sl (El.int .u8)) (d28_4++dt40_0_1) (a0.ways.2.2.sent++t40.1.2),tie (El.sl (El.int .u8)) (d22_4++dt40_0_0) (a0.ways.1.2.sent++t40.1.1),row 48 1 (.slice at40_0_0 t40.1.1.length ct40_0_0) t40.1.1.length dt40_0_0,tie (El.sl (El.int .u8)) dt40_0_0 t40.1.1,row 48 1 (.slice at40_0_1 t40.1.2.length ct40_0_1) t40.1.2.length dt40_0_1,tie (El.sl (El.int .u8)) dt40_0_1 t40.1.2,tie (El.sl (El.int .u8)) (d25_4++dt28_0_1) (a0.ways.2.1.sent++t28.1.2),tie (El.sl (El.int .u8)) (d19_4++dt28_0_0) (a0.ways.1.1.sent++t28.1.1),row 48 1 (.slice at28_0_0 t28.1.1.length ct28_0_0) t28.1.1.length dt28_0_0,tie (El.sl (El.int .u8)) dt28_0_0 t28.1.1,row 48 1 (.slice at28_0_1 t28.1.2.length ct28_0_1) t28.1.2.length dt28_0_1,tie (El.sl (El.int .u8)) dt28_0_1 t28.1.2,blk b0 (#[vi a0.c.Mode,vi a0.c.Modulus,vi a0.c.Window,vi a0.c.T1,vi a0.c.N2,vi a0.c.Hold,vi a0.c.Wait,vi a0.c.Keep,vi a0.c.Queue,vi a0.c.Size,vi a0.c.Ring,vi a0.c.Rate,vi a0.c.Bad,vi a0.c.Good,vb a0.c.Revert,vb a0.c.Wide,pt b16_4,pt b17_4,pt b18_4,vs ra35 (a0.ways.1.1.sent++t28.1.1).length rc36,vs a20_4 a0.ways.1.1.got.length c20_4,pt b21_4,vs ra47 (a0.ways.1.2.sent++t40.1.1).length rc48,vs a23_4 a0.ways.1.2.got.length c23_4,pt b24_4,vs ra38 (a0.ways.2.1.sent++t28.1.2).length rc39,vs a26_4 a0.ways.2.1.got.length c26_4,pt b27_4,vs ra50 (a0.ways.2.2.sent++t40.1.2).length rc51,vs a29_4 a0.ways.2.2.got.length c29_4,vi a0.now]) 83,row 48 1 (.slice ra35 (a0.ways.1.1.sent++t28.1.1).length rc36) (a0.ways.1.1.sent++t28.1.1).length (d19_4++dt28_0_0),row 48 1 (.slice a20_4 a0.ways.1.1.got.length c20_4) a0.ways.1.1.got.length d20_4,tie (El.sl (El.int .u8)) d20_4 a0.ways.1.1.got,row 48 1 (.slice ra47 (a0.ways.1.2.sent++t40.1.1).length rc48) (a0.ways.1.2.sent++t40.1.1).length (d22_4++dt40_0_0),row 48 1 (.slice a23_4 a0.ways.1.2.got.length c23_4) a0.ways.1.2.got.length d23_4,tie (El.sl (El.int .u8)) d23_4 a0.ways.1.2.got,row 48 1 (.slice ra38 (a0.ways.2.1.sent++t28.1.2).length rc39) (a0.ways.2.1.sent++t28.1.2).length (d25_4++dt28_0_1),row 48 1 (.slice a26_4 a0.ways.2.1.got.length c26_4) a0.ways.2.1.got.length d26_4,tie (El.sl (El.int .u8)) d26_4 a0.ways.2.1.got,au.at b27_4 a0.ways.2.2.pipe,row 48 1 (.slice ra50 (a0.ways.2.2.sent++t40.1.2).length rc51) (a0.ways.2.2.sent++t40.1.2).length (d28_4++dt40_0_1),row 48 1 (.slice a29_4 a0.ways.2.2.got.length c29_4) a0.ways.2.2.got.length d29_4,tie (El.sl (El.int .u8)) d29_4 a0.ways.2.2.got,blk nb1 (#[pt b0]) 25,R] w0 w∧av.j3 k a0 t28 t40 t55 t59 t61 t65 t67 z=some r),Y.cl (vs:=[pt b0,po b0 (0+18+1*6+1*3)]) func60 (calls_enter func60 Z Z ?_),?_⟩
    ·refine go ?_
     have HS:=HS.fr 30
     obtain ⟨_,_,_,HS⟩:=au.open HS
     refine W.kl H func125 (fun _ h=>cE.calls h HS.j2) ?_
     rintro _ _ w H ⟨rfl,HS⟩
     have HS:=HS.o2
     refine go ?_
     refine V.cv H Z (fun _ H=>go ?_) (fun _ H=>go ?_)
     ·refine At.ret1 Z Z ⟨_,Z,?_⟩
      have HS:=(au.close tv HS).b [1,1,1,1,1,1,1,1,1,1,1,1,1,1,1,1,1,1,1,1,1,1,1,1,1,1,1,1,1,1]
      exact ⟨a0.c.Rate,Z,HS,H⟩
     ·apply V.da [9] [10,11] [(15,_),(16,_),(17,_),(18,_),(19,_),(20,_),(21,_),(22,_),(23,_)] mo HS
      rfl
      refine T.e [23] [] [5,6,7,8] fun w HS=>?_
      refine Y.kl H func110 (fun _ h=>bQ.calls h HS.j2) ?_
      rintro t243 _ w H ⟨rfl,HS⟩
      have HS:=HS.o2
      apply T.na [(24,_),(25,_),(4,_)] HS
      exact nmk
      refine T.ff [4] (fun w HS=>?_) ⟨rd,rd,rd,rd,rd,.n2 19 24 Z Z Z (fun w HS=>X.min2 Z Z),rds⟩
      refine go ?_
      refine At.ret1 Z Z ⟨_,Z,?_⟩
      have HS:=(au.close tv HS).b [1,1,1,1,1,1,1,1,1,1,1,1,1,1,1,1,1,1,1,1,1,1,1,1,1,1,1,1,1,1]
      exact ⟨imin a0.c.Rate t243,Z,HS,H⟩
    ·rintro _ w ⟨_,rfl,HS,H⟩
     refine T.nw HS ?_
     refine T.e [16,17,20] [] [4,5,6,7,8,9,10] fun w HS=>?_
     have HS:=HS.b [5]
     refine Y.kl H func59 (fun _ h=>bn.calls h HS.j1) ?_
     rintro t71 _ w H ⟨at71_0,ct71_0,rfl,HS⟩
     have HS:=HS.o2
     refine T.nw HS ?_
     refine T.e [10,21] [] [0,1,2,3] fun w HS=>?_
     have HS:=HS.b [31]
     refine Y.kl H func58 (fun _ h=>cq.calls h HS.j1 (rdC.part 0 row_rd Z)) ?_
     rintro _ _ w H ⟨rfl,HS⟩
     have HS:=HS.o1
     refine T.nw HS ?_
     refine T.ff [] fun w HS=>?_
     refine At.end0 Z ⟨_,Z,?_⟩
     refine go ?_
     refine At.ow [(0,pt b0),(1,Value.func (.func 57) #[] #[pt nb1]),(4,vi (1)),(6,vi (1)),(9,vi (2))] (go ?_)
     refine At.ow [(0,pt b0),(1,Value.func (.func 57) #[] #[pt nb1]),(6,vi (2))] (go ?_)
     refine At.end0 Z ⟨_,Z,?_⟩
     refine go ?_
     refine W.r (X.mkFunc Z) Z ?_
     refine W.inl (Y.cl (vs:=[pt b0,Value.func (.func 61) #[] #[pt nb1]]) func56 (calls_enter func56 Z Z ?_)) Z Z Z
     refine go ?_
     refine V.rs 2 [(0,pt b0),(1,Value.func (.func 61) #[] #[pt nb1]),(6,vi (0))] (go ?_)
     refine V.rs 2 [(0,pt b0),(1,Value.func (.func 61) #[] #[pt nb1]),(4,vi (0)),(6,vi (0)),(9,vi (0))] (go ?_)
     refine W.inl (Y.callV (vs:=[vi (0),vi (0),po b0 (0+18+0*6+0*3)]) (cs:=[pt nb1]) Z func61 (by kernel_rfl) Z Z (calls_enter func61 Z Z ?_)) Z Z Z
     refine go ?_
     apply V.da [9] [10] [(9,_),(10,_),(11,_),(12,_),(13,_),(14,_),(15,_),(16,_),(17,_),(20,_)] mo HS
     rfl
     refine T.e [12,17] [] [0,1,2,3,4,5,6,7,8] fun w HS=>?_
     have HS:=HS.b [8]
     refine Y.kl H func62 (fun _ h=>bC.calls h HS.j1) ?_
     rintro t75 _ w H ⟨at75_0,ct75_0,rfl,HS⟩
     have HS:=HS.o2
     apply T.na [(18,_),(19,_)] HS
     exact nmk
     refine T.ff [0,1,2,3,18,19,20] fun w HS=>?_
     refine go ?_
     have HS:=ah.close tv (HS.b [23,7,4,1,20,15,19,19,5,18,8,17,17,3,16,11,15,15,1,14,5,13,13])
     refine V.lj (σ:=Int × ah) [0,1,2,3,18,19] (fun kq (x79,x80) w=>St [ah.at b0 x80,rB at75_0 ct75_0 t75.1,rB at71_0 ct71_0 t71.1,rB at65_0 ct65_0 t65.1,rB at59_0 ct59_0 t59.1,rB at53_0 ct53_0 t53.1,row 48 1 (.slice at40_0_0 t40.1.1.length ct40_0_0) t40.1.1.length dt40_0_0,tie (El.sl (El.int .u8)) dt40_0_0 t40.1.1,row 48 1 (.slice at40_0_1 t40.1.2.length ct40_0_1) t40.1.2.length dt40_0_1,tie (El.sl (El.int .u8)) dt40_0_1 t40.1.2,row 48 1 (.slice at28_0_0 t28.1.1.length ct28_0_0) t28.1.1.length dt28_0_0,tie (El.sl (El.int .u8)) dt28_0_0 t28.1.1,row 48 1 (.slice at28_0_1 t28.1.2.length ct28_0_1) t28.1.2.length dt28_0_1,tie (El.sl (El.int .u8)) dt28_0_1 t28.1.2,blk nb1 (#[pt b0]) 25,R] w0 w∧av.l4 kq t75 x79 x80=some r∧kq≤k) (fun (x79,x80)=>[(20,vi x79)]) (_,_) ⟨HS,H,Nat.le_refl _⟩ ?_
     rintro kq81 ⟨x79,x80⟩ w ⟨HS,H,_⟩
     cases kq81 with
     |zero=>exact absurd H (by simp [av.l4])
     |succ kq81=>
      simp only [av.l4] at H
      refine go ?_
      refine V.cd H Z (fun _ H=>go ?_) (fun _ H=>go ?_)
      ·obtain ⟨c84,H⟩:=ite_n H
       obtain ⟨_,_,hh⟩:=(rdC.at 1 row_rd HS rfl).some (by decide) c84.1 c84.2;subst hh
       refine go ?_
       refine W.r (X.load underlying5 Z Z ((rdC.at 1 row_rd HS Z).cellI c84.1 c84.2)) Z (go ?_)
       refine W.inl (Y.cl (vs:=[pt b0,vi (0),vi (0),po b0 (0+18+0*6+0*3),Value.int .u8 (t75.1.getD x79.toNat 0)]) func63 (calls_enter func63 Z Z ?_)) Z Z Z
       refine go ?_
       obtain ⟨_,_,_,_,_,_,_,_,_,_,_,_,_,_,_,_,_,_,_,_,_,_,_,_,_,_,_,_,_,_,_,HS⟩:=ah.open HS
       refine go ?_
       have HS:=HS.b [2]
       refine W.kl H func126 (fun _ h=>aX.calls h HS.j1) ?_
       rintro t89 _ w H ⟨at89_1,ct89_1,rfl,HS⟩
       have HS:=HS.o2
       refine go ?_
       refine V.cd H Z (fun _ H=>go ?_) (fun _ H=>go ?_)
       ·have HS:=St.row_freeze HS
        refine W.e (Y.lc (e:=48) (sz:=1) [vs at89_1 t89.2.1.length ct89_1] HS Z Z (fun _=>by kernel_rfl)) Z ?_
        rintro _ w ⟨_,rfl,HS⟩
        have HS:=St.tie_cons (((St.sl_close (E:=(El.int .u8)) (St.swap (St.put (A:=tie (El.int .u8) (t89.2.1.map (Value.int .u8)) t89.2.1) (fun _=>int_tie) ((St.put (A:=tie (El.sl (El.int .u8)) ([]) (([]:List (List Int)))) (fun _=>tie.nil) HS).more 2 rfl (fun _ t=>t) fsl.pers)))).fr 1).fr 1)
        obtain ⟨_,H⟩:=ite_n H
        refine W.e (Y.app (xs:=x80.ways.1.1.got) (ys:=([t89.2.1]:List (List Int))) 9 underlying35 ap48 Z (by decide) HS Z Z Z (rdC.at 1 row_rd HS Z) (St.tie_one 0 HS Z) (by omega) (by omega)) Z ?_
        rintro _ w ⟨_,_,rfl,HS⟩
        have HS:=St.tie_app 1 (HS.fr 10) rfl
        refine go ?_
        refine W.sr 20 HS Z Z Z fun w HS=>go ?_
        refine At.end0 Z ⟨_,Z,?_⟩
        refine go ?_
        have HS:=(ah.close tv (HS.b [5,5,4,4,4,4,4,0,3,3,3,3,3,3,3,3,3,3,3,3,3,3,3])).ke [0,3,3,3,3,3,3,3,3,3,3,3,3,3,3,3]
        exact At.rn (_,_) ⟨HS,H,by omega⟩
       ·refine At.end0 Z ⟨_,Z,?_⟩
        refine go ?_
        have HS:=(ah.close tv (HS.b [2,2,1,1,1,1,1,1,1,1,1,1,1,1,1,1,1,1,1,1,1,1,1])).ke [0,1,1,1,1,1,1,1,1,1,1,1,1,1,1,1]
        exact At.rn (_,_) ⟨HS,H,by omega⟩
      ·refine At.end0 Z ⟨_,Z,?_⟩
       refine go ?_
       refine At.ow [(0,pt b0),(1,Value.func (.func 61) #[] #[pt nb1]),(4,vi (0)),(6,vi (0)),(9,vi (1))] (go ?_)
       obtain ⟨_,_,_,_,_,_,_,_,_,_,_,_,_,_,_,_,_,_,_,_,_,_,_,_,_,_,_,_,_,_,_,HS⟩:=ah.open HS
       refine go ?_
       refine W.inl (Y.callV (vs:=[vi (0),vi (1),po b0 (0+18+0*6+1*3)]) (cs:=[pt nb1]) Z func61 (by kernel_rfl) Z Z (calls_enter func61 Z Z ?_)) Z Z Z
       refine go ?_
       apply V.da [9] [10] [(9,_),(10,_),(11,_),(12,_),(13,_),(14,_),(15,_),(16,_),(17,_),(20,_)] mo HS
       rfl
       refine T.e [12,17] [] [0,1,2,3,4,5,6,7,8] fun w HS=>?_
       have HS:=HS.b [8]
       refine Y.kl H func62 (fun _ h=>bC.calls h HS.j1) ?_
       rintro t100 _ w H ⟨at100_0,ct100_0,rfl,HS⟩
       have HS:=HS.o2
       apply T.na [(18,_),(19,_)] HS
       exact nmk
       refine T.ff [0,1,2,3,18,19,20] fun w HS=>?_
       refine go ?_
       have HS:=ah.close tv (HS.b [2,2,2,2,2,2,2,2,1,1,1,1,1,1,1,1,1,1,1,1,1,1,1])
       refine V.lj (σ:=Int × ah) [0,1,2,3,18,19] (fun kq (x125,x126) w=>St [ah.at b0 x126,rB at100_0 ct100_0 t100.1,rB at75_0 ct75_0 t75.1,rB at71_0 ct71_0 t71.1,rB at65_0 ct65_0 t65.1,rB at59_0 ct59_0 t59.1,rB at53_0 ct53_0 t53.1,row 48 1 (.slice at40_0_0 t40.1.1.length ct40_0_0) t40.1.1.length dt40_0_0,tie (El.sl (El.int .u8)) dt40_0_0 t40.1.1,row 48 1 (.slice at40_0_1 t40.1.2.length ct40_0_1) t40.1.2.length dt40_0_1,tie (El.sl (El.int .u8)) dt40_0_1 t40.1.2,row 48 1 (.slice at28_0_0 t28.1.1.length ct28_0_0) t28.1.1.length dt28_0_0,tie (El.sl (El.int .u8)) dt28_0_0 t28.1.1,row 48 1 (.slice at28_0_1 t28.1.2.length ct28_0_1) t28.1.2.length dt28_0_1,tie (El.sl (El.int .u8)) dt28_0_1 t28.1.2,blk nb1 (#[pt b0]) 25,R] w0 w∧av.l5 kq t100 x125 x126=some r∧kq≤kq81) (fun (x125,x126)=>[(20,vi x125)]) (_,_) ⟨HS,H,Nat.le_refl _⟩ ?_
       rintro kq127 ⟨x125,x126⟩ w ⟨HS,H,_⟩
       cases kq127 with
       |zero=>exact absurd H (by simp [av.l5])
       |succ kq127=>
        simp only [av.l5] at H
        refine go ?_
        refine V.cd H Z (fun _ H=>go ?_) (fun _ H=>go ?_)
        ·obtain ⟨c130,H⟩:=ite_n H
         obtain ⟨_,_,hh⟩:=(rdC.at 1 row_rd HS rfl).some (by decide) c130.1 c130.2;subst hh
         refine go ?_
         refine W.r (X.load underlying5 Z Z ((rdC.at 1 row_rd HS Z).cellI c130.1 c130.2)) Z (go ?_)
         refine W.inl (Y.cl (vs:=[pt b0,vi (0),vi (1),po b0 (0+18+0*6+1*3),Value.int .u8 (t100.1.getD x125.toNat 0)]) func63 (calls_enter func63 Z Z ?_)) Z Z Z
         refine go ?_
         obtain ⟨_,_,_,_,_,_,_,_,_,_,_,_,_,_,_,_,_,_,_,_,_,_,_,_,_,_,_,_,_,_,_,HS⟩:=ah.open HS
         refine go ?_
         have HS:=HS.b [1]
         refine W.kl H func126 (fun _ h=>aX.calls h HS.j1) ?_
         rintro t135 _ w H ⟨at135_1,ct135_1,rfl,HS⟩
         have HS:=HS.o2
         refine go ?_
         refine V.cd H Z (fun _ H=>go ?_) (fun _ H=>go ?_)
         ·have HS:=St.row_freeze HS
          refine W.e (Y.lc (e:=48) (sz:=1) [vs at135_1 t135.2.1.length ct135_1] HS Z Z (fun _=>by kernel_rfl)) Z ?_
          rintro _ w ⟨_,rfl,HS⟩
          have HS:=St.tie_cons (((St.sl_close (E:=(El.int .u8)) (St.swap (St.put (A:=tie (El.int .u8) (t135.2.1.map (Value.int .u8)) t135.2.1) (fun _=>int_tie) ((St.put (A:=tie (El.sl (El.int .u8)) ([]) (([]:List (List Int)))) (fun _=>tie.nil) HS).more 2 rfl (fun _ t=>t) fsl.pers)))).fr 1).fr 1)
          obtain ⟨_,H⟩:=ite_n H
          refine W.e (Y.app (xs:=x126.ways.1.2.got) (ys:=([t135.2.1]:List (List Int))) 14 underlying35 ap48 Z (by decide) HS Z Z Z (rdC.at 1 row_rd HS Z) (St.tie_one 0 HS Z) (by omega) (by omega)) Z ?_
          rintro _ w ⟨_,_,rfl,HS⟩
          have HS:=St.tie_app 1 (HS.fr 15) rfl
          refine go ?_
          refine W.sr 23 HS Z Z Z fun w HS=>go ?_
          refine At.end0 Z ⟨_,Z,?_⟩
          refine go ?_
          have HS:=(ah.close tv (HS.b [5,4,4,4,4,4,4,4,4,4,4,4,0,3,3,3,3,3,3,3,3,3,3])).ke [0,3,3,3,3,3,3,3,3,3,3,3,3,3,3,3,3]
          exact At.rn (_,_) ⟨HS,H,by omega⟩
         ·refine At.end0 Z ⟨_,Z,?_⟩
          refine go ?_
          have HS:=(ah.close tv (HS.b [2,1,1,1,1,1,1,1,1,1,1,1,1,1,1,1,1,1,1,1,1,1,1])).ke [0,1,1,1,1,1,1,1,1,1,1,1,1,1,1,1,1]
          exact At.rn (_,_) ⟨HS,H,by omega⟩
        ·refine At.end0 Z ⟨_,Z,?_⟩
         refine go ?_
         refine At.ow [(0,pt b0),(1,Value.func (.func 61) #[] #[pt nb1]),(4,vi (0)),(6,vi (0)),(9,vi (2))] (go ?_)
         refine At.ow [(0,pt b0),(1,Value.func (.func 61) #[] #[pt nb1]),(6,vi (1))] (go ?_)
         refine V.rs 2 [(0,pt b0),(1,Value.func (.func 61) #[] #[pt nb1]),(4,vi (1)),(6,vi (1)),(9,vi (0))] (go ?_)
         obtain ⟨_,_,_,_,_,_,_,_,_,_,_,_,_,_,_,_,_,_,_,_,_,_,_,_,_,_,_,_,_,_,_,HS⟩:=ah.open HS
         refine go ?_
         refine W.inl (Y.callV (vs:=[vi (1),vi (0),po b0 (0+18+1*6+0*3)]) (cs:=[pt nb1]) Z func61 (by kernel_rfl) Z Z (calls_enter func61 Z Z ?_)) Z Z Z
         refine go ?_
         apply V.da [9] [10] [(9,_),(10,_),(11,_),(12,_),(13,_),(14,_),(15,_),(16,_),(17,_),(20,_)] mo HS
         rfl
         refine T.e [12,17] [] [0,1,2,3,4,5,6,7,8] fun w HS=>?_
         have HS:=HS.b [13]
         refine Y.kl H func62 (fun _ h=>bC.calls h HS.j1) ?_
         rintro t146 _ w H ⟨at146_0,ct146_0,rfl,HS⟩
         have HS:=HS.o2
         apply T.na [(18,_),(19,_)] HS
         exact nmk
         refine T.ff [0,1,2,3,18,19,20] fun w HS=>?_
         refine go ?_
         have HS:=ah.close tv (HS.b [2,2,2,2,2,2,2,2,2,2,2,2,2,1,1,1,1,1,1,1,1,1,1])
         refine V.lj (σ:=Int × ah) [0,1,2,3,18,19] (fun kq (x171,x172) w=>St [ah.at b0 x172,rB at146_0 ct146_0 t146.1,rB at100_0 ct100_0 t100.1,rB at75_0 ct75_0 t75.1,rB at71_0 ct71_0 t71.1,rB at65_0 ct65_0 t65.1,rB at59_0 ct59_0 t59.1,rB at53_0 ct53_0 t53.1,row 48 1 (.slice at40_0_0 t40.1.1.length ct40_0_0) t40.1.1.length dt40_0_0,tie (El.sl (El.int .u8)) dt40_0_0 t40.1.1,row 48 1 (.slice at40_0_1 t40.1.2.length ct40_0_1) t40.1.2.length dt40_0_1,tie (El.sl (El.int .u8)) dt40_0_1 t40.1.2,row 48 1 (.slice at28_0_0 t28.1.1.length ct28_0_0) t28.1.1.length dt28_0_0,tie (El.sl (El.int .u8)) dt28_0_0 t28.1.1,row 48 1 (.slice at28_0_1 t28.1.2.length ct28_0_1) t28.1.2.length dt28_0_1,tie (El.sl (El.int .u8)) dt28_0_1 t28.1.2,blk nb1 (#[pt b0]) 25,R] w0 w∧av.l6 kq t146 x171 x172=some r∧kq≤kq127) (fun (x171,x172)=>[(20,vi x171)]) (_,_) ⟨HS,H,Nat.le_refl _⟩ ?_
         rintro kq173 ⟨x171,x172⟩ w ⟨HS,H,_⟩
         cases kq173 with
         |zero=>exact absurd H (by simp [av.l6])
         |succ kq173=>
          simp only [av.l6] at H
          refine go ?_
          refine V.cd H Z (fun _ H=>go ?_) (fun _ H=>go ?_)
          ·obtain ⟨c176,H⟩:=ite_n H
           obtain ⟨_,_,hh⟩:=(rdC.at 1 row_rd HS rfl).some (by decide) c176.1 c176.2;subst hh
           refine go ?_
           refine W.r (X.load underlying5 Z Z ((rdC.at 1 row_rd HS Z).cellI c176.1 c176.2)) Z (go ?_)
           refine W.inl (Y.cl (vs:=[pt b0,vi (1),vi (0),po b0 (0+18+1*6+0*3),Value.int .u8 (t146.1.getD x171.toNat 0)]) func63 (calls_enter func63 Z Z ?_)) Z Z Z
           refine go ?_
           obtain ⟨_,_,_,_,_,_,_,_,_,_,_,_,_,_,_,_,_,_,_,_,_,_,_,_,_,_,_,_,_,_,_,HS⟩:=ah.open HS
           refine go ?_
           have HS:=HS.b [2]
           refine W.kl H func126 (fun _ h=>aX.calls h HS.j1) ?_
           rintro t181 _ w H ⟨at181_1,ct181_1,rfl,HS⟩
           have HS:=HS.o2
           refine go ?_
           refine V.cd H Z (fun _ H=>go ?_) (fun _ H=>go ?_)
           ·have HS:=St.row_freeze HS
            refine W.e (Y.lc (e:=48) (sz:=1) [vs at181_1 t181.2.1.length ct181_1] HS Z Z (fun _=>by kernel_rfl)) Z ?_
            rintro _ w ⟨_,rfl,HS⟩
            have HS:=St.tie_cons (((St.sl_close (E:=(El.int .u8)) (St.swap (St.put (A:=tie (El.int .u8) (t181.2.1.map (Value.int .u8)) t181.2.1) (fun _=>int_tie) ((St.put (A:=tie (El.sl (El.int .u8)) ([]) (([]:List (List Int)))) (fun _=>tie.nil) HS).more 2 rfl (fun _ t=>t) fsl.pers)))).fr 1).fr 1)
            obtain ⟨_,H⟩:=ite_n H
            refine W.e (Y.app (xs:=x172.ways.2.1.got) (ys:=([t181.2.1]:List (List Int))) 19 underlying35 ap48 Z (by decide) HS Z Z Z (rdC.at 1 row_rd HS Z) (St.tie_one 0 HS Z) (by omega) (by omega)) Z ?_
            rintro _ w ⟨_,_,rfl,HS⟩
            have HS:=St.tie_app 1 (HS.fr 20) rfl
            refine go ?_
            refine W.sr 26 HS Z Z Z fun w HS=>go ?_
            refine At.end0 Z ⟨_,Z,?_⟩
            refine go ?_
            have HS:=(ah.close tv (HS.b [5,5,4,4,4,4,4,4,4,4,4,4,4,4,4,4,4,0,3,3,3,3,3])).ke [0,3,3,3,3,3,3,3,3,3,3,3,3,3,3,3,3,3]
            exact At.rn (_,_) ⟨HS,H,by omega⟩
           ·refine At.end0 Z ⟨_,Z,?_⟩
            refine go ?_
            have HS:=(ah.close tv (HS.b [2,2,1,1,1,1,1,1,1,1,1,1,1,1,1,1,1,1,1,1,1,1,1])).ke [0,1,1,1,1,1,1,1,1,1,1,1,1,1,1,1,1,1]
            exact At.rn (_,_) ⟨HS,H,by omega⟩
          ·refine At.end0 Z ⟨_,Z,?_⟩
           refine go ?_
           refine At.ow [(0,pt b0),(1,Value.func (.func 61) #[] #[pt nb1]),(4,vi (1)),(6,vi (1)),(9,vi (1))] (go ?_)
           obtain ⟨_,_,_,_,_,_,_,_,_,_,_,_,_,_,_,_,_,_,_,_,_,_,_,_,_,_,_,_,_,_,_,HS⟩:=ah.open HS
           refine go ?_
           refine W.inl (Y.callV (vs:=[vi (1),vi (1),po b0 (0+18+1*6+1*3)]) (cs:=[pt nb1]) Z func61 (by kernel_rfl) Z Z (calls_enter func61 Z Z ?_)) Z Z Z
           refine go ?_
           apply V.da [9] [10] [(9,_),(10,_),(11,_),(12,_),(13,_),(14,_),(15,_),(16,_),(17,_),(20,_)] mo HS
           rfl
           refine T.e [12,17] [] [0,1,2,3,4,5,6,7,8] fun w HS=>?_
           have HS:=HS.b [18]
           refine Y.kl H func62 (fun _ h=>bC.calls h HS.j1) ?_
           rintro t192 _ w H ⟨at192_0,ct192_0,rfl,HS⟩
           have HS:=HS.o2
           apply T.na [(18,_),(19,_)] HS
           exact nmk
           refine T.ff [0,1,2,3,18,19,20] fun w HS=>?_
           refine go ?_
           have HS:=ah.close tv (HS.b [2,2,2,2,2,2,2,2,2,2,2,2,2,2,2,2,2,2,1,1,1,1,1])
           refine V.lj (σ:=Int × ah) [0,1,2,3,18,19] (fun kq (x217,x218) w=>St [ah.at b0 x218,rB at192_0 ct192_0 t192.1,rB at146_0 ct146_0 t146.1,rB at100_0 ct100_0 t100.1,rB at75_0 ct75_0 t75.1,rB at71_0 ct71_0 t71.1,rB at65_0 ct65_0 t65.1,rB at59_0 ct59_0 t59.1,rB at53_0 ct53_0 t53.1,row 48 1 (.slice at40_0_0 t40.1.1.length ct40_0_0) t40.1.1.length dt40_0_0,tie (El.sl (El.int .u8)) dt40_0_0 t40.1.1,row 48 1 (.slice at40_0_1 t40.1.2.length ct40_0_1) t40.1.2.length dt40_0_1,tie (El.sl (El.int .u8)) dt40_0_1 t40.1.2,row 48 1 (.slice at28_0_0 t28.1.1.length ct28_0_0) t28.1.1.length dt28_0_0,tie (El.sl (El.int .u8)) dt28_0_0 t28.1.1,row 48 1 (.slice at28_0_1 t28.1.2.length ct28_0_1) t28.1.2.length dt28_0_1,tie (El.sl (El.int .u8)) dt28_0_1 t28.1.2,blk nb1 (#[pt b0]) 25,R] w0 w∧av.l7 kq t192 x217 x218=some r∧kq≤kq173) (fun (x217,x218)=>[(20,vi x217)]) (_,_) ⟨HS,H,Nat.le_refl _⟩ ?_
           rintro kq219 ⟨x217,x218⟩ w ⟨HS,H,_⟩
           cases kq219 with
           |zero=>exact absurd H (by simp [av.l7])
           |succ kq219=>
            simp only [av.l7] at H
            refine go ?_
            refine V.cd H Z (fun _ H=>go ?_) (fun _ H=>go ?_)
            ·obtain ⟨c222,H⟩:=ite_n H
             obtain ⟨_,_,hh⟩:=(rdC.at 1 row_rd HS rfl).some (by decide) c222.1 c222.2;subst hh
             refine go ?_
             refine W.r (X.load underlying5 Z Z ((rdC.at 1 row_rd HS Z).cellI c222.1 c222.2)) Z (go ?_)
             refine W.inl (Y.cl (vs:=[pt b0,vi (1),vi (1),po b0 (0+18+1*6+1*3),Value.int .u8 (t192.1.getD x217.toNat 0)]) func63 (calls_enter func63 Z Z ?_)) Z Z Z
             refine go ?_
             obtain ⟨_,_,_,_,_,_,_,_,_,_,_,_,_,_,_,_,_,_,_,_,_,_,_,_,_,_,_,_,_,_,_,HS⟩:=ah.open HS
             refine go ?_
             have HS:=HS.b [1]
             refine W.kl H func126 (fun _ h=>aX.calls h HS.j1) ?_
             rintro t227 _ w H ⟨at227_1,ct227_1,rfl,HS⟩
             have HS:=HS.o2
             refine go ?_
             refine V.cd H Z (fun _ H=>go ?_) (fun _ H=>go ?_)
             ·have HS:=St.row_freeze HS
              refine W.e (Y.lc (e:=48) (sz:=1) [vs at227_1 t227.2.1.length ct227_1] HS Z Z (fun _=>by kernel_rfl)) Z ?_
              rintro _ w ⟨_,rfl,HS⟩
              have HS:=St.tie_cons (((St.sl_close (E:=(El.int .u8)) (St.swap (St.put (A:=tie (El.int .u8) (t227.2.1.map (Value.int .u8)) t227.2.1) (fun _=>int_tie) ((St.put (A:=tie (El.sl (El.int .u8)) ([]) (([]:List (List Int)))) (fun _=>tie.nil) HS).more 2 rfl (fun _ t=>t) fsl.pers)))).fr 1).fr 1)
              obtain ⟨_,H⟩:=ite_n H
              refine W.e (Y.app (xs:=x218.ways.2.2.got) (ys:=([t227.2.1]:List (List Int))) 24 underlying35 ap48 Z (by decide) HS Z Z Z (rdC.at 1 row_rd HS Z) (St.tie_one 0 HS Z) (by omega) (by omega)) Z ?_
              rintro _ w ⟨_,_,rfl,HS⟩
              have HS:=St.tie_app 1 (HS.fr 25) rfl
              refine go ?_
              refine W.sr 29 HS Z Z Z fun w HS=>go ?_
              refine At.end0 Z ⟨_,Z,?_⟩
              refine go ?_
              have HS:=(ah.close tv (HS.b [5,4,4,4,4,4,4,4,4,4,4,4,4,4,4,4,4,4,4,4,4,4])).ke [0,3,3,3,3,3,3,3,3,3,3,3,3,3,3,3,3,3,3]
              exact At.rn (_,_) ⟨HS,H,by omega⟩
             ·refine At.end0 Z ⟨_,Z,?_⟩
              refine go ?_
              have HS:=(ah.close tv (HS.b [2,1,1,1,1,1,1,1,1,1,1,1,1,1,1,1,1,1,1,1,1,1,1])).ke [0,1,1,1,1,1,1,1,1,1,1,1,1,1,1,1,1,1,1]
              exact At.rn (_,_) ⟨HS,H,by omega⟩
            ·refine At.end0 Z ⟨_,Z,?_⟩
             refine go ?_
             refine At.ow [(0,pt b0),(1,Value.func (.func 61) #[] #[pt nb1]),(4,vi (1)),(6,vi (1)),(9,vi (2))] (go ?_)
             refine At.ow [(0,pt b0),(1,Value.func (.func 61) #[] #[pt nb1]),(6,vi (2))] (go ?_)
             refine At.end0 Z ⟨_,Z,?_⟩
             refine go ?_
             obtain ⟨_,_,_,_,_,_,_,_,_,_,_,_,_,_,_,_,_,_,_,_,_,_,_,_,_,_,_,_,_,_,_,HS⟩:=ah.open HS
             refine go ?_
             refine W.sr 30 HS Z Z Z fun w HS=>go ?_
             have HS:=(ah.close tv HS).ke [0,17]
             exact rt
mutual
def bR.l0:Nat→(List (List Int))→Int→(List (List Int))→Option (List (List Int))
 |0,_,_,_=>none
 |k+1,a0,x4,x7=>(if x4<(a0.length:Int) then (if 0≤x4∧x4<(a0.length:Int) then ((aT.f (a0.getD x4.toNat [])).bind fun t21=>(if (x7.length:Int)+(([t21]:List (List Int))).length≤1099511627776 then (bR.l0 k a0 (w64 (x4+1)) (x7++([t21]:List (List Int)))) else none)) else none) else some x7)
end
def bR.f (k:Nat) (a0:List (List Int)):Option (List (List Int)):=(bR.l0 k a0 0 ([]:List (List Int)))
theorem bR.calls (H:bR.f k a0=some r) (HS:St [R] w0 w) (hr0:rdC R 1 (.slice sa0 a0.length sc0) a0.length sd0) (ht0:∀h,R h→tie (El.sl (El.int .u8)) sd0 a0 h):Calls Tryz.prog 64 #[vs sa0 a0.length sc0] w (Ret fun u w=>∃aq0 cq0 dq0,u=vs aq0 r.length cq0∧St [row 48 1 (.slice aq0 r.length cq0) r.length dq0,tie (El.sl (El.int .u8)) dq0 r,R] w0 w):=by
 refine calls_enter func64 Z Z ?_
 have HS:=St.more 0 HS rfl ht0 tie.pers
 refine go ?_
 have HS:=row_nilE (El.sl (El.int .u8)) 48 1 HS
 refine V.lj (σ:=Int × Option Addr × Nat × List Value × List (List Int)) [6,7] (fun kq (x4,ra5,rc6,rd8,x7) w=>St [row 48 1 (.slice ra5 x7.length rc6) x7.length rd8,tie (El.sl (El.int .u8)) rd8 x7,tie (El.sl (El.int .u8)) sd0 a0,R] w0 w∧bR.l0 kq a0 x4 x7=some r∧kq≤k) (fun (x4,ra5,rc6,rd8,x7)=>[(3,vs ra5 x7.length rc6),(8,vi x4)]) (_,_,_,_,_) ⟨HS,H,Nat.le_refl _⟩ ?_
 rintro kq9 ⟨x4,ra5,rc6,rd8,x7⟩ w ⟨HS,H,_⟩
 cases kq9 with
 |zero=>exact absurd H (by simp [bR.l0])
 |succ kq9=>
  simp only [bR.l0] at H
  refine go ?_
  refine V.cd H Z (fun _ H=>go ?_) (fun _ H=>go ?_)
  ·obtain ⟨c12,H⟩:=ite_n H
   obtain ⟨_,_,hh⟩:=(rdC.at 3 hr0 HS rfl).some (by decide) c12.1 c12.2;subst hh
   refine go ?_
   obtain ⟨_,hc16,HS⟩:=St.tie_at 2 HS rfl ([]) c12.1 c12.2
   obtain ⟨_,_,he20,HN⟩:=St.sl_openF (Value.int .u8) (fun t=>tie_int t) HS;clear HS;subst he20;have HS:=HN
   refine W.r (X.load underlying48 Z Z ((rdC.at 4 hr0 HS Z).cellEl0 (hc16 0 _ Z))) Z (go ?_)
   refine W.kl H func127 (fun _ h=>aT.calls h HS.j0 (rdC.part 0 fsl.rd Z)) ?_
   rintro t21 _ w H ⟨at21_0,ct21_0,rfl,HS⟩
   have HS:=St.row_freeze HS.o1
   refine W.e (Y.lc (e:=48) (sz:=1) [vs at21_0 t21.length ct21_0] HS Z Z (fun _=>by kernel_rfl)) Z ?_
   rintro _ w ⟨_,rfl,HS⟩
   have HS:=St.tie_cons (((St.sl_close (E:=(El.int .u8)) (St.swap (St.put (A:=tie (El.int .u8) (t21.map (Value.int .u8)) t21) (fun _=>int_tie) ((St.put (A:=tie (El.sl (El.int .u8)) ([]) (([]:List (List Int)))) (fun _=>tie.nil) HS).more 2 rfl (fun _ t=>t) fsl.pers)))).fr 1).fr 1)
   obtain ⟨_,H⟩:=ite_n H
   refine W.e (Y.app (xs:=x7) (ys:=([t21]:List (List Int))) 4 underlying35 ap48 Z (by decide) HS Z Z Z (rdC.at 1 row_rd HS Z) (St.tie_one 0 HS Z) (by omega) (by omega)) Z ?_
   rintro _ w ⟨_,_,rfl,HS⟩
   have HS:=St.tie_app 1 (HS.fr 5) rfl
   refine go ?_
   have HS:=HS.ke [5,0,4,4]
   exact At.rn (_,_,_,_,_) ⟨HS,H,by omega⟩
  ·have HS:=HS.ke [0,0,1]
   exact rt
def bB.f (k:Nat) (a0:ah) (a1:Int) (a2:Int):Option (List (List Int)):=(if a1≥0 then (if a1<2 then (if a2≥0 then (if a2<2 then (if 0≤a1∧a1<2 then (if a1=0 then (if 0≤a2∧a2<2 then (if a2=0 then ((bR.f k a0.ways.1.1.sent).bind fun t32=>some t32) else ((bR.f k a0.ways.1.2.sent).bind fun t58=>some t58)) else none) else (if 0≤a2∧a2<2 then (if a2=0 then ((bR.f k a0.ways.2.1.sent).bind fun t86=>some t86) else ((bR.f k a0.ways.2.2.sent).bind fun t112=>some t112)) else none)) else none) else some (([]:List (List Int)))) else some (([]:List (List Int)))) else some (([]:List (List Int)))) else some (([]:List (List Int))))
theorem bB.calls (H:bB.f k a0 a1 a2=some r) (HS:St [blk b0 (#[vi a0.c.Mode,vi a0.c.Modulus,vi a0.c.Window,vi a0.c.T1,vi a0.c.N2,vi a0.c.Hold,vi a0.c.Wait,vi a0.c.Keep,vi a0.c.Queue,vi a0.c.Size,vi a0.c.Ring,vi a0.c.Rate,vi a0.c.Bad,vi a0.c.Good,vb a0.c.Revert,vb a0.c.Wide,pt b16_p0,pt b17_p0,pt b18_p0,vs a19_p0 a0.ways.1.1.sent.length c19_p0,vs a20_p0 a0.ways.1.1.got.length c20_p0,pt b21_p0,vs a22_p0 a0.ways.1.2.sent.length c22_p0,vs a23_p0 a0.ways.1.2.got.length c23_p0,pt b24_p0,vs a25_p0 a0.ways.2.1.sent.length c25_p0,vs a26_p0 a0.ways.2.1.got.length c26_p0,pt b27_p0,vs a28_p0 a0.ways.2.2.sent.length c28_p0,vs a29_p0 a0.ways.2.2.got.length c29_p0,vi a0.now]) 83,aa.at b16_p0 a0.stations.1,aa.at b17_p0 a0.stations.2,au.at b18_p0 a0.ways.1.1.pipe,row 48 1 (.slice a19_p0 a0.ways.1.1.sent.length c19_p0) a0.ways.1.1.sent.length d19_p0,tie (El.sl (El.int .u8)) d19_p0 a0.ways.1.1.sent,row 48 1 (.slice a20_p0 a0.ways.1.1.got.length c20_p0) a0.ways.1.1.got.length d20_p0,tie (El.sl (El.int .u8)) d20_p0 a0.ways.1.1.got,au.at b21_p0 a0.ways.1.2.pipe,row 48 1 (.slice a22_p0 a0.ways.1.2.sent.length c22_p0) a0.ways.1.2.sent.length d22_p0,tie (El.sl (El.int .u8)) d22_p0 a0.ways.1.2.sent,row 48 1 (.slice a23_p0 a0.ways.1.2.got.length c23_p0) a0.ways.1.2.got.length d23_p0,tie (El.sl (El.int .u8)) d23_p0 a0.ways.1.2.got,au.at b24_p0 a0.ways.2.1.pipe,row 48 1 (.slice a25_p0 a0.ways.2.1.sent.length c25_p0) a0.ways.2.1.sent.length d25_p0,tie (El.sl (El.int .u8)) d25_p0 a0.ways.2.1.sent,row 48 1 (.slice a26_p0 a0.ways.2.1.got.length c26_p0) a0.ways.2.1.got.length d26_p0,tie (El.sl (El.int .u8)) d26_p0 a0.ways.2.1.got,au.at b27_p0 a0.ways.2.2.pipe,row 48 1 (.slice a28_p0 a0.ways.2.2.sent.length c28_p0) a0.ways.2.2.sent.length d28_p0,tie (El.sl (El.int .u8)) d28_p0 a0.ways.2.2.sent,row 48 1 (.slice a29_p0 a0.ways.2.2.got.length c29_p0) a0.ways.2.2.got.length d29_p0,tie (El.sl (El.int .u8)) d29_p0 a0.ways.2.2.got,R] w0 w):Calls Tryz.prog 42 #[pt b0,vi a1,vi a2] w (Ret fun u w=>∃aq0 cq0 dq0,u=vs aq0 r.length cq0∧St [row 48 1 (.slice aq0 r.length cq0) r.length dq0,tie (El.sl (El.int .u8)) dq0 r,blk b0 (#[vi a0.c.Mode,vi a0.c.Modulus,vi a0.c.Window,vi a0.c.T1,vi a0.c.N2,vi a0.c.Hold,vi a0.c.Wait,vi a0.c.Keep,vi a0.c.Queue,vi a0.c.Size,vi a0.c.Ring,vi a0.c.Rate,vi a0.c.Bad,vi a0.c.Good,vb a0.c.Revert,vb a0.c.Wide,pt b16_p0,pt b17_p0,pt b18_p0,vs a19_p0 a0.ways.1.1.sent.length c19_p0,vs a20_p0 a0.ways.1.1.got.length c20_p0,pt b21_p0,vs a22_p0 a0.ways.1.2.sent.length c22_p0,vs a23_p0 a0.ways.1.2.got.length c23_p0,pt b24_p0,vs a25_p0 a0.ways.2.1.sent.length c25_p0,vs a26_p0 a0.ways.2.1.got.length c26_p0,pt b27_p0,vs a28_p0 a0.ways.2.2.sent.length c28_p0,vs a29_p0 a0.ways.2.2.got.length c29_p0,vi a0.now]) 83,aa.at b16_p0 a0.stations.1,aa.at b17_p0 a0.stations.2,au.at b18_p0 a0.ways.1.1.pipe,row 48 1 (.slice a19_p0 a0.ways.1.1.sent.length c19_p0) a0.ways.1.1.sent.length d19_p0,tie (El.sl (El.int .u8)) d19_p0 a0.ways.1.1.sent,row 48 1 (.slice a20_p0 a0.ways.1.1.got.length c20_p0) a0.ways.1.1.got.length d20_p0,tie (El.sl (El.int .u8)) d20_p0 a0.ways.1.1.got,au.at b21_p0 a0.ways.1.2.pipe,row 48 1 (.slice a22_p0 a0.ways.1.2.sent.length c22_p0) a0.ways.1.2.sent.length d22_p0,tie (El.sl (El.int .u8)) d22_p0 a0.ways.1.2.sent,row 48 1 (.slice a23_p0 a0.ways.1.2.got.length c23_p0) a0.ways.1.2.got.length d23_p0,tie (El.sl (El.int .u8)) d23_p0 a0.ways.1.2.got,au.at b24_p0 a0.ways.2.1.pipe,row 48 1 (.slice a25_p0 a0.ways.2.1.sent.length c25_p0) a0.ways.2.1.sent.length d25_p0,tie (El.sl (El.int .u8)) d25_p0 a0.ways.2.1.sent,row 48 1 (.slice a26_p0 a0.ways.2.1.got.length c26_p0) a0.ways.2.1.got.length d26_p0,tie (El.sl (El.int .u8)) d26_p0 a0.ways.2.1.got,au.at b27_p0 a0.ways.2.2.pipe,row 48 1 (.slice a28_p0 a0.ways.2.2.sent.length c28_p0) a0.ways.2.2.sent.length d28_p0,tie (El.sl (El.int .u8)) d28_p0 a0.ways.2.2.sent,row 48 1 (.slice a29_p0 a0.ways.2.2.got.length c29_p0) a0.ways.2.2.got.length d29_p0,tie (El.sl (El.int .u8)) d29_p0 a0.ways.2.2.got,R] w0 w):=by
 refine calls_enter func42 Z Z (go ?_)
 refine W.inl (Y.cl (vs:=[pt b0,vi a1,vi a2]) func51 (calls_enter func51 Z Z ?_)) Z Z Z
 refine go ?_
 refine W.inl (Y.cl (vs:=[vi a1]) func53 (calls_enter func53 Z Z ?_)) Z Z Z
 refine go ?_
 refine W.cd 5 H Z (fun _ H=>go ?_) (fun _ H=>go ?_)
 ·refine At.ret1 Z Z ⟨_,Z,?_⟩
  refine go ?_
  refine W.cm 11 H Z (fun _ H=>go ?_) (fun _ H=>go ?_)
  ·refine W.inl (Y.cl (vs:=[vi a2]) func53 (calls_enter func53 Z Z ?_)) Z Z Z
   refine go ?_
   refine W.cd 5 H Z (fun _ H=>go ?_) (fun _ H=>go ?_)
   ·refine At.ret1 Z Z ⟨_,Z,?_⟩
    refine go ?_
    refine V.cm H Z (fun _ H=>go ?_) (fun _ H=>go ?_)
    ·obtain ⟨c5,H⟩:=ite_n H
     refine ite_c H (fun c6 H=>?_) (fun _ H=>?_)
     ·refine W.r (X.indexArK 0 c6 underlying81 inf80 Z Z c5.1 c5.2) Z ?_
      obtain ⟨c7,H⟩:=ite_n H
      refine ite_c H (fun c8 H=>?_) (fun _ H=>?_)
      ·refine W.r (X.indexArK 0 c8 underlying80 inf79 Z Z c7.1 c7.2) Z (go ?_)
       refine At.ret2 Z Z Z ⟨_,Z,?_⟩
       refine go ?_
       refine W.kl H func64 (fun _ h=>bR.calls h HS.j0 (rdC.part 4 row_rd Z) (fun h hh=>let ⟨_,l,t⟩:=Sp.has 5 hh Z;tie.mono t l)) ?_
       rintro _ _ w H ⟨_,_,_,rfl,HS⟩
       have HS:=HS.o2
       refine go ?_
       exact rt
      ·have hk34:a2=1:=by omega
       refine W.r (X.indexArK 1 hk34 underlying80 inf79 Z Z c7.1 c7.2) Z (go ?_)
       refine At.ret2 Z Z Z ⟨_,Z,?_⟩
       refine go ?_
       refine W.kl H func64 (fun _ h=>bR.calls h HS.j0 (rdC.part 9 row_rd Z) (fun h hh=>let ⟨_,l,t⟩:=Sp.has 10 hh Z;tie.mono t l)) ?_
       rintro _ _ w H ⟨_,_,_,rfl,HS⟩
       have HS:=HS.o2
       refine go ?_
       exact rt
     ·have hk60:a1=1:=by omega
      refine W.r (X.indexArK 1 hk60 underlying81 inf80 Z Z c5.1 c5.2) Z ?_
      obtain ⟨c61,H⟩:=ite_n H
      refine ite_c H (fun c62 H=>?_) (fun _ H=>?_)
      ·refine W.r (X.indexArK 0 c62 underlying80 inf79 Z Z c61.1 c61.2) Z (go ?_)
       refine At.ret2 Z Z Z ⟨_,Z,?_⟩
       refine go ?_
       refine W.kl H func64 (fun _ h=>bR.calls h HS.j0 (rdC.part 14 row_rd Z) (fun h hh=>let ⟨_,l,t⟩:=Sp.has 15 hh Z;tie.mono t l)) ?_
       rintro _ _ w H ⟨_,_,_,rfl,HS⟩
       have HS:=HS.o2
       refine go ?_
       exact rt
      ·have hk88:a2=1:=by omega
       refine W.r (X.indexArK 1 hk88 underlying80 inf79 Z Z c61.1 c61.2) Z (go ?_)
       refine At.ret2 Z Z Z ⟨_,Z,?_⟩
       refine go ?_
       refine W.kl H func64 (fun _ h=>bR.calls h HS.j0 (rdC.part 19 row_rd Z) (fun h hh=>let ⟨_,l,t⟩:=Sp.has 20 hh Z;tie.mono t l)) ?_
       rintro _ _ w H ⟨_,_,_,rfl,HS⟩
       have HS:=HS.o2
       refine go ?_
       exact rt
    ·refine At.ret2 Z Z Z ⟨_,Z,?_⟩
     refine go ?_
     have HS:=row_nilE (El.sl (El.int .u8)) 48 1 HS
     exact rt
   ·refine At.ret1 Z Z ⟨_,Z,?_⟩
    refine go ?_
    refine At.ret2 Z Z Z ⟨_,Z,?_⟩
    refine go ?_
    have HS:=row_nilE (El.sl (El.int .u8)) 48 1 HS
    exact rt
  ·refine At.ret2 Z Z Z ⟨_,Z,?_⟩
   refine go ?_
   have HS:=row_nilE (El.sl (El.int .u8)) 48 1 HS
   exact rt
 ·refine At.ret1 Z Z ⟨_,Z,?_⟩
  refine go ?_
  refine At.ret2 Z Z Z ⟨_,Z,?_⟩
  refine go ?_
  have HS:=row_nilE (El.sl (El.int .u8)) 48 1 HS
  exact rt
mutual
def bP.j0:Option Bool:=some false
def bP.j1 (k:Nat) (t3:Option ah × Int) (t3:Option ah × Int) (t3:Option ah × Int) (x15:Bool):Option Bool:=(if x15=true then some false else ((ee.f (t3.1.getD default)).bind fun t20=>((bS.f k ((t3.1.getD default).stations.1)).bind fun t22=>((av.f k ({(t3.1.getD default) with stations:=(t22.2,(t3.1.getD default).stations.2),ways:=((((t3.1.getD default).ways.1.1:bL),((t3.1.getD default).ways.1.2:bL)),(((t3.1.getD default).ways.2.1:bL),((t3.1.getD default).ways.2.2:bL)))}:ah)).bind fun t24=>(if t20=0 then ((bt.f t22.1).bind fun t27=>(if t27=0 then ((ee.f t24).bind fun t32=>(if t32=1 then ((bB.f k t24 0 0).bind fun t35=>some (decide ((t35.length:Int)=1))) else some false)) else some false)) else some false)))))
end
def bP.f (k:Nat):Option Bool:=((dg.f 0 3 30 false false).bind fun t1=>((eL.f k t1).bind fun t3=>(if t3.1.isNone=true then ((bt.f t3.2).bind fun t9=>(if t9=0 then bP.j0 else bP.j0)) else ((bt.f t3.2).bind fun t37=>(if t37=0 then (bP.j1 k t3 t3 t3 false) else (bP.j1 k t3 t3 t3 true))))))
theorem bP.calls (H:bP.f k=some r) (HS:St [R] w0 w):Calls Tryz.prog 8 #[] w (Ret fun u w=>u=vb r∧St [R] w0 w):=by
 refine calls_enter func8 Z Z (go ?_)
 refine W.kl H func24 (fun _ h=>dg.calls h HS.j0) ?_
 rintro _ _ w H ⟨rfl,HS⟩
 have HS:=HS.o0
 obtain ⟨t3,A4,H⟩:=bind_s H
 refine ite_c H (fun c5 H=>?_) (fun c5 H=>?_)
 ·refine W.e (Y.cl func9 (eL.calls A4 HS.j0)) Z ?_
  rintro _ w ⟨bt3_0,rfl,HS⟩
  have HS:=St.optN c5 HS.o1
  rw [optv_n c5]
  refine gs ?_
  refine V.seq ?_
  refine V.mj (σ:=Unit) [1] (fun _ w=>St [R] w0 w∧bP.j0=some r) (fun _=>[(26,vb true)]) ?_ ?_
  ·refine go ?_
   refine W.kl H func10 (fun _ h=>bt.calls h HS.j0) ?_
   rintro _ _ w H ⟨rfl,HS⟩
   have HS:=HS.o0
   refine go ?_
   refine W.cm 13 H Z (fun _ H=>go ?_) (fun _ H=>go ?_)
   ·refine W.r (X.eqP underlying25 Z Z) Z (go ?_)
    exact At.mt () ⟨HS,H⟩
   ·exact At.mt () ⟨HS,H⟩
  ·rintro ⟨⟩ w ⟨HS,H⟩
   refine go ?_
   exact rt
 ·refine W.e (Y.cl func9 (eL.calls A4 HS.j0)) Z ?_
  rintro _ w ⟨bt3_0,rfl,HS⟩
  have HS:=St.optS default c5 HS.o1
  rw [optv_s c5]
  refine gs ?_
  refine V.seq ?_
  refine V.mj (σ:=Bool) [1] (fun x15 w=>St [ah.at bt3_0 (t3.1.getD default),R] w0 w∧∃kf16,kf16≤k∧bP.j1 kf16 t3 t3 t3 x15=some r) (fun x15=>[(26,vb x15)]) ?_ ?_
  ·refine go ?_
   refine W.kl H func10 (fun _ h=>bt.calls h HS.j0) ?_
   rintro _ _ w H ⟨rfl,HS⟩
   have HS:=HS.o0
   refine go ?_
   refine W.cm 13 H Z (fun _ H=>go ?_) (fun _ H=>go ?_)
   ·refine W.r (X.eqP underlying25 Z Z) Z (go ?_)
    refine W.inl (Y.cl (vs:=[pt bt3_0,vi (0)]) func13 (calls_enter func13 Z Z ?_)) Z Z Z
    refine go ?_
    refine W.inl (Y.cl (vs:=[vi (0)]) func53 (calls_enter func53 Z Z ?_)) Z Z Z
    refine go ?_
    refine At.ret1 Z Z ⟨_,Z,?_⟩
    refine go ?_
    obtain ⟨_,_,_,_,_,_,_,_,_,_,_,_,_,_,_,_,_,_,_,_,_,_,_,_,_,_,_,_,_,_,_,HS⟩:=ah.open HS
    refine go ?_
    refine At.ret1 Z Z ⟨_,Z,?_⟩
    refine go ?_
    refine W.r (X.eqP underlying32 Z Z) Z (go ?_)
    refine W.inl (Y.cl (vs:=[pt bt3_0,vi (2)]) func13 (calls_enter func13 Z Z ?_)) Z Z Z
    refine go ?_
    refine W.inl (Y.cl (vs:=[vi (2)]) func53 (calls_enter func53 Z Z ?_)) Z Z Z
    refine go ?_
    refine At.ret1 Z Z ⟨_,Z,?_⟩
    refine go ?_
    refine At.ret1 Z Z ⟨_,Z,?_⟩
    refine go ?_
    refine W.r (X.neP underlying32 Z Z) Z (go ?_)
    have HS:=ah.close tv HS
    exact At.mt _ ⟨HS,k,by omega,H⟩
   ·exact At.mt _ ⟨HS,k,by omega,H⟩
  ·rintro x15 w ⟨HS,kf16,_,H⟩
   refine V.cv H Z (fun _ H=>go ?_) (fun _ H=>go ?_)
   ·have HS:=HS.ke [1]
    exact rt
   ·obtain ⟨_,_,_,_,_,_,_,_,_,_,_,_,_,_,_,_,_,_,_,_,_,_,_,_,_,_,_,_,_,_,_,HS⟩:=ah.open HS
    refine W.kl H func18 (fun _ h=>ee.calls h HS.j23) ?_
    rintro _ _ w H ⟨rfl,HS⟩
    have HS:=HS.o23
    refine go ?_
    refine W.inl (Y.cl (vs:=[pt bt3_0,vi (0)]) func13 (calls_enter func13 Z Z ?_)) Z Z Z
    refine go ?_
    refine W.inl (Y.cl (vs:=[vi (0)]) func53 (calls_enter func53 Z Z ?_)) Z Z Z
    refine go ?_
    refine At.ret1 Z Z ⟨_,Z,?_⟩
    refine go ?_
    refine At.ret1 Z Z ⟨_,Z,?_⟩
    have HS:=HS.b [1]
    refine W.kl H func14 (fun _ h=>bS.calls h HS.j1) ?_
    rintro _ _ w H ⟨rfl,HS⟩
    have HS:=HS.o1
    refine go ?_
    have HS:=ah.close tv (HS.b [1])
    refine W.kl H func15 (fun _ h=>av.calls h HS.j1) ?_
    rintro _ _ w H ⟨rfl,HS⟩
    have HS:=HS.o1
    refine go ?_
    refine W.cd 36 H Z (fun _ H=>go ?_) (fun _ H=>go ?_)
    ·refine W.kl H func10 (fun _ h=>bt.calls h HS.j0) ?_
     rintro _ _ w H ⟨rfl,HS⟩
     have HS:=HS.o0
     refine go ?_
     refine W.cd 41 H Z (fun _ H=>go ?_) (fun _ H=>go ?_)
     ·obtain ⟨_,_,_,_,_,_,_,_,_,_,_,_,_,_,_,_,_,_,_,_,_,_,_,_,_,_,_,_,_,_,_,HS⟩:=ah.open HS
      refine W.kl H func18 (fun _ h=>ee.calls h HS.j23) ?_
      rintro _ _ w H ⟨rfl,HS⟩
      have HS:=HS.o23
      refine go ?_
      refine W.cd 46 H Z (fun _ H=>go ?_) (fun _ H=>go ?_)
      ·refine W.kl H func42 (fun _ h=>bB.calls h HS.j23) ?_
       rintro _ _ w H ⟨_,_,_,rfl,HS⟩
       have HS:=HS.o25
       refine go ?_
       have HS:=HS.ke [25]
       exact rt
      ·have HS:=HS.ke [23]
       exact rt
     ·have HS:=HS.ke [1]
      exact rt
    ·have HS:=HS.ke [1]
     exact rt
def aW.f (a0:Int) (a1:Int) (a2:Int):Option Bool:=(if a0≥a1 then some (decide (a0≤a2)) else some false)
theorem aW.calls (H:aW.f a0 a1 a2=some r) (HS:St [R] w0 w):Calls Tryz.prog 108 #[vi a0,vi a1,vi a2] w (Ret fun u w=>u=vb r∧St [R] w0 w):=by
 refine calls_enter func108 Z Z (go ?_)
 refine W.cd 10 H Z (fun _ H=>go ?_) (fun _ H=>go ?_)
 ·exact rt
 ·exact rt
def eE.f (a0:Int) (a1:Int) (a2:Int):Option Int:=(if a0<a1 then some a1 else (if a0>a2 then some a2 else some a0))
theorem eE.calls (H:eE.f a0 a1 a2=some r) (HS:St [R] w0 w):Calls Tryz.prog 77 #[vi a0,vi a1,vi a2] w (Ret fun u w=>u=vi r∧St [R] w0 w):=by
 refine calls_enter func77 Z Z (go ?_)
 refine V.cd H Z (fun _ H=>go ?_) (fun _ H=>go ?_)
 ·exact rt
 ·refine V.cd H Z (fun _ H=>go ?_) (fun _ H=>go ?_)
  ·exact rt
  ·exact rt
def cU.f (a0:aw):Option Int:=((eE.f a0.Size 1 1000).bind fun t2=>some (w64 ((w64 (2*(w64 (t2+16))))+2)))
theorem cU.calls (H:cU.f a0=some r) (HS:St [R] w0 w):Calls Tryz.prog 50 #[Value.agg #[vi a0.Mode,vi a0.Modulus,vi a0.Window,vi a0.T1,vi a0.N2,vi a0.Hold,vi a0.Wait,vi a0.Keep,vi a0.Queue,vi a0.Size,vi a0.Ring,vi a0.Rate,vi a0.Bad,vi a0.Good,vb a0.Revert,vb a0.Wide]] w (Ret fun u w=>u=vi r∧St [R] w0 w):=by
 refine calls_enter func50 Z Z (go ?_)
 refine W.e (Y.box HS Z) Z ?_
 rintro _ w ⟨_,rfl,HS⟩
 refine go ?_
 refine W.kl H func77 (fun _ h=>eE.calls h HS.j0) ?_
 rintro _ _ w H ⟨rfl,HS⟩
 have HS:=HS.o0
 refine go ?_
 have HS:=HS.ke [1]
 exact rt
mutual
def aO.j3 (x9:Bool):Option Int:=(if x9=true then some (0) else some (1))
def aO.j2 (a0:aw) (x7:Bool):Option Int:=(if x7=true then ((cU.f a0).bind fun t15=>((aW.f a0.Ring t15 1048576).bind fun t17=>(if t17=true then (aO.j3 (decide ((w64 (a0.Keep*a0.Rate))≥32))) else (aO.j3 false)))) else (aO.j3 false))
def aO.j1 (a0:aw) (x5:Bool):Option Int:=(if x5=true then ((aW.f a0.Keep 1 65536).bind fun t23=>(if t23=true then ((aW.f a0.Queue 0 1000).bind fun t26=>(if t26=true then ((aW.f a0.Size 1 1000).bind fun t29=>(if t29=true then ((aW.f a0.Rate 1 4096).bind fun t32=>(if t32=true then ((aW.f a0.Bad 1 16).bind fun t35=>(if t35=true then ((aW.f a0.Good 1 16).bind fun t38=>(aO.j2 a0 t38)) else (aO.j2 a0 false))) else (aO.j2 a0 false))) else (aO.j2 a0 false))) else (aO.j2 a0 false))) else (aO.j2 a0 false))) else (aO.j2 a0 false))
def aO.j0 (a0:aw) (x3:Bool):Option Int:=(if x3=true then ((aW.f a0.Window 1 (w64 (a0.Modulus.tdiv (8)))).bind fun t43=>(if t43=true then ((aW.f a0.T1 1 1048576).bind fun t46=>(if t46=true then ((aW.f a0.Wait 1 1048576).bind fun t49=>(if t49=true then ((aW.f a0.N2 1 100).bind fun t52=>(if t52=true then ((aW.f a0.Hold 0 1048576).bind fun t55=>(aO.j1 a0 t55)) else (aO.j1 a0 false))) else (aO.j1 a0 false))) else (aO.j1 a0 false))) else (aO.j1 a0 false))) else (aO.j1 a0 false))
end
def aO.f (a0:aw):Option Int:=(if a0.Mode=0 then (if a0.Modulus=128 then (aO.j0 a0 true) else (aO.j0 a0 (decide (a0.Modulus=32768)))) else (if a0.Mode=1 then (if a0.Modulus=128 then (aO.j0 a0 true) else (aO.j0 a0 (decide (a0.Modulus=32768)))) else (aO.j0 a0 false)))
theorem aO.calls (H:aO.f a0=some r) (HS:St [R] w0 w):Calls Tryz.prog 48 #[Value.agg #[vi a0.Mode,vi a0.Modulus,vi a0.Window,vi a0.T1,vi a0.N2,vi a0.Hold,vi a0.Wait,vi a0.Keep,vi a0.Queue,vi a0.Size,vi a0.Ring,vi a0.Rate,vi a0.Bad,vi a0.Good,vb a0.Revert,vb a0.Wide]] w (Ret fun u w=>u=vi r∧St [R] w0 w):=by
 refine calls_enter func48 Z Z (go ?_)
 refine W.e (Y.box HS Z) Z ?_
 rintro _ w ⟨nb1,rfl,HS⟩
 refine gs ?_
 refine V.mj (σ:=Bool) [1] (fun x3 w=>St [aw.at nb1 a0,R] w0 w∧aO.j0 a0 x3=some r) (fun x3=>[(3,vb x3)]) ?_ ?_
 ·refine go ?_
  refine W.cd 7 H Z (fun _ H=>go ?_) (fun _ H=>go ?_)
  ·refine W.cd 16 H Z (fun _ H=>go ?_) (fun _ H=>go ?_)
   ·have HS:=aw.close tv HS
    exact At.mt _ ⟨HS,H⟩
   ·have HS:=aw.close tv HS
    exact At.mt _ ⟨HS,H⟩
  ·refine W.cd 12 H Z (fun _ H=>go ?_) (fun _ H=>go ?_)
   ·refine W.cd 16 H Z (fun _ H=>go ?_) (fun _ H=>go ?_)
    ·have HS:=aw.close tv HS
     exact At.mt _ ⟨HS,H⟩
    ·have HS:=aw.close tv HS
     exact At.mt _ ⟨HS,H⟩
   ·have HS:=aw.close tv HS
    exact At.mt _ ⟨HS,H⟩
 ·rintro x3 w ⟨HS,H⟩
  refine V.mj (σ:=Bool) [1] (fun x5 w=>St [aw.at nb1 a0,R] w0 w∧aO.j1 a0 x5=some r) (fun x5=>[(3,vb x5)]) ?_ ?_
  ·refine go ?_
   refine W.cv 23 H Z (fun _ H=>go ?_) (fun _ H=>go ?_)
   ·obtain ⟨_,HS⟩:=aw.open HS
    refine go ?_
    refine W.r (X.quo Z Z (by decide)) Z (go ?_)
    refine W.kl H func108 (fun _ h=>aW.calls h HS.j0) ?_
    rintro _ _ w H ⟨rfl,HS⟩
    have HS:=HS.o0
    refine go ?_
    refine W.cv 31 H Z (fun _ H=>go ?_) (fun _ H=>go ?_)
    ·refine W.kl H func108 (fun _ h=>aW.calls h HS.j0) ?_
     rintro _ _ w H ⟨rfl,HS⟩
     have HS:=HS.o0
     refine go ?_
     refine W.cv 36 H Z (fun _ H=>go ?_) (fun _ H=>go ?_)
     ·refine W.kl H func108 (fun _ h=>aW.calls h HS.j0) ?_
      rintro _ _ w H ⟨rfl,HS⟩
      have HS:=HS.o0
      refine go ?_
      refine W.cv 41 H Z (fun _ H=>go ?_) (fun _ H=>go ?_)
      ·refine W.kl H func108 (fun _ h=>aW.calls h HS.j0) ?_
       rintro _ _ w H ⟨rfl,HS⟩
       have HS:=HS.o0
       refine go ?_
       refine W.cv 46 H Z (fun _ H=>go ?_) (fun _ H=>go ?_)
       ·refine W.kl H func108 (fun _ h=>aW.calls h HS.j0) ?_
        rintro _ _ w H ⟨rfl,HS⟩
        have HS:=HS.o0
        refine go ?_
        have HS:=aw.close tv HS
        exact At.mt _ ⟨HS,H⟩
       ·have HS:=aw.close tv HS
        exact At.mt _ ⟨HS,H⟩
      ·have HS:=aw.close tv HS
       exact At.mt _ ⟨HS,H⟩
     ·have HS:=aw.close tv HS
      exact At.mt _ ⟨HS,H⟩
    ·have HS:=aw.close tv HS
     exact At.mt _ ⟨HS,H⟩
   ·exact At.mt _ ⟨HS,H⟩
  ·rintro x5 w ⟨HS,H⟩
   refine V.mj (σ:=Bool) [1] (fun x7 w=>St [aw.at nb1 a0,R] w0 w∧aO.j2 a0 x7=some r) (fun x7=>[(3,vb x7)]) ?_ ?_
   ·refine go ?_
    refine W.cv 52 H Z (fun _ H=>go ?_) (fun _ H=>go ?_)
    ·obtain ⟨_,HS⟩:=aw.open HS
     refine go ?_
     refine W.kl H func108 (fun _ h=>aW.calls h HS.j0) ?_
     rintro _ _ w H ⟨rfl,HS⟩
     have HS:=HS.o0
     refine go ?_
     refine W.cv 57 H Z (fun _ H=>go ?_) (fun _ H=>go ?_)
     ·refine W.kl H func108 (fun _ h=>aW.calls h HS.j0) ?_
      rintro _ _ w H ⟨rfl,HS⟩
      have HS:=HS.o0
      refine go ?_
      refine W.cv 62 H Z (fun _ H=>go ?_) (fun _ H=>go ?_)
      ·refine W.kl H func108 (fun _ h=>aW.calls h HS.j0) ?_
       rintro _ _ w H ⟨rfl,HS⟩
       have HS:=HS.o0
       refine go ?_
       refine W.cv 67 H Z (fun _ H=>go ?_) (fun _ H=>go ?_)
       ·refine W.kl H func108 (fun _ h=>aW.calls h HS.j0) ?_
        rintro _ _ w H ⟨rfl,HS⟩
        have HS:=HS.o0
        refine go ?_
        refine W.cv 72 H Z (fun _ H=>go ?_) (fun _ H=>go ?_)
        ·refine W.kl H func108 (fun _ h=>aW.calls h HS.j0) ?_
         rintro _ _ w H ⟨rfl,HS⟩
         have HS:=HS.o0
         refine go ?_
         refine W.cv 77 H Z (fun _ H=>go ?_) (fun _ H=>go ?_)
         ·refine W.kl H func108 (fun _ h=>aW.calls h HS.j0) ?_
          rintro _ _ w H ⟨rfl,HS⟩
          have HS:=HS.o0
          refine go ?_
          have HS:=aw.close tv HS
          exact At.mt _ ⟨HS,H⟩
         ·have HS:=aw.close tv HS
          exact At.mt _ ⟨HS,H⟩
        ·have HS:=aw.close tv HS
         exact At.mt _ ⟨HS,H⟩
       ·have HS:=aw.close tv HS
        exact At.mt _ ⟨HS,H⟩
      ·have HS:=aw.close tv HS
       exact At.mt _ ⟨HS,H⟩
     ·have HS:=aw.close tv HS
      exact At.mt _ ⟨HS,H⟩
    ·exact At.mt _ ⟨HS,H⟩
   ·rintro x7 w ⟨HS,H⟩
    refine V.mj (σ:=Bool) [] (fun x9 w=>St [aw.at nb1 a0,R] w0 w∧aO.j3 x9=some r) (fun x9=>[(3,vb x9)]) ?_ ?_
    ·refine ite_c H (fun c12 H=>?_) (fun c12 H=>?_)
     ·obtain ⟨_,HS⟩:=aw.open HS
      apply V.da [5,6] [7,8,9,10,11,12,13,14,15,16] [(82,_),(83,_),(84,_),(85,_),(86,_)] mo HS
      rfl
      refine T.eG [86,83] [7,8,9,10,11,12,13,14,15,16] [0,1,4] fun w HS=>?_
      refine Y.kl H func50 (fun _ h=>cU.calls h HS.j0) ?_
      rintro _ _ w H ⟨rfl,HS⟩
      have HS:=HS.o0
      refine T.nw HS ?_
      refine T.eG [85,87,83] [] [2,3] fun w HS=>?_
      refine Y.kl H func108 (fun _ h=>aW.calls h HS.j0) ?_
      rintro _ _ w H ⟨rfl,HS⟩
      have HS:=HS.o0
      refine ite_c H (fun c19 H=>?_) (fun c19 H=>?_)
      ·apply T.na [(88,_),(89,_),(90,_),(91,_),(92,_),(93,_),(94,_),(95,_),(96,_),(97,_),(3,_)] HS
       exact nmk
       refine T.ff [3] fun w HS=>?_
       have HS:=aw.close tv HS
       exact At.mt _ ⟨HS,H⟩
      ·apply T.na [(88,_),(89,_),(90,_),(91,_),(92,_),(93,_),(94,_),(95,_),(96,_),(97,_),(3,_)] HS
       exact nmk
       refine T.ff [3] fun w HS=>?_
       have HS:=aw.close tv HS
       exact At.mt _ ⟨HS,H⟩
     ·apply V.da [5,6] [7,8,9,10,11,12,13,14,15,16] [(82,_),(83,_),(84,_),(85,_),(86,_)] mo HS
      rfl
      refine T.dp [6] [7,8,9,10,11,12,13,14,15,16] [(87,undef)] nmk ?_
      refine T.dp [] [] [(88,undef),(89,vb false),(90,vb false),(91,undef),(92,undef),(93,undef),(94,undef),(95,undef),(96,undef),(97,vb false),(3,vb false)] nmk ?_
      refine T.ff [3] fun w HS=>?_
      exact At.mt _ ⟨HS,H⟩
    ·rintro x9 w ⟨HS,H⟩
     refine go ?_
     refine V.cx H Z (fun _ H=>go ?_) (fun _ H=>go ?_)
     ·have HS:=HS.ke [1]
      exact rt
     ·have HS:=HS.ke [1]
      exact rt
mutual
def bI.j1 (x1:Int) (x4:Int):Option Int:=(if ¬(x4=0) then (if (x1.tmod x4)>0 then some (w64 ((w64 (x1.tdiv x4))+1)) else some (w64 (x1.tdiv x4))) else none)
def bI.j0 (x1:Int) (x2:Int):Option Int:=(if x2<1 then (bI.j1 x1 1) else (bI.j1 x1 x2))
end
def bI.f (a0:Int) (a1:Int):Option Int:=(if a0<0 then (bI.j0 0 a1) else (bI.j0 a0 a1))
theorem bI.calls (H:bI.f a0 a1=some r) (HS:St [R] w0 w):Calls Tryz.prog 49 #[vi a0,vi a1] w (Ret fun u w=>u=vi r∧St [R] w0 w):=by
 refine calls_enter func49 Z Z ?_
 refine V.seq ?_
 refine gs ?_
 refine V.mj (σ:=Int × Int) [] (fun (x1,x2) w=>St [R] w0 w∧bI.j0 x1 x2=some r) (fun (x1,x2)=>[(0,vi x1),(1,vi x2)]) ?_ ?_
 ·refine go ?_
  refine V.cd H Z (fun _ H=>go ?_) (fun _ H=>go ?_)
  ·exact At.mt (_,_) ⟨HS,H⟩
  ·exact At.mt (_,_) ⟨HS,H⟩
 ·rintro ⟨x1,x2⟩ w ⟨HS,H⟩
  refine V.mj (σ:=Int) [0] (fun x4 w=>St [R] w0 w∧bI.j1 x1 x4=some r) (fun x4=>[(1,vi x4)]) ?_ ?_
  ·refine go ?_
   refine V.cd H Z (fun _ H=>go ?_) (fun _ H=>go ?_)
   ·exact At.mt _ ⟨HS,H⟩
   ·exact At.mt _ ⟨HS,H⟩
  ·rintro x4 w ⟨HS,H⟩
   refine go ?_
   obtain ⟨c6,H⟩:=ite_n H
   refine W.r (X.quo Z Z c6) Z (go ?_)
   refine W.r (X.rem Z Z c6) Z (go ?_)
   refine V.cd H Z (fun _ H=>go ?_) (fun _ H=>go ?_)
   ·exact rt
   ·exact rt
def cS.f (a0:aw):Option Int:=((aO.f a0).bind fun t3=>(if t3=0 then ((cU.f a0).bind fun t6=>((bI.f (w64 ((w64 (2*t6))+96)) a0.Rate).bind fun t8=>some (w64 (t8+4)))) else some (0)))
theorem cS.calls (H:cS.f a0=some r) (HS:St [R] w0 w):Calls Tryz.prog 11 #[Value.agg #[vi a0.Mode,vi a0.Modulus,vi a0.Window,vi a0.T1,vi a0.N2,vi a0.Hold,vi a0.Wait,vi a0.Keep,vi a0.Queue,vi a0.Size,vi a0.Ring,vi a0.Rate,vi a0.Bad,vi a0.Good,vb a0.Revert,vb a0.Wide]] w (Ret fun u w=>u=vi r∧St [R] w0 w):=by
 refine calls_enter func11 Z Z (go ?_)
 refine W.e (Y.box HS Z) Z ?_
 rintro _ w ⟨_,rfl,HS⟩
 refine go ?_
 refine W.kl H func48 (fun _ h=>aO.calls h HS.j0) ?_
 rintro _ _ w H ⟨rfl,HS⟩
 have HS:=HS.o0
 refine go ?_
 refine V.cm H Z (fun _ H=>go ?_) (fun _ H=>go ?_)
 ·apply V.da [1,6] [2,3,7,8] [(6,_),(10,_),(11,_)] mo HS
  rfl
  refine T.e [6] [7,8] [0] fun w HS=>?_
  refine Y.kl H func50 (fun _ h=>cU.calls h HS.j0) ?_
  rintro _ _ w H ⟨rfl,HS⟩
  have HS:=HS.o0
  apply T.na [(7,_),(8,_),(9,_)] HS
  exact nmk
  refine T.e [9,11] [] [2,3,4,5] fun w HS=>?_
  refine Y.kl H func49 (fun _ h=>bI.calls h HS.j0) ?_
  rintro _ _ w H ⟨rfl,HS⟩
  have HS:=HS.o0
  apply T.na [(12,_),(13,_),(2,_)] HS
  exact nmk
  refine T.ff [2] fun w HS=>?_
  refine go ?_
  have HS:=HS.ke [1]
  exact rt
 ·have HS:=HS.ke [1]
  exact rt
structure ag where
 W:ah
 said:(List (List (List Int)) × List (List (List Int)))
 heard:(List (List Int) × List (List Int))
 Downs:Int
deriving DecidableEq,Inhabited
end Go.Proofs.YtaejcbpijdacmaaGreat

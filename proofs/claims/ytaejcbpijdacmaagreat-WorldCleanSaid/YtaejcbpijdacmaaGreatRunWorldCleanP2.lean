/- WorldClean: the functions that its law reaches, as plain functions, and that the machine's calls come to what these say. Conditions: those that stand at each. -/
import Derived.Test.YtaejcbpijdacmaaGreatRunWorldCleanP1
set_option linter.all false
set_option maxRecDepth 100000
set_option maxHeartbeats 4000000
set_option synthInstance.maxSize 100000
set_option synthInstance.maxHeartbeats 1000000
namespace Go.Proofs.YtaejcbpijdacmaaGreat
open Go.RowKit Go.Proofs.YtaejcbpijdacmaaGreat.Sep Go.Proofs.YtaejcbpijdacmaaGreat.Walk Go.Proofs.Tryz
attribute [local irreducible] V W At T Code.rounds RdO RdOk
set_option autoImplicit true
set_option relaxedAutoImplicit true
abbrev ah.Q (b:Nat) (l0 l1 l2 l3 l4 l5 l6 l7 l8 l9 l10 l11 l12 l13:Int) (l14 l15:Bool) (l16 l17:aa) (l18:au) (l19 l20:List (List Int)) (l21:au) (l22 l23:List (List Int)) (l24:au) (l25 l26:List (List Int)) (l27:au) (l28 l29:List (List Int)) (l30:Int) (b16 b17 b18:Nat) (a19:Option Addr) (c19:Nat) (d19:List Value) (a20:Option Addr) (c20:Nat) (d20:List Value) (b21:Nat) (a22:Option Addr) (c22:Nat) (d22:List Value) (a23:Option Addr) (c23:Nat) (d23:List Value) (b24:Nat) (a25:Option Addr) (c25:Nat) (d25:List Value) (a26:Option Addr) (c26:Nat) (d26:List Value) (b27:Nat) (a28:Option Addr) (c28:Nat) (d28:List Value) (a29:Option Addr) (c29:Nat) (d29:List Value) (L:List As):List As:=blk b (#[vi l0,vi l1,vi l2,vi l3,vi l4,vi l5,vi l6,vi l7,vi l8,vi l9,vi l10,vi l11,vi l12,vi l13,vb l14,vb l15,pt b16,pt b17,pt b18,vs a19 l19.length c19,vs a20 l20.length c20,pt b21,vs a22 l22.length c22,vs a23 l23.length c23,pt b24,vs a25 l25.length c25,vs a26 l26.length c26,pt b27,vs a28 l28.length c28,vs a29 l29.length c29,vi l30]) 83::aa.at b16 l16::aa.at b17 l17::au.at b18 l18::row 48 1 (.slice a19 l19.length c19) l19.length d19::tie (El.sl (El.int .u8)) d19 l19::row 48 1 (.slice a20 l20.length c20) l20.length d20::tie (El.sl (El.int .u8)) d20 l20::au.at b21 l21::row 48 1 (.slice a22 l22.length c22) l22.length d22::tie (El.sl (El.int .u8)) d22 l22::row 48 1 (.slice a23 l23.length c23) l23.length d23::tie (El.sl (El.int .u8)) d23 l23::au.at b24 l24::row 48 1 (.slice a25 l25.length c25) l25.length d25::tie (El.sl (El.int .u8)) d25 l25::row 48 1 (.slice a26 l26.length c26) l26.length d26::tie (El.sl (El.int .u8)) d26 l26::au.at b27 l27::row 48 1 (.slice a28 l28.length c28) l28.length d28::tie (El.sl (El.int .u8)) d28 l28::row 48 1 (.slice a29 l29.length c29) l29.length d29::tie (El.sl (El.int .u8)) d29 l29::L
abbrev ah.P (b:Nat) (x:ah) (b16 b17 b18:Nat) (a19:Option Addr) (c19:Nat) (d19:List Value) (a20:Option Addr) (c20:Nat) (d20:List Value) (b21:Nat) (a22:Option Addr) (c22:Nat) (d22:List Value) (a23:Option Addr) (c23:Nat) (d23:List Value) (b24:Nat) (a25:Option Addr) (c25:Nat) (d25:List Value) (a26:Option Addr) (c26:Nat) (d26:List Value) (b27:Nat) (a28:Option Addr) (c28:Nat) (d28:List Value) (a29:Option Addr) (c29:Nat) (d29:List Value) (L:List As):List As:=ah.Q b x.c.Mode x.c.Modulus x.c.Window x.c.T1 x.c.N2 x.c.Hold x.c.Wait x.c.Keep x.c.Queue x.c.Size x.c.Ring x.c.Rate x.c.Bad x.c.Good x.c.Revert x.c.Wide x.stations.1 x.stations.2 x.ways.1.1.pipe x.ways.1.1.sent x.ways.1.1.got x.ways.1.2.pipe x.ways.1.2.sent x.ways.1.2.got x.ways.2.1.pipe x.ways.2.1.sent x.ways.2.1.got x.ways.2.2.pipe x.ways.2.2.sent x.ways.2.2.got x.now b16 b17 b18 a19 c19 d19 a20 c20 d20 b21 a22 c22 d22 a23 c23 d23 b24 a25 c25 d25 a26 c26 d26 b27 a28 c28 d28 a29 c29 d29 L
def ah.at (b:Nat) (x:ah):As:=fun h=>True∧∃b16:Nat,∃b17:Nat,∃b18:Nat,∃a19:Option Addr,∃c19:Nat,∃d19:List Value,∃a20:Option Addr,∃c20:Nat,∃d20:List Value,∃b21:Nat,∃a22:Option Addr,∃c22:Nat,∃d22:List Value,∃a23:Option Addr,∃c23:Nat,∃d23:List Value,∃b24:Nat,∃a25:Option Addr,∃c25:Nat,∃d25:List Value,∃a26:Option Addr,∃c26:Nat,∃d26:List Value,∃b27:Nat,∃a28:Option Addr,∃c28:Nat,∃d28:List Value,∃a29:Option Addr,∃c29:Nat,∃d29:List Value,Sp (ah.P b x b16 b17 b18 a19 c19 d19 a20 c20 d20 b21 a22 c22 d22 a23 c23 d23 b24 a25 c25 d25 a26 c26 d26 b27 a28 c28 d28 a29 c29 d29 []) h
theorem ah.open {b:Nat} {x:ah} {L:List As} {w0 w:World} (hs:Sep.St (ah.at b x::L) w0 w):∃b16:Nat,∃b17:Nat,∃b18:Nat,∃a19:Option Addr,∃c19:Nat,∃d19:List Value,∃a20:Option Addr,∃c20:Nat,∃d20:List Value,∃b21:Nat,∃a22:Option Addr,∃c22:Nat,∃d22:List Value,∃a23:Option Addr,∃c23:Nat,∃d23:List Value,∃b24:Nat,∃a25:Option Addr,∃c25:Nat,∃d25:List Value,∃a26:Option Addr,∃c26:Nat,∃d26:List Value,∃b27:Nat,∃a28:Option Addr,∃c28:Nat,∃d28:List Value,∃a29:Option Addr,∃c29:Nat,∃d29:List Value,True∧Sep.St (ah.P b x b16 b17 b18 a19 c19 d19 a20 c20 d20 b21 a22 c22 d22 a23 c23 d23 b24 a25 c25 d25 a26 c26 d26 b27 a28 c28 d28 a29 c29 d29 L) w0 w:=by
 obtain ⟨ho,ht,hu,h,hon,h1,h2,hd,e1,e2,⟨hi,b16,b17,b18,a19,c19,d19,a20,c20,d20,b21,a22,c22,d22,a23,c23,d23,b24,a25,c25,d25,a26,c26,d26,b27,a28,c28,d28,a29,c29,d29,hA⟩,hl⟩:=hs
 exact ⟨b16,b17,b18,a19,c19,d19,a20,c20,d20,b21,a22,c22,d22,a23,c23,d23,b24,a25,c25,d25,a26,c26,d26,b27,a28,c28,d28,a29,c29,d29,hi,St.open (m:=ah.P b x b16 b17 b18 a19 c19 d19 a20 c20 d20 b21 a22 c22 d22 a23 c23 d23 b24 a25 c25 d25 a26 c26 d26 b27 a28 c28 d28 a29 c29 d29 []) ⟨ho,ht,hu,h,hon,h1,h2,hd,e1,e2,hA,hl⟩⟩
theorem ah.close {b:Nat} {l0 l1 l2 l3 l4 l5 l6 l7 l8 l9 l10 l11 l12 l13:Int} {l14 l15:Bool} {l16 l17:aa} {l18:au} {l19 l20:List (List Int)} {l21:au} {l22 l23:List (List Int)} {l24:au} {l25 l26:List (List Int)} {l27:au} {l28 l29:List (List Int)} {l30:Int} {b16 b17 b18:Nat} {a19:Option Addr} {c19:Nat} {d19:List Value} {a20:Option Addr} {c20:Nat} {d20:List Value} {b21:Nat} {a22:Option Addr} {c22:Nat} {d22:List Value} {a23:Option Addr} {c23:Nat} {d23:List Value} {b24:Nat} {a25:Option Addr} {c25:Nat} {d25:List Value} {a26:Option Addr} {c26:Nat} {d26:List Value} {b27:Nat} {a28:Option Addr} {c28:Nat} {d28:List Value} {a29:Option Addr} {c29:Nat} {d29:List Value} {L:List As} {w0 w:World} (hi:True) (hs:Sep.St (ah.Q b l0 l1 l2 l3 l4 l5 l6 l7 l8 l9 l10 l11 l12 l13 l14 l15 l16 l17 l18 l19 l20 l21 l22 l23 l24 l25 l26 l27 l28 l29 l30 b16 b17 b18 a19 c19 d19 a20 c20 d20 b21 a22 c22 d22 a23 c23 d23 b24 a25 c25 d25 a26 c26 d26 b27 a28 c28 d28 a29 c29 d29 L) w0 w):Sep.St (ah.at b ({c:=({Mode:=l0,Modulus:=l1,Window:=l2,T1:=l3,N2:=l4,Hold:=l5,Wait:=l6,Keep:=l7,Queue:=l8,Size:=l9,Ring:=l10,Rate:=l11,Bad:=l12,Good:=l13,Revert:=l14,Wide:=l15}:aw),stations:=(l16,l17),ways:=((({pipe:=l18,sent:=l19,got:=l20}:bL),({pipe:=l21,sent:=l22,got:=l23}:bL)),(({pipe:=l24,sent:=l25,got:=l26}:bL),({pipe:=l27,sent:=l28,got:=l29}:bL))),now:=l30}:ah)::L) w0 w:=by
 have h2:=St.join (m:=ah.Q b l0 l1 l2 l3 l4 l5 l6 l7 l8 l9 l10 l11 l12 l13 l14 l15 l16 l17 l18 l19 l20 l21 l22 l23 l24 l25 l26 l27 l28 l29 l30 b16 b17 b18 a19 c19 d19 a20 c20 d20 b21 a22 c22 d22 a23 c23 d23 b24 a25 c25 d25 a26 c26 d26 b27 a28 c28 d28 a29 c29 d29 []) hs
 exact h2.mono fun h hh=>⟨hi,_,_,_,_,_,_,_,_,_,_,_,_,_,_,_,_,_,_,_,_,_,_,_,_,_,_,_,_,_,_,hh⟩
def eL.f (k:Nat) (a0:aw):Option (Option ah × Int):=((dk.f k a0).bind fun t5=>(if t5.1.isNone=true then (if t5.2=0 then none else some (none,t5.2)) else (if t5.2=0 then ((eM.f (w64 ((w64 (2*a0.Ring))+a0.Rate))).bind fun t15=>((eM.f (w64 ((w64 (2*a0.Ring))+a0.Rate))).bind fun t18=>((dk.f k a0).bind fun t21=>(if t21.1.isNone=true then (if t21.2=0 then none else some (none,t21.2)) else (if t21.2=0 then ((eM.f (w64 ((w64 (2*a0.Ring))+a0.Rate))).bind fun t31=>((eM.f (w64 ((w64 (2*a0.Ring))+a0.Rate))).bind fun t34=>some (some ({c:=a0,stations:=(t5.1.getD default,t21.1.getD default),ways:=((({pipe:=t15,sent:=([]:List (List Int)),got:=([]:List (List Int))}:bL),({pipe:=t31,sent:=([]:List (List Int)),got:=([]:List (List Int))}:bL)),(({pipe:=t18,sent:=([]:List (List Int)),got:=([]:List (List Int))}:bL),({pipe:=t34,sent:=([]:List (List Int)),got:=([]:List (List Int))}:bL))),now:=0}:ah),0))) else some (none,t21.2)))))) else some (none,t5.2))))
theorem eL.calls (H:eL.f k a0=some r) (HS:St [R] w0 w):Calls Tryz.prog 9 #[Value.agg #[vi a0.Mode,vi a0.Modulus,vi a0.Window,vi a0.T1,vi a0.N2,vi a0.Hold,vi a0.Wait,vi a0.Keep,vi a0.Queue,vi a0.Size,vi a0.Ring,vi a0.Rate,vi a0.Bad,vi a0.Good,vb a0.Revert,vb a0.Wide]] w (Ret fun u w=>∃bq0,u=Value.tuple #[optv bq0 r.1,vi r.2]∧St [optAt ah.at bq0 r.1,R] w0 w):=by
 refine calls_enter func9 Z Z (go ?_)
 refine W.e (Y.box HS Z) Z ?_
 rintro _ w ⟨nb1,rfl,HS⟩
 refine go ?_
 refine W.r (X.bd (Value.agg #[vi a0.Mode,vi a0.Modulus,vi a0.Window,vi a0.T1,vi a0.N2,vi a0.Hold,vi a0.Wait,vi a0.Keep,vi a0.Queue,vi a0.Size,vi a0.Ring,vi a0.Rate,vi a0.Bad,vi a0.Good,vb a0.Revert,vb a0.Wide,Value.pointer none,Value.pointer none,Value.pointer none,vs none 0 0,vs none 0 0,Value.pointer none,vs none 0 0,vs none 0 0,Value.pointer none,vs none 0 0,vs none 0 0,Value.pointer none,vs none 0 0,vs none 0 0,vi (0)]) Z (fun _=>by kernel_rfl)) Z ?_
 refine W.e (Y.box HS Z) Z ?_
 rintro _ w ⟨nb2,rfl,HS⟩
 refine go ?_
 refine V.rs 2 [(1,pt nb1),(4,pt nb2),(12,vi (0))] (go ?_)
 obtain ⟨_,A6,H⟩:=bind_s H
 refine ite_c H (fun c7 H=>?_) (fun c7 H=>?_)
 ·refine W.e (Y.cl func46 (dk.calls A6 HS.j0)) Z ?_
  rintro _ w ⟨bt5_0,rfl,HS⟩
  have HS:=St.optN c7 HS.o1
  rw [optv_n c7]
  refine go ?_
  refine V.cm H Z (fun _ H=>go ?_) (fun _ H=>go ?_)
  ·exact nomatch H
  ·have HS:=(HS.more (B:=optAt ah.at 0 none) 0 rfl (fun _ _=>tv) (fun _=>tv)).ke [0,2]
   exact rt
 ·refine W.e (Y.cl func46 (dk.calls A6 HS.j0)) Z ?_
  rintro _ w ⟨bt5_0,rfl,HS⟩
  have HS:=St.optS default c7 HS.o1
  rw [optv_s c7]
  refine go ?_
  refine V.cm H Z (fun _ H=>go ?_) (fun _ H=>go ?_)
  ·refine W.sr 16 HS Z Z Z fun w HS=>go ?_
   refine V.rs 2 [(1,pt nb1),(4,pt nb2),(5,vi (0)),(12,vi (0)),(29,vi (0))] (go ?_)
   apply V.da [9,15] [13,14] [(32,_),(33,_),(34,_),(35,_),(36,_),(37,_),(38,_),(39,_),(40,_),(42,_),(43,_),(44,_)] mo HS
   rfl
   refine T.e [40] [] [3,4,5,6,7,8] fun w HS=>?_
   refine Y.kl H func47 (fun _ h=>eM.calls h HS.j0) ?_
   rintro _ _ w H ⟨_,rfl,HS⟩
   have HS:=HS.o1
   apply T.na [(41,_),(45,_),(46,_)] HS
   exact nmk
   refine T.e [41,46] [] [0,1,2,10,11,12,13,14] fun w HS=>?_
   refine Y.sr 18 HS Z Z Z fun _ w HS=>?_
   refine T.nn HS ?_
   refine T.ff [1,4,5,12,29] fun w HS=>?_
   refine go ?_
   refine At.ow [(1,pt nb1),(4,pt nb2),(5,vi (0)),(12,vi (0)),(29,vi (1))] (go ?_)
   apply V.da [9,15] [13,14] [(32,_),(33,_),(34,_),(35,_),(36,_),(37,_),(38,_),(39,_),(40,_),(42,_),(43,_),(44,_)] mo HS
   rfl
   refine T.e [40] [] [3,4,5,6,7,8] fun w HS=>?_
   refine Y.kl H func47 (fun _ h=>eM.calls h HS.j0) ?_
   rintro _ _ w H ⟨_,rfl,HS⟩
   have HS:=HS.o1
   apply T.na [(41,_),(45,_),(46,_)] HS
   exact nmk
   refine T.e [41,46] [] [0,1,2,10,11,12,13,14] fun w HS=>?_
   refine Y.sr 24 HS Z Z Z fun _ w HS=>?_
   refine T.nn HS ?_
   refine T.ff [1,4,5,12,29] fun w HS=>?_
   refine go ?_
   refine At.ow [(1,pt nb1),(4,pt nb2),(5,vi (0)),(12,vi (0)),(29,vi (2))] (go ?_)
   refine At.ow [(1,pt nb1),(4,pt nb2),(12,vi (1))] (go ?_)
   obtain ⟨_,A22,H⟩:=bind_s H
   refine ite_c H (fun c23 H=>?_) (fun c23 H=>?_)
   ·refine W.e (Y.cl func46 (dk.calls A22 HS.j0)) Z ?_
    rintro _ w ⟨bt21_0,rfl,HS⟩
    have HS:=St.optN c23 HS.o1
    rw [optv_n c23]
    refine go ?_
    refine V.cm H Z (fun _ H=>go ?_) (fun _ H=>go ?_)
    ·exact nomatch H
    ·have HS:=(HS.more (B:=optAt ah.at 0 none) 0 rfl (fun _ _=>tv) (fun _=>tv)).ke [0,5]
     exact rt
   ·refine W.e (Y.cl func46 (dk.calls A22 HS.j0)) Z ?_
    rintro _ w ⟨bt21_0,rfl,HS⟩
    have HS:=St.optS default c23 HS.o1
    rw [optv_s c23]
    refine go ?_
    refine V.cm H Z (fun _ H=>go ?_) (fun _ H=>go ?_)
    ·refine W.sr 17 HS Z Z Z fun w HS=>go ?_
     refine V.rs 2 [(1,pt nb1),(4,pt nb2),(5,vi (1)),(12,vi (1)),(29,vi (0))] (go ?_)
     apply V.da [9,15] [13,14] [(32,_),(33,_),(34,_),(35,_),(36,_),(37,_),(38,_),(39,_),(40,_),(42,_),(43,_),(44,_)] mo HS
     rfl
     refine T.e [40] [] [3,4,5,6,7,8] fun w HS=>?_
     refine Y.kl H func47 (fun _ h=>eM.calls h HS.j0) ?_
     rintro _ _ w H ⟨_,rfl,HS⟩
     have HS:=HS.o1
     apply T.na [(41,_),(45,_),(46,_)] HS
     exact nmk
     refine T.e [41,46] [] [0,1,2,10,11,12,13,14] fun w HS=>?_
     refine Y.sr 21 HS Z Z Z fun _ w HS=>?_
     refine T.nn HS ?_
     refine T.ff [1,4,5,12,29] fun w HS=>?_
     refine go ?_
     refine At.ow [(1,pt nb1),(4,pt nb2),(5,vi (1)),(12,vi (1)),(29,vi (1))] (go ?_)
     apply V.da [9,15] [13,14] [(32,_),(33,_),(34,_),(35,_),(36,_),(37,_),(38,_),(39,_),(40,_),(42,_),(43,_),(44,_)] mo HS
     rfl
     refine T.e [40] [] [3,4,5,6,7,8] fun w HS=>?_
     refine Y.kl H func47 (fun _ h=>eM.calls h HS.j0) ?_
     rintro _ _ w H ⟨_,rfl,HS⟩
     have HS:=HS.o1
     apply T.na [(41,_),(45,_),(46,_)] HS
     exact nmk
     refine T.e [41,46] [] [0,1,2,10,11,12,13,14] fun w HS=>?_
     refine Y.sr 27 HS Z Z Z fun _ w HS=>?_
     refine T.nn HS ?_
     refine T.ff [1,4,5,12,29] fun w HS=>?_
     refine go ?_
     refine At.ow [(1,pt nb1),(4,pt nb2),(5,vi (1)),(12,vi (1)),(29,vi (2))] (go ?_)
     refine At.ow [(1,pt nb1),(4,pt nb2),(12,vi (2))] (go ?_)
     have HS:=(ah.close (l19:=([]:List (List Int))) (l20:=([]:List (List Int))) (l22:=([]:List (List Int))) (l23:=([]:List (List Int))) (l25:=([]:List (List Int))) (l26:=([]:List (List Int))) (l28:=([]:List (List Int))) (l29:=([]:List (List Int))) tv ((row_nilE (El.sl (El.int .u8)) 48 1 (row_nilE (El.sl (El.int .u8)) 48 1 (row_nilE (El.sl (El.int .u8)) 48 1 (row_nilE (El.sl (El.int .u8)) 48 1 (row_nilE (El.sl (El.int .u8)) 48 1 (row_nilE (El.sl (El.int .u8)) 48 1 (row_nilE (El.sl (El.int .u8)) 48 1 (row_nilE (El.sl (El.int .u8)) 48 1 HS)))))))).b [22,21,18,19,14,14,12,12,13,10,10,8,8,9,6,6,4,4,4,2,2])).ke [0,1]
     exact rt
    ·have HS:=(HS.more (B:=optAt ah.at 0 none) 0 rfl (fun _ _=>tv) (fun _=>tv)).ke [0,6]
     exact rt
  ·have HS:=(HS.more (B:=optAt ah.at 0 none) 0 rfl (fun _ _=>tv) (fun _=>tv)).ke [0,3]
   exact rt
def bt.f (a0:Int):Option Int:=some a0
theorem bt.calls (H:bt.f a0=some r) (HS:St [R] w0 w):Calls Tryz.prog 10 #[vi a0] w (Ret fun u w=>u=vi r∧St [R] w0 w):=by
 refine calls_enter func10 Z Z (go ?_)
 exact rt
def ee.f (a0:ah):Option Int:=some a0.now
theorem ee.calls (H:ee.f a0=some r) (HS:St [blk b0 (#[vi a0.c.Mode,vi a0.c.Modulus,vi a0.c.Window,vi a0.c.T1,vi a0.c.N2,vi a0.c.Hold,vi a0.c.Wait,vi a0.c.Keep,vi a0.c.Queue,vi a0.c.Size,vi a0.c.Ring,vi a0.c.Rate,vi a0.c.Bad,vi a0.c.Good,vb a0.c.Revert,vb a0.c.Wide,pt b16_p0,pt b17_p0,pt b18_p0,vs a19_p0 a0.ways.1.1.sent.length c19_p0,vs a20_p0 a0.ways.1.1.got.length c20_p0,pt b21_p0,vs a22_p0 a0.ways.1.2.sent.length c22_p0,vs a23_p0 a0.ways.1.2.got.length c23_p0,pt b24_p0,vs a25_p0 a0.ways.2.1.sent.length c25_p0,vs a26_p0 a0.ways.2.1.got.length c26_p0,pt b27_p0,vs a28_p0 a0.ways.2.2.sent.length c28_p0,vs a29_p0 a0.ways.2.2.got.length c29_p0,vi a0.now]) 83,aa.at b16_p0 a0.stations.1,aa.at b17_p0 a0.stations.2,au.at b18_p0 a0.ways.1.1.pipe,row 48 1 (.slice a19_p0 a0.ways.1.1.sent.length c19_p0) a0.ways.1.1.sent.length d19_p0,tie (El.sl (El.int .u8)) d19_p0 a0.ways.1.1.sent,row 48 1 (.slice a20_p0 a0.ways.1.1.got.length c20_p0) a0.ways.1.1.got.length d20_p0,tie (El.sl (El.int .u8)) d20_p0 a0.ways.1.1.got,au.at b21_p0 a0.ways.1.2.pipe,row 48 1 (.slice a22_p0 a0.ways.1.2.sent.length c22_p0) a0.ways.1.2.sent.length d22_p0,tie (El.sl (El.int .u8)) d22_p0 a0.ways.1.2.sent,row 48 1 (.slice a23_p0 a0.ways.1.2.got.length c23_p0) a0.ways.1.2.got.length d23_p0,tie (El.sl (El.int .u8)) d23_p0 a0.ways.1.2.got,au.at b24_p0 a0.ways.2.1.pipe,row 48 1 (.slice a25_p0 a0.ways.2.1.sent.length c25_p0) a0.ways.2.1.sent.length d25_p0,tie (El.sl (El.int .u8)) d25_p0 a0.ways.2.1.sent,row 48 1 (.slice a26_p0 a0.ways.2.1.got.length c26_p0) a0.ways.2.1.got.length d26_p0,tie (El.sl (El.int .u8)) d26_p0 a0.ways.2.1.got,au.at b27_p0 a0.ways.2.2.pipe,row 48 1 (.slice a28_p0 a0.ways.2.2.sent.length c28_p0) a0.ways.2.2.sent.length d28_p0,tie (El.sl (El.int .u8)) d28_p0 a0.ways.2.2.sent,row 48 1 (.slice a29_p0 a0.ways.2.2.got.length c29_p0) a0.ways.2.2.got.length d29_p0,tie (El.sl (El.int .u8)) d29_p0 a0.ways.2.2.got,R] w0 w):Calls Tryz.prog 18 #[pt b0] w (Ret fun u w=>u=vi r∧St [blk b0 (#[vi a0.c.Mode,vi a0.c.Modulus,vi a0.c.Window,vi a0.c.T1,vi a0.c.N2,vi a0.c.Hold,vi a0.c.Wait,vi a0.c.Keep,vi a0.c.Queue,vi a0.c.Size,vi a0.c.Ring,vi a0.c.Rate,vi a0.c.Bad,vi a0.c.Good,vb a0.c.Revert,vb a0.c.Wide,pt b16_p0,pt b17_p0,pt b18_p0,vs a19_p0 a0.ways.1.1.sent.length c19_p0,vs a20_p0 a0.ways.1.1.got.length c20_p0,pt b21_p0,vs a22_p0 a0.ways.1.2.sent.length c22_p0,vs a23_p0 a0.ways.1.2.got.length c23_p0,pt b24_p0,vs a25_p0 a0.ways.2.1.sent.length c25_p0,vs a26_p0 a0.ways.2.1.got.length c26_p0,pt b27_p0,vs a28_p0 a0.ways.2.2.sent.length c28_p0,vs a29_p0 a0.ways.2.2.got.length c29_p0,vi a0.now]) 83,aa.at b16_p0 a0.stations.1,aa.at b17_p0 a0.stations.2,au.at b18_p0 a0.ways.1.1.pipe,row 48 1 (.slice a19_p0 a0.ways.1.1.sent.length c19_p0) a0.ways.1.1.sent.length d19_p0,tie (El.sl (El.int .u8)) d19_p0 a0.ways.1.1.sent,row 48 1 (.slice a20_p0 a0.ways.1.1.got.length c20_p0) a0.ways.1.1.got.length d20_p0,tie (El.sl (El.int .u8)) d20_p0 a0.ways.1.1.got,au.at b21_p0 a0.ways.1.2.pipe,row 48 1 (.slice a22_p0 a0.ways.1.2.sent.length c22_p0) a0.ways.1.2.sent.length d22_p0,tie (El.sl (El.int .u8)) d22_p0 a0.ways.1.2.sent,row 48 1 (.slice a23_p0 a0.ways.1.2.got.length c23_p0) a0.ways.1.2.got.length d23_p0,tie (El.sl (El.int .u8)) d23_p0 a0.ways.1.2.got,au.at b24_p0 a0.ways.2.1.pipe,row 48 1 (.slice a25_p0 a0.ways.2.1.sent.length c25_p0) a0.ways.2.1.sent.length d25_p0,tie (El.sl (El.int .u8)) d25_p0 a0.ways.2.1.sent,row 48 1 (.slice a26_p0 a0.ways.2.1.got.length c26_p0) a0.ways.2.1.got.length d26_p0,tie (El.sl (El.int .u8)) d26_p0 a0.ways.2.1.got,au.at b27_p0 a0.ways.2.2.pipe,row 48 1 (.slice a28_p0 a0.ways.2.2.sent.length c28_p0) a0.ways.2.2.sent.length d28_p0,tie (El.sl (El.int .u8)) d28_p0 a0.ways.2.2.sent,row 48 1 (.slice a29_p0 a0.ways.2.2.got.length c29_p0) a0.ways.2.2.got.length d29_p0,tie (El.sl (El.int .u8)) d29_p0 a0.ways.2.2.got,R] w0 w):=by
 refine calls_enter func18 Z Z (go ?_)
 exact rt
def cP.f (a0:Int) (a1:Int):Option (Int × Int):=(if ¬(imax (1) (imin a1 (1073741824))=0) then (if (a0.tmod (imax (1) (imin a1 (1073741824))))<0 then some (w64 ((a0.tmod (imax (1) (imin a1 (1073741824))))+(imax (1) (imin a1 (1073741824)))),imax (1) (imin a1 (1073741824))) else some (a0.tmod (imax (1) (imin a1 (1073741824))),imax (1) (imin a1 (1073741824)))) else none)
theorem cP.calls (H:cP.f a0 a1=some r) (HS:St [R] w0 w):Calls Tryz.prog 175 #[vi a0,vi a1] w (Ret fun u w=>u=Value.tuple #[vi r.1,vi r.2]∧St [R] w0 w):=by
 refine calls_enter func175 Z Z (go ?_)
 obtain ⟨c1,H⟩:=ite_n H
 refine W.r (X.rem Z Z c1) Z (go ?_)
 refine V.cd H Z (fun _ H=>go ?_) (fun _ H=>go ?_)
 ·exact rt
 ·exact rt
def dK.f (a0:Int) (a1:Int):Option Int:=((cP.f a0 a1).bind fun t1=>((cP.f (w64 (t1.1+1)) t1.2).bind fun t3=>some t3.1))
theorem dK.calls (H:dK.f a0 a1=some r) (HS:St [R] w0 w):Calls Tryz.prog 112 #[vi a0,vi a1] w (Ret fun u w=>u=vi r∧St [R] w0 w):=by
 refine calls_enter func112 Z Z (go ?_)
 refine W.kl H func175 (fun _ h=>cP.calls h HS.j0) ?_
 rintro _ _ w H ⟨rfl,HS⟩
 have HS:=HS.o0
 refine go ?_
 refine W.kl H func175 (fun _ h=>cP.calls h HS.j0) ?_
 rintro _ _ w H ⟨rfl,HS⟩
 have HS:=HS.o0
 refine go ?_
 exact rt
def dh.f (a0:Int):Option Bool:=(if a0=128 then some true else some (decide (a0=32768)))
theorem dh.calls (H:dh.f a0=some r) (HS:St [R] w0 w):Calls Tryz.prog 299 #[vi a0] w (Ret fun u w=>u=vb r∧St [R] w0 w):=by
 refine calls_enter func299 Z Z (go ?_)
 refine W.cd 5 H Z (fun _ H=>go ?_) (fun _ H=>go ?_)
 ·exact rt
 ·exact rt
def eH.f (a0:Int) (a1:Int):Option Bool:=(if a0≥0 then some (decide (a0<a1)) else some false)
theorem eH.calls (H:eH.f a0 a1=some r) (HS:St [R] w0 w):Calls Tryz.prog 300 #[vi a0,vi a1] w (Ret fun u w=>u=vb r∧St [R] w0 w):=by
 refine calls_enter func300 Z Z (go ?_)
 refine W.cd 7 H Z (fun _ H=>go ?_) (fun _ H=>go ?_)
 ·exact rt
 ·exact rt
structure aF where
 Kind:Int
 Ns:Int
 Nr:Int
 Poll:Bool
deriving DecidableEq,Inhabited
abbrev aF.Q (b:Nat) (l0 l1 l2:Int) (l3:Bool) (L:List As):List As:=blk b (#[vi l0,vi l1,vi l2,vb l3]) 161::L
abbrev aF.P (b:Nat) (x:aF) (L:List As):List As:=aF.Q b x.Kind x.Ns x.Nr x.Poll L
def aF.at (b:Nat) (x:aF):As:=fun h=>True∧Sp (aF.P b x []) h
theorem aF.open {b:Nat} {x:aF} {L:List As} {w0 w:World} (hs:Sep.St (aF.at b x::L) w0 w):True∧Sep.St (aF.P b x L) w0 w:=by
 obtain ⟨ho,ht,hu,h,hon,h1,h2,hd,e1,e2,⟨hi,hA⟩,hl⟩:=hs
 exact ⟨hi,St.open (m:=aF.P b x []) ⟨ho,ht,hu,h,hon,h1,h2,hd,e1,e2,hA,hl⟩⟩
theorem aF.close {b:Nat} {l0 l1 l2:Int} {l3:Bool} {L:List As} {w0 w:World} (hi:True) (hs:Sep.St (aF.Q b l0 l1 l2 l3 L) w0 w):Sep.St (aF.at b ({Kind:=l0,Ns:=l1,Nr:=l2,Poll:=l3}:aF)::L) w0 w:=by
 have h2:=St.join (m:=aF.Q b l0 l1 l2 l3 []) hs
 exact h2.mono fun h hh=>⟨hi,hh⟩
mutual
def dc.j0 (a0:aF) (a1:Int) (x12:Bool):Option Bool:=(if x12=true then (if a0.Ns=0 then ((eH.f a0.Nr a1).bind fun t18=>some t18) else some false) else (if a0.Kind≥3 then (if a0.Kind≤7 then (if a0.Ns=0 then some (decide (a0.Nr=0)) else some false) else some false) else some false))
end
def dc.f (a0:aF) (a1:Int):Option Bool:=((dh.f a1).bind fun t2=>(if t2=true then (if a0.Kind=0 then ((eH.f a0.Ns a1).bind fun t6=>(if t6=true then ((eH.f a0.Nr a1).bind fun t9=>some t9) else some false)) else (if a0.Kind=1 then (dc.j0 a0 a1 true) else (dc.j0 a0 a1 (decide (a0.Kind=2))))) else some false))
theorem dc.calls (H:dc.f a0 a1=some r) (HS:St [R] w0 w):Calls Tryz.prog 269 #[Value.agg #[vi a0.Kind,vi a0.Ns,vi a0.Nr,vb a0.Poll],vi a1] w (Ret fun u w=>u=vb r∧St [R] w0 w):=by
 refine calls_enter func269 Z Z (go ?_)
 refine W.e (Y.box HS Z) Z ?_
 rintro _ w ⟨nb1,rfl,HS⟩
 refine go ?_
 refine W.kl H func299 (fun _ h=>dh.calls h HS.j0) ?_
 rintro _ _ w H ⟨rfl,HS⟩
 have HS:=HS.o0
 refine go ?_
 refine V.cx H Z (fun _ H=>go ?_) (fun _ H=>go ?_)
 ·refine V.cd H Z (fun _ H=>go ?_) (fun _ H=>?_)
  ·refine W.kl H func300 (fun _ h=>eH.calls h HS.j0) ?_
   rintro _ _ w H ⟨rfl,HS⟩
   have HS:=HS.o0
   refine go ?_
   refine W.cv 17 H Z (fun _ H=>go ?_) (fun _ H=>go ?_)
   ·refine W.kl H func300 (fun _ h=>eH.calls h HS.j0) ?_
    rintro _ _ w H ⟨rfl,HS⟩
    have HS:=HS.o0
    refine go ?_
    have HS:=HS.ke [1]
    exact rt
   ·have HS:=HS.ke [1]
    exact rt
  ·refine V.mj (σ:=Bool) [1,2] (fun x12 w=>St [aF.at nb1 a0,R] w0 w∧dc.j0 a0 a1 x12=some r) (fun x12=>[(23,vb x12)]) ?_ ?_
   ·refine go ?_
    refine W.cd 27 H Z (fun _ H=>go ?_) (fun _ H=>go ?_)
    ·have HS:=aF.close tv HS
     exact At.mt _ ⟨HS,H⟩
    ·have HS:=aF.close tv HS
     exact At.mt _ ⟨HS,H⟩
   ·rintro x12 w ⟨HS,H⟩
    refine V.cv H Z (fun _ H=>go ?_) (fun _ H=>go ?_)
    ·obtain ⟨_,HS⟩:=aF.open HS
     refine go ?_
     refine W.cd 35 H Z (fun _ H=>go ?_) (fun _ H=>go ?_)
     ·refine W.kl H func300 (fun _ h=>eH.calls h HS.j0) ?_
      rintro _ _ w H ⟨rfl,HS⟩
      have HS:=HS.o0
      refine go ?_
      have HS:=HS.ke [1]
      exact rt
     ·have HS:=HS.ke [1]
      exact rt
    ·obtain ⟨_,HS⟩:=aF.open HS
     refine go ?_
     refine W.cd 44 H Z (fun _ H=>go ?_) (fun _ H=>go ?_)
     ·refine W.cd 49 H Z (fun _ H=>go ?_) (fun _ H=>go ?_)
      ·refine W.cd 54 H Z (fun _ H=>go ?_) (fun _ H=>go ?_)
       ·have HS:=HS.ke [1]
        exact rt
       ·have HS:=HS.ke [1]
        exact rt
      ·have HS:=HS.ke [1]
       exact rt
     ·have HS:=HS.ke [1]
      exact rt
 ·have HS:=HS.ke [1]
  exact rt
def fc.f (a0:Bool):Option Int:=(if a0=true then some (1) else some (0))
theorem fc.calls (H:fc.f a0=some r) (HS:St [R] w0 w):Calls Tryz.prog 270 #[vb a0] w (Ret fun u w=>u=vi r∧St [R] w0 w):=by
 refine calls_enter func270 Z Z (go ?_)
 refine V.cv H Z (fun _ H=>go ?_) (fun _ H=>go ?_)
 ·exact rt
 ·exact rt
def bZ.f (a0:List Int) (a1:Int) (a2:Int):Option (List Int):=(if (a0.length:Int)+([IntKind.u8.wrap a1]:List Int).length≤1099511627776 then (if a2=32768 then (if ((a0++([IntKind.u8.wrap a1]:List Int)).length:Int)+(([IntKind.u8.wrap (a1.fdiv (2^(min (8:Int).toNat IntKind.i64.bits)))]:List Int)).length≤1099511627776 then some ((a0++([IntKind.u8.wrap a1]:List Int))++([IntKind.u8.wrap (a1.fdiv (2^(min (8:Int).toNat IntKind.i64.bits)))]:List Int)) else none) else some (a0++([IntKind.u8.wrap a1]:List Int))) else none)
theorem bZ.calls (H:bZ.f a0 a1 a2=some r) (HS:St [rB sa0 sc0 a0,R] w0 w):Calls Tryz.prog 271 #[vs sa0 a0.length sc0,vi a1,vi a2] w (Ret fun u w=>∃aq0 cq0,u=vs aq0 r.length cq0∧St [rB aq0 cq0 r,R] w0 w):=by
 refine calls_enter func271 Z Z (go ?_)
 refine W.e (Y.ls (e:=5) (Value.int .u8) ([IntKind.u8.wrap a1]:List Int) HS Z Z (fun _=>by kernel_rfl)) Z ?_
 rintro _ w ⟨_,rfl,HS⟩
 obtain ⟨_,H⟩:=ite_n H
 refine W.e (Y.appF (Value.int .u8) (fun _=>Z) 1 underlying48 ap5 Z HS Z Z Z (rdC.at 0 row_rd HS Z) (by omega) (by omega)) Z ?_
 rintro _ w ⟨_,_,rfl,HS⟩
 refine go ?_
 refine V.cd H Z (fun _ H=>go ?_) (fun _ H=>go ?_)
 ·refine W.r (X.shr Z Z (by decide)) Z (go ?_)
  refine W.e (Y.ls (e:=5) (Value.int .u8) ([IntKind.u8.wrap (a1.fdiv (2^(min (8:Int).toNat IntKind.i64.bits)))]:List Int) HS Z Z (fun _=>by kernel_rfl)) Z ?_
  rintro _ w ⟨_,rfl,HS⟩
  obtain ⟨_,H⟩:=ite_n H
  refine W.e (Y.appF (Value.int .u8) (fun _=>Z) 2 underlying48 ap5 Z HS Z Z Z (rdC.at 0 row_rd HS Z) (by omega) (by omega)) Z ?_
  rintro _ w ⟨_,_,rfl,HS⟩
  refine go ?_
  have HS:=HS.ke [2,2]
  exact rt
 ·have HS:=HS.ke [1,1]
  exact rt
def dR.f:Option (List Int):=some ([111,99,67,15,135]:List Int)
theorem dR.calls (H:dR.f=some r) (HS:St [R] w0 w):Calls Tryz.prog 272 #[] w (Ret fun u w=>∃aq0 cq0,u=vs aq0 r.length cq0∧St [rB aq0 cq0 r,R] w0 w):=by
 refine calls_enter func272 Z Z (go ?_)
 refine W.e (Y.ls (e:=5) (Value.int .u8) ([111,99,67,15,135]:List Int) HS Z Z (fun _=>by kernel_rfl)) Z ?_
 rintro _ w ⟨_,rfl,HS⟩
 refine go ?_
 exact rt
def eC.f (a0:aF) (a1:Int):Option (List Int):=((dc.f a0 a1).bind fun t3=>(if t3=true then ((fc.f a0.Poll).bind fun t6=>(if a0.Kind=0 then ((bZ.f ([]:List Int) (w64 (2*a0.Ns)) a1).bind fun t9=>((bZ.f t9 (w64 ((w64 (2*a0.Nr))+t6)) a1).bind fun t11=>some t11)) else (if a0.Kind=1 then ((bZ.f ([]:List Int) 1 a1).bind fun t14=>((bZ.f t14 (w64 ((w64 (2*a0.Nr))+t6)) a1).bind fun t16=>some t16)) else (if a0.Kind=2 then ((bZ.f ([]:List Int) 9 a1).bind fun t19=>((bZ.f t19 (w64 ((w64 (2*a0.Nr))+t6)) a1).bind fun t21=>some t21)) else ((dR.f).bind fun t23=>(if 0≤w64 (a0.Kind-3)∧w64 (a0.Kind-3)<(t23.length:Int) then some (([ior .u8 (t23.getD (w64 (a0.Kind-3)).toNat 0) (IntKind.u8.wrap (w64 (t6*16)))]:List Int)) else none)))))) else some ([]:List Int)))
theorem eC.calls (H:eC.f a0 a1=some r) (HS:St [R] w0 w):Calls Tryz.prog 230 #[Value.agg #[vi a0.Kind,vi a0.Ns,vi a0.Nr,vb a0.Poll],vi a1] w (Ret fun u w=>∃aq0 cq0,u=vs aq0 r.length cq0∧St [rB aq0 cq0 r,R] w0 w):=by
 refine calls_enter func230 Z Z (go ?_)
 refine W.e (Y.box HS Z) Z ?_
 rintro _ w ⟨_,rfl,HS⟩
 refine go ?_
 refine W.kl H func269 (fun _ h=>dc.calls h HS.j0) ?_
 rintro _ _ w H ⟨rfl,HS⟩
 have HS:=HS.o0
 refine go ?_
 refine V.cx H Z (fun _ H=>go ?_) (fun _ H=>go ?_)
 ·refine W.kl H func270 (fun _ h=>fc.calls h HS.j0) ?_
  rintro t6 _ w H ⟨rfl,HS⟩
  have HS:=HS.o0
  refine go ?_
  refine V.cd H Z (fun _ H=>go ?_) (fun _ H=>go ?_)
  ·apply V.da [4,11] [12] [(17,_),(18,_),(19,_),(20,_),(22,_),(23,_),(24,_),(25,_),(26,_),(27,_)] mo HS
   rfl
   refine T.e [19,20] [12] [0,1,2,3] fun w HS=>?_
   have HS:=row_nilF (Value.int .u8) 5 1 HS
   refine Y.kl H func271 (fun _ h=>bZ.calls h HS.j1) ?_
   rintro _ _ w H ⟨_,_,rfl,HS⟩
   have HS:=HS.o1
   refine T.nw HS ?_
   refine T.e [21,26,27] [] [5,6,7,8,9,10] fun w HS=>?_
   refine Y.kl H func271 (fun _ h=>bZ.calls h HS.j1) ?_
   rintro _ _ w H ⟨_,_,rfl,HS⟩
   have HS:=HS.o1
   apply T.na [(28,_),(4,_)] HS
   exact nmk
   refine T.ff [4] fun w HS=>?_
   refine go ?_
   have HS:=HS.ke [0,1]
   exact rt
  ·refine V.cd H Z (fun _ H=>go ?_) (fun _ H=>go ?_)
   ·apply V.da [1,8] [9] [(31,_),(33,_),(34,_),(35,_),(36,_),(37,_),(38,_)] mo HS
    rfl
    refine T.e [31] [9] [0] fun w HS=>?_
    have HS:=row_nilF (Value.int .u8) 5 1 HS
    refine Y.kl H func271 (fun _ h=>bZ.calls h HS.j1) ?_
    rintro _ _ w H ⟨_,_,rfl,HS⟩
    have HS:=HS.o1
    refine T.nw HS ?_
    refine T.e [32,37,38] [] [2,3,4,5,6,7] fun w HS=>?_
    refine Y.kl H func271 (fun _ h=>bZ.calls h HS.j1) ?_
    rintro _ _ w H ⟨_,_,rfl,HS⟩
    have HS:=HS.o1
    apply T.na [(39,_),(4,_)] HS
    exact nmk
    refine T.ff [4] fun w HS=>?_
    refine go ?_
    have HS:=HS.ke [0,1]
    exact rt
   ·refine V.cd H Z (fun _ H=>go ?_) (fun _ H=>go ?_)
    ·apply V.da [1,8] [9] [(42,_),(44,_),(45,_),(46,_),(47,_),(48,_),(49,_)] mo HS
     rfl
     refine T.e [42] [9] [0] fun w HS=>?_
     have HS:=row_nilF (Value.int .u8) 5 1 HS
     refine Y.kl H func271 (fun _ h=>bZ.calls h HS.j1) ?_
     rintro _ _ w H ⟨_,_,rfl,HS⟩
     have HS:=HS.o1
     refine T.nw HS ?_
     refine T.e [43,48,49] [] [2,3,4,5,6,7] fun w HS=>?_
     refine Y.kl H func271 (fun _ h=>bZ.calls h HS.j1) ?_
     rintro _ _ w H ⟨_,_,rfl,HS⟩
     have HS:=HS.o1
     apply T.na [(50,_),(4,_)] HS
     exact nmk
     refine T.ff [4] fun w HS=>?_
     refine go ?_
     have HS:=HS.ke [0,1]
     exact rt
    ·apply V.da [0,10] [4,5,9,11] [(52,_),(53,_),(54,_),(57,_),(58,_),(59,_)] mo HS
     rfl
     refine T.e [] [11] [] fun w HS=>?_
     refine Y.kl H func272 (fun _ h=>dR.calls h HS.j0) ?_
     rintro t23 _ w H ⟨_,_,rfl,HS⟩
     have HS:=HS.o1
     obtain ⟨c25,H⟩:=ite_n H
     obtain ⟨_,_,hh⟩:=(rdC.at 0 row_rd HS rfl).some (by decide) c25.1 c25.2;subst hh
     apply T.na [(51,_),(55,_),(56,_),(60,_)] HS
     exact nmk
     refine T.e [60] [] [1,2,3,4,5,6,7,8,9] (fun w HS=>?_) ⟨rd,rd,rd,rd,.n1 55 Z Z (fun w HS=>X.load underlying5 Z Z ((rdC.at 0 row_rd HS Z).cellI c25.1 c25.2)),rd,rd,rd,.n2 56 59 Z Z Z (fun w HS=>X.or Z Z),rds⟩
     refine ⟨_,Y.ls (e:=5) (Value.int .u8) ([ior .u8 (t23.getD (w64 (a0.Kind-3)).toNat 0) (IntKind.u8.wrap (w64 (t6*16)))]:List Int) HS Z Z (fun _=>by kernel_rfl),?_⟩
     rintro _ w ⟨_,rfl,HS⟩
     apply T.na [(61,_),(4,_)] HS
     exact nmk
     refine T.ff [4] fun w HS=>?_
     refine go ?_
     have HS:=HS.ke [0,2]
     exact rt
 ·have HS:=(row_nilF (Value.int .u8) 5 1 HS).ke [0,1]
  exact rt
def dq.f (k:Nat) (a0:ae) (a1:Int) (a2:aF) (a3:List Int):Option ae:=((eC.f a2 a0.m).bind fun t7=>((aG.f k ([([IntKind.u8.wrap (a1.fdiv (2^(min (8:Int).toNat IntKind.i64.bits))),IntKind.u8.wrap a1]:List Int),t7,a3]:List (List Int))).bind fun t12=>(if (a0.out.length:Int)+(([t12]:List (List Int))).length≤1099511627776 then some (({a0 with out:=a0.out++([t12]:List (List Int))}:ae)) else none)))
theorem dq.calls (H:dq.f k a0 a1 a2 a3=some r) (HS:St [ae.at b0 a0,fB sa3 sc3 a3,R] w0 w):Calls Tryz.prog 176 #[pt b0,vi a1,Value.agg #[vi a2.Kind,vi a2.Ns,vi a2.Nr,vb a2.Poll],vs sa3 a3.length sc3] w (Ret fun u w=>u=Value.tuple #[]∧St [ae.at b0 r,R] w0 w):=by
 refine calls_enter func176 Z Z (go ?_)
 refine W.e (Y.box HS Z) Z ?_
 rintro _ w ⟨_,rfl,HS⟩
 refine go ?_
 have HS:=HS.fr 1
 obtain ⟨_,_,_,_,_,_,_,_,_,HS⟩:=ae.open HS
 apply V.da [10,16,18,19,20,21,24] [22,23] [(8,_),(9,_),(10,_),(11,_),(12,_),(13,_),(14,_),(15,_),(16,_),(17,_),(19,_),(20,_),(21,_),(22,_),(23,_),(25,_)] mo HS
 rfl
 refine T.two Z Z ⟨.mv 0,.mv 0,.nc 9,.fa 10 fx,.ld 11 0 underlying35,.mv 1,.n1 13 Z Z (fun w HS=>X.shr Z Z (by decide)),.n1 14 Z Z (fun w HS=>X.conv underlying3 underlying5 Z),.mv 1,.n1 16 Z Z (fun w HS=>X.conv underlying3 underlying5 Z),.n1 6 Z Z (fun w HS=>X.loadSt 7 [vi a2.Kind,vi a2.Ns,vi a2.Nr,vb a2.Poll] HS Z underlying161 Z inf161 Z Z),.mv 0,.nc 20,.fa 21 fw,.ld 22 0 underlying3,.mv 3,tv⟩ (T.step (es:=[16,18,19,20,21,24]) _ [(15,Value.int .u8 (IntKind.u8.wrap (a1.fdiv (2^(min (8:Int).toNat IntKind.i64.bits))))),(17,Value.int .u8 (IntKind.u8.wrap a1))] Z ⟨.inr ⟨Z,Z⟩,⟨.inr ⟨Z,Z⟩,tv⟩⟩ (Or.inl Z) (by intro d hd;cases hd;exact ⟨by decide,Z,Z⟩) [22,23] [5,6,7,8,9] Z Z Z Z Z (fun w HS=>?_)) (T.step (es:=[10,18,19,20,21,24]) _ [(19,Value.agg #[vi a2.Kind,vi a2.Ns,vi a2.Nr,vb a2.Poll]),(23,vi a0.m)] Z ⟨.inr ⟨Z,Z⟩,⟨.inr ⟨Z,Z⟩,tv⟩⟩ (Or.inl Z) (by intro d hd;cases hd;exact ⟨by decide,Z,Z⟩) [22,23] [11,12,13,14,15] Z Z Z Z Z (fun w HS=>?_))
 ·have HS:Sep.St _ w0 w:=HS
  refine ⟨_,Y.ls (e:=5) (Value.int .u8) ([IntKind.u8.wrap (a1.fdiv (2^(min (8:Int).toNat IntKind.i64.bits))),IntKind.u8.wrap a1]:List Int) HS Z Z (fun _=>by kernel_rfl),?_⟩
  rintro _ w ⟨lb6,rfl,HS⟩
  refine T.nw HS ?_
  refine T.e [19,23] [22,23] [11,12,13,14,15] fun w HS=>?_
  refine Y.kl H func230 (fun _ h=>eC.calls h HS.j0) ?_
  rintro t7 _ w H ⟨at7_0,ct7_0,rfl,HS⟩
  have HS:=HS.o1
  refine T.nw HS ?_
  refine T.e [18,24,25] [22,23] [17] fun w HS=>?_
  have HS:=St.row_freeze ((St.row_freeze (HS.fr 1)).fr 1)
  refine ⟨_,Y.lc (e:=48) (sz:=1) [vs (some ⟨lb6,0,none⟩) (([IntKind.u8.wrap (a1.fdiv (2^(min (8:Int).toNat IntKind.i64.bits))),IntKind.u8.wrap a1]:List Int)).length 2,vs at7_0 t7.length ct7_0,vs sa3 a3.length sc3] HS Z Z (fun _=>by kernel_rfl),?_⟩
  rintro _ w ⟨_,rfl,HS⟩
  have HS:=St.tie_cons (((St.sl_close (E:=(El.int .u8)) (St.swap (St.put (A:=tie (El.int .u8) ((([IntKind.u8.wrap (a1.fdiv (2^(min (8:Int).toNat IntKind.i64.bits))),IntKind.u8.wrap a1]:List Int)).map (Value.int .u8)) (([IntKind.u8.wrap (a1.fdiv (2^(min (8:Int).toNat IntKind.i64.bits))),IntKind.u8.wrap a1]:List Int))) (fun _=>int_tie) ((St.tie_cons (((St.sl_close (E:=(El.int .u8)) (St.swap (St.put (A:=tie (El.int .u8) (t7.map (Value.int .u8)) t7) (fun _=>int_tie) ((St.tie_cons (((St.sl_close (E:=(El.int .u8)) (St.swap (St.put (A:=tie (El.int .u8) (a3.map (Value.int .u8)) a3) (fun _=>int_tie) ((St.put (A:=tie (El.sl (El.int .u8)) ([]) (([]:List (List Int)))) (fun _=>tie.nil) HS).more 12 rfl (fun _ t=>t) fsl.pers)))).fr 1).fr 1)).more 2 rfl (fun _ t=>t) fsl.pers)))).fr 1).fr 1)).more 3 rfl (fun _ t=>t) fsl.pers)))).fr 1).fr 1)
  refine T.nw HS ?_
  refine T.e [26] [22,23] [] fun w HS=>?_
  refine Y.kl H func187 (fun _ h=>aG.calls h HS.j0 (rdC.part 1 row_rd Z) (fun h hh=>let ⟨_,l,t⟩:=Sp.has 0 hh Z;tie.mono t l)) ?_
  rintro t12 _ w H ⟨at12_0,ct12_0,rfl,HS⟩
  have HS:=HS.o1
  refine T.nw HS ?_
  refine T.e [27] [22,23] [] fun w HS=>?_
  have HS:=St.row_freeze HS
  refine ⟨_,Y.lc (e:=48) (sz:=1) [vs at12_0 t12.length ct12_0] HS Z Z (fun _=>by kernel_rfl),?_⟩
  rintro _ w ⟨_,rfl,HS⟩
  have HS:=St.tie_cons (((St.sl_close (E:=(El.int .u8)) (St.swap (St.put (A:=tie (El.int .u8) (t12.map (Value.int .u8)) t12) (fun _=>int_tie) ((St.put (A:=tie (El.sl (El.int .u8)) ([]) (([]:List (List Int)))) (fun _=>tie.nil) HS).more 2 rfl (fun _ t=>t) fsl.pers)))).fr 1).fr 1)
  refine T.nw HS ?_
  refine T.e [12,28] [] [1,2,3,4] fun w HS=>?_
  obtain ⟨_,H⟩:=ite_n H
  refine ⟨_,Y.app (xs:=a0.out) (ys:=([t12]:List (List Int))) 11 underlying35 ap48 Z (by decide) HS Z Z Z (rdC.at 1 row_rd HS Z) (St.tie_one 0 HS Z) (by omega) (by omega),?_⟩
  rintro _ w ⟨_,_,rfl,HS⟩
  have HS:=St.tie_app 1 (HS.fr 12) rfl
  apply T.na [(29,_),(30,_),(31,_)] HS
  exact nmk
  refine T.e [29,31] [] [0,22,23] fun w HS=>?_
  refine Y.sr 11 HS Z Z Z fun _ w HS=>?_
  refine T.nn HS ?_
  refine T.ff [] fun w HS=>?_
  have HS:=(ae.close tv (HS.b [8,8,8,8,8,0,7])).ke [0,9]
  exact rt
 ·have HS:Sep.St _ w0 w:=HS
  refine Y.kl H func230 (fun _ h=>eC.calls h HS.j0) ?_
  rintro t20 _ w H ⟨at20_0,ct20_0,rfl,HS⟩
  have HS:=HS.o1
  refine T.nw HS ?_
  refine T.e [15,17] [22,23] [5,6,7,8,9] (fun w HS=>?_) ⟨rd,rd,rd,rd,rd,rd,.n1 13 Z Z (fun w HS=>X.shr Z Z (by decide)),rds⟩
  refine ⟨_,Y.ls (e:=5) (Value.int .u8) ([IntKind.u8.wrap (a1.fdiv (2^(min (8:Int).toNat IntKind.i64.bits))),IntKind.u8.wrap a1]:List Int) HS Z Z (fun _=>by kernel_rfl),?_⟩
  rintro _ w ⟨lb24,rfl,HS⟩
  refine T.nw HS ?_
  refine T.e [18,24,25] [22,23] [17] fun w HS=>?_
  have HS:=St.row_freeze ((St.row_freeze HS).fr 1)
  refine ⟨_,Y.lc (e:=48) (sz:=1) [vs (some ⟨lb24,0,none⟩) (([IntKind.u8.wrap (a1.fdiv (2^(min (8:Int).toNat IntKind.i64.bits))),IntKind.u8.wrap a1]:List Int)).length 2,vs at20_0 t20.length ct20_0,vs sa3 a3.length sc3] HS Z Z (fun _=>by kernel_rfl),?_⟩
  rintro _ w ⟨_,rfl,HS⟩
  have HS:=St.tie_cons (((St.sl_close (E:=(El.int .u8)) (St.swap (St.put (A:=tie (El.int .u8) ((([IntKind.u8.wrap (a1.fdiv (2^(min (8:Int).toNat IntKind.i64.bits))),IntKind.u8.wrap a1]:List Int)).map (Value.int .u8)) (([IntKind.u8.wrap (a1.fdiv (2^(min (8:Int).toNat IntKind.i64.bits))),IntKind.u8.wrap a1]:List Int))) (fun _=>int_tie) ((St.tie_cons (((St.sl_close (E:=(El.int .u8)) (St.swap (St.put (A:=tie (El.int .u8) (t20.map (Value.int .u8)) t20) (fun _=>int_tie) ((St.tie_cons (((St.sl_close (E:=(El.int .u8)) (St.swap (St.put (A:=tie (El.int .u8) (a3.map (Value.int .u8)) a3) (fun _=>int_tie) ((St.put (A:=tie (El.sl (El.int .u8)) ([]) (([]:List (List Int)))) (fun _=>tie.nil) HS).more 12 rfl (fun _ t=>t) fsl.pers)))).fr 1).fr 1)).more 2 rfl (fun _ t=>t) fsl.pers)))).fr 1).fr 1)).more 3 rfl (fun _ t=>t) fsl.pers)))).fr 1).fr 1)
  refine T.nw HS ?_
  refine T.e [26] [22,23] [] fun w HS=>?_
  refine Y.kl H func187 (fun _ h=>aG.calls h HS.j0 (rdC.part 1 row_rd Z) (fun h hh=>let ⟨_,l,t⟩:=Sp.has 0 hh Z;tie.mono t l)) ?_
  rintro t28 _ w H ⟨at28_0,ct28_0,rfl,HS⟩
  have HS:=HS.o1
  refine T.nw HS ?_
  refine T.e [27] [22,23] [] fun w HS=>?_
  have HS:=St.row_freeze HS
  refine ⟨_,Y.lc (e:=48) (sz:=1) [vs at28_0 t28.length ct28_0] HS Z Z (fun _=>by kernel_rfl),?_⟩
  rintro _ w ⟨_,rfl,HS⟩
  have HS:=St.tie_cons (((St.sl_close (E:=(El.int .u8)) (St.swap (St.put (A:=tie (El.int .u8) (t28.map (Value.int .u8)) t28) (fun _=>int_tie) ((St.put (A:=tie (El.sl (El.int .u8)) ([]) (([]:List (List Int)))) (fun _=>tie.nil) HS).more 2 rfl (fun _ t=>t) fsl.pers)))).fr 1).fr 1)
  refine T.nw HS ?_
  refine T.e [12,28] [] [1,2,3,4] fun w HS=>?_
  obtain ⟨_,H⟩:=ite_n H
  refine ⟨_,Y.app (xs:=a0.out) (ys:=([t28]:List (List Int))) 11 underlying35 ap48 Z (by decide) HS Z Z Z (rdC.at 1 row_rd HS Z) (St.tie_one 0 HS Z) (by omega) (by omega),?_⟩
  rintro _ w ⟨_,_,rfl,HS⟩
  have HS:=St.tie_app 1 (HS.fr 12) rfl
  apply T.na [(29,_),(30,_),(31,_)] HS
  exact nmk
  refine T.e [29,31] [] [0,22,23] fun w HS=>?_
  refine Y.sr 11 HS Z Z Z fun _ w HS=>?_
  refine T.nn HS ?_
  refine T.ff [] fun w HS=>?_
  have HS:=(ae.close tv (HS.b [8,8,8,8,8,0,7])).ke [0,9]
  exact rt
def bJ.f (k:Nat) (a0:ae) (a1:aF):Option ae:=((dq.f k a0 a0.tag a1 ([]:List Int)).bind fun t4=>some t4)
theorem bJ.calls (H:bJ.f k a0 a1=some r) (HS:St [ae.at b0 a0,R] w0 w):Calls Tryz.prog 113 #[pt b0,Value.agg #[vi a1.Kind,vi a1.Ns,vi a1.Nr,vb a1.Poll]] w (Ret fun u w=>u=Value.tuple #[]∧St [ae.at b0 r,R] w0 w):=by
 refine calls_enter func113 Z Z (go ?_)
 refine W.e (Y.box HS Z) Z ?_
 rintro _ w ⟨_,rfl,HS⟩
 refine go ?_
 have HS:=HS.fr 1
 obtain ⟨_,_,_,_,_,_,_,_,_,HS⟩:=ae.open HS
 apply V.da [6] [] [(4,_),(5,_),(6,_),(7,_),(8,_),(9,_)] mo HS
 rfl
 refine T.e [4,8,9] [] [0,1,2,3,4,5] fun w HS=>?_
 have HS:=((St.row_freeze (row_nilF (Value.int .u8) 5 1 (ae.close tv HS))).more 0 rfl (fun _ t=>t) fsl.pers).b [2]
 refine Y.kl H func176 (fun _ h=>dq.calls h HS.j2) ?_
 rintro _ _ w H ⟨rfl,HS⟩
 have HS:=HS.o1
 refine T.nw HS ?_
 refine T.ff [] fun w HS=>?_
 have HS:=HS.ke [0,2]
 exact rt
def eI.f (a0:Int):Option Bool:=(if a0≥0 then some (decide (a0<32)) else some false)
theorem eI.calls (H:eI.f a0=some r) (HS:St [R] w0 w):Calls Tryz.prog 231 #[vi a0] w (Ret fun u w=>u=vb r∧St [R] w0 w):=by
 refine calls_enter func231 Z Z (go ?_)
 refine W.cd 5 H Z (fun _ H=>go ?_) (fun _ H=>go ?_)
 ·exact rt
 ·exact rt
mutual
def cQ.j0 (a1:Int) (x2:aI):Option (Bool × aI):=((eI.f a1).bind fun t4=>some (t4,x2))
end
def cQ.f (a0:aI) (a1:Int) (a2:Int):Option (Bool × aI):=((eI.f a1).bind fun t6=>(if t6=true then (if 0≤a1∧a1<32 then (cQ.j0 a1 ({now:=a0.now,left:=a0.left.set a1.toNat (imax (1) (imin a2 (1073741824)))}:aI)) else none) else (cQ.j0 a1 a0)))
theorem cQ.calls (H:cQ.f a0 a1 a2=some r) (HS:St [aI.at b0 a0,R] w0 w):Calls Tryz.prog 177 #[pt b0,vi a1,vi a2] w (Ret fun u w=>u=vb r.1∧St [aI.at b0 r.2,R] w0 w):=by
 refine calls_enter func177 Z Z ?_
 refine V.seq ?_
 refine gs ?_
 refine V.mj (σ:=aI) [1] (fun x2 w=>St [aI.at b0 x2,R] w0 w∧cQ.j0 a1 x2=some r) (fun _=>[]) ?_ ?_
 ·refine go ?_
  refine W.kl H func231 (fun _ h=>eI.calls h HS.j0) ?_
  rintro _ _ w H ⟨rfl,HS⟩
  have HS:=HS.o0
  refine go ?_
  refine V.cv H Z (fun _ H=>go ?_) (fun _ H=>go ?_)
  ·obtain ⟨hi10,HS⟩:=aI.open HS
   refine go ?_
   obtain ⟨c11,H⟩:=ite_n H
   refine W.r (X.indexAr underlying251 inf3 Z Z c11.1 c11.2) Z (W.en (Y.storeArr 0 HS Z Z inf3 Z Z c11.1 c11.2 (by first|exact hi10|(simp only [List.length_set];exact hi10))) Z ?_)
   rintro _ w HS
   refine go ?_
   have HS:=aI.close (by first|exact hi10|(simp only [List.length_set];exact hi10)) HS
   exact At.mt _ ⟨HS,H⟩
  ·exact At.mt _ ⟨HS,H⟩
 ·rintro x2 w ⟨HS,H⟩
  refine go ?_
  refine W.kl H func231 (fun _ h=>eI.calls h HS.j0) ?_
  rintro _ _ w H ⟨rfl,HS⟩
  have HS:=HS.o0
  refine go ?_
  exact rt
def cu.f (a0:ae):Option ae:=((cQ.f a0.timers 0 a0.t1).bind fun t3=>some ({a0 with timers:=t3.2}:ae))
theorem cu.calls (H:cu.f a0=some r) (HS:St [ae.at b0 a0,R] w0 w):Calls Tryz.prog 114 #[pt b0] w (Ret fun u w=>u=Value.tuple #[]∧St [ae.at b0 r,R] w0 w):=by
 refine calls_enter func114 Z Z ?_
 obtain ⟨_,_,_,_,_,_,_,_,_,HS⟩:=ae.open HS
 apply V.da [8] [] [(2,_),(3,_),(4,_),(5,_),(6,_),(7,_),(8,_),(9,_)] mo HS
 rfl
 refine T.e [5,9] [] [0,1,2,3,4,5,6,7] fun w HS=>?_
 have HS:=HS.b [3]
 refine Y.kl H func177 (fun _ h=>cQ.calls h HS.j1) ?_
 rintro _ _ w H ⟨rfl,HS⟩
 have HS:=HS.o1
 refine T.nw HS ?_
 refine T.ff [] fun w HS=>?_
 have HS:=ae.close tv (HS.b [1,1,1])
 exact rt
def dZ.f (k:Nat) (a0:ae):Option (Int × ae):=(if a0.state=0 then ((dK.f a0.tag 65536).bind fun t5=>((bJ.f k ({a0 with state:=1,tag:=t5,tries:=0}:ae) ({Kind:=3,Ns:=0,Nr:=0,Poll:=true}:aF)).bind fun t7=>((cu.f t7).bind fun t9=>some (0,t9)))) else some (8,a0))
theorem dZ.calls (H:dZ.f k a0=some r) (HS:St [ae.at b0 a0,R] w0 w):Calls Tryz.prog 54 #[pt b0] w (Ret fun u w=>u=vi r.1∧St [ae.at b0 r.2,R] w0 w):=by
 refine calls_enter func54 Z Z (go ?_)
 obtain ⟨_,_,_,_,_,_,_,_,_,HS⟩:=ae.open HS
 refine go ?_
 refine V.cm H Z (fun _ H=>go ?_) (fun _ H=>go ?_)
 ·refine W.kl H func112 (fun _ h=>dK.calls h HS.j0) ?_
  rintro _ _ w H ⟨rfl,HS⟩
  have HS:=HS.o0
  refine go ?_
  refine W.sr 5 HS Z Z Z fun w HS=>go ?_
  refine W.sr 4 HS Z Z Z fun w HS=>go ?_
  refine W.sr 6 HS Z Z Z fun w HS=>go ?_
  refine W.r (X.bd (Value.agg #[vi (3),vi (0),vi (0),vb true]) Z (fun _=>by kernel_rfl)) Z ?_
  have HS:=ae.close tv HS
  refine W.kl H func113 (fun _ h=>bJ.calls h HS.j1) ?_
  rintro _ _ w H ⟨rfl,HS⟩
  have HS:=HS.o1
  refine go ?_
  refine W.kl H func114 (fun _ h=>cu.calls h HS.j1) ?_
  rintro _ _ w H ⟨rfl,HS⟩
  have HS:=HS.o1
  refine go ?_
  exact rt
 ·have HS:=ae.close tv HS
  exact rt
def bS.f (k:Nat) (a0:aa):Option (Int × aa):=((dZ.f k a0.arq).bind fun t3=>some (t3.1,({a0 with arq:=t3.2}:aa)))
theorem bS.calls (H:bS.f k a0=some r) (HS:St [aa.at b0 a0,R] w0 w):Calls Tryz.prog 14 #[pt b0] w (Ret fun u w=>u=vi r.1∧St [aa.at b0 r.2,R] w0 w):=by
 refine calls_enter func14 Z Z (go ?_)
 obtain ⟨_,_,_,_,_,_,_,_,_,_,HS⟩:=aa.open HS
 refine go ?_
 have HS:=HS.b [1]
 refine W.kl H func54 (fun _ h=>dZ.calls h HS.j1) ?_
 rintro _ _ w H ⟨rfl,HS⟩
 have HS:=HS.o1
 refine go ?_
 have HS:=aa.close tv (HS.b [1])
 exact rt
def bp.f (a0:ap) (a1:Int):Option (Int × ap):=((df.f a1 0 1073741824).bind fun t3=>(if (imin (w64 (a0.silence+t3)) (1073741824))≥a0.silent then some (2,({a0 with row:=0,silence:=imin (w64 (a0.silence+t3)) (1073741824),state:=2}:ap)) else some (a0.state,({a0 with silence:=imin (w64 (a0.silence+t3)) (1073741824)}:ap))))
theorem bp.calls (H:bp.f a0 a1=some r) (HS:St [ap.at b0 a0,R] w0 w):Calls Tryz.prog 115 #[pt b0,vi a1] w (Ret fun u w=>u=vi r.1∧St [ap.at b0 r.2,R] w0 w):=by
 refine calls_enter func115 Z Z (go ?_)
 obtain ⟨_,_,HS⟩:=ap.open HS
 apply V.da [6,11] [7,8,9,10] [(5,_),(6,_),(7,_),(8,_),(9,_),(10,_)] mo HS
 rfl
 refine T.e [10] [] [5] fun w HS=>?_
 refine Y.kl H func170 (fun _ h=>df.calls h HS.j0) ?_
 rintro _ _ w H ⟨rfl,HS⟩
 have HS:=HS.o0
 apply T.na [(11,_),(12,_),(13,_),(14,_),(15,_)] HS
 exact nmk
 refine T.e [13,15] [] [0,1,2,3,4,7,8,9,10] (fun w HS=>?_) ⟨rd,rd,rd,rd,rd,rd,.n1 12 Z Z (fun w HS=>X.min2 Z Z),rds⟩
 refine Y.sr 5 HS Z Z Z fun _ w HS=>?_
 refine T.nn HS ?_
 refine T.ff [0] fun w HS=>?_
 refine go ?_
 apply V.da [] [] [(16,_),(17,_),(18,_),(19,_),(20,_),(21,_),(22,_),(23,_),(24,_)] mo HS
 rfl
 refine T.ff [0,24] fun w HS=>?_
 refine go ?_
 refine V.cd H Z (fun _ H=>go ?_) (fun _ H=>go ?_)
 ·refine W.sr 6 HS Z Z Z fun w HS=>go ?_
  refine W.sr 4 HS Z Z Z fun w HS=>go ?_
  have HS:=ap.close tv HS
  exact rt
 ·have HS:=ap.close tv HS
  exact rt
def dC.f (a0:aH) (a1:Int):Option (Int × aH):=(if a1=0 then some (a1,({a0 with bad:=0}:aH)) else (if (imin (w64 (a0.bad+1)) (w64 (a0.hold+1)))≤a0.hold then some (0,({a0 with bad:=imin (w64 (a0.bad+1)) (w64 (a0.hold+1))}:aH)) else some (a1,({a0 with bad:=imin (w64 (a0.bad+1)) (w64 (a0.hold+1))}:aH))))
theorem dC.calls (H:dC.f a0 a1=some r) (HS:St [aH.at b0 a0,R] w0 w):Calls Tryz.prog 179 #[pt b0,vi a1] w (Ret fun u w=>u=vi r.1∧St [aH.at b0 r.2,R] w0 w):=by
 refine calls_enter func179 Z Z (go ?_)
 refine V.cd H Z (fun _ H=>go ?_) (fun _ H=>go ?_)
 ·obtain ⟨_,HS⟩:=aH.open HS
  refine go ?_
  refine W.sr 6 HS Z Z Z fun w HS=>go ?_
  have HS:=aH.close tv HS
  exact rt
 ·obtain ⟨_,HS⟩:=aH.open HS
  apply V.da [14] [] [(11,_),(12,_),(13,_),(14,_),(15,_),(16,_),(17,_),(18,_),(19,_),(20,_),(21,_),(22,_),(23,_),(24,_)] mo HS
  rfl
  refine T.e [22,24] [] [0,1,2,3,4,5,6,7,8,9,10,11,12,13] (fun w HS=>?_) ⟨rd,rd,rd,rd,rd,rd,rd,rd,rd,rd,rd,.n2 16 21 Z Z Z (fun w HS=>X.min2 Z Z),rds⟩
  refine Y.sr 6 HS Z Z Z fun _ w HS=>?_
  refine T.nn HS ?_
  refine T.ff [0,1] fun w HS=>?_
  refine go ?_
  apply V.da [] [] [(25,_),(26,_),(27,_),(28,_),(29,_),(30,_),(31,_),(32,_),(33,_)] mo HS
  rfl
  refine T.ff [1,33] fun w HS=>?_
  refine go ?_
  refine V.cd H Z (fun _ H=>go ?_) (fun _ H=>go ?_)
  ·have HS:=aH.close tv HS
   exact rt
  ·have HS:=aH.close tv HS
   exact rt
def eR.f (a0:Int) (a1:Int) (a2:Int):Option Int:=(if a0=3 then some (8) else (if a2=2 then some (7) else (if a0=2 then some (6) else (if a1=2 then some (5) else (if a1=1 then some (4) else (if a0=1 then some (3) else some (0)))))))
theorem eR.calls (H:eR.f a0 a1 a2=some r) (HS:St [R] w0 w):Calls Tryz.prog 178 #[vi a0,vi a1,vi a2] w (Ret fun u w=>u=vi r∧St [R] w0 w):=by
 refine calls_enter func178 Z Z (go ?_)
 refine V.cd H Z (fun _ H=>go ?_) (fun _ H=>go ?_)
 ·exact rt
 ·refine V.cd H Z (fun _ H=>go ?_) (fun _ H=>go ?_)
  ·exact rt
  ·refine V.cd H Z (fun _ H=>go ?_) (fun _ H=>go ?_)
   ·exact rt
   ·refine V.cd H Z (fun _ H=>go ?_) (fun _ H=>go ?_)
    ·exact rt
    ·refine V.cd H Z (fun _ H=>go ?_) (fun _ H=>go ?_)
     ·exact rt
     ·refine V.cd H Z (fun _ H=>go ?_) (fun _ H=>go ?_)
      ·exact rt
      ·exact rt
mutual
def cZ.j0 (a0:aH) (x4:Bool):Option (Int × aH):=(if x4=true then (if a0.revert=true then some (2,({a0 with left:=a0.wait}:aH)) else some (1,a0)) else (if a0.own=2 then (if (w64 (a0.left-1))=0 then some (0,({a0 with left:=w64 (a0.left-1)}:aH)) else some (2,({a0 with left:=w64 (a0.left-1)}:aH))) else (if a0.own=1 then some (1,a0) else some (0,a0))))
end
def cZ.f (a0:aH):Option (Int × aH):=(if a0.own=4 then (cZ.j0 a0 (decide (a0.own=4))) else (cZ.j0 a0 (decide (a0.own=5))))
theorem cZ.calls (H:cZ.f a0=some r) (HS:St [aH.at b0 a0,R] w0 w):Calls Tryz.prog 180 #[pt b0] w (Ret fun u w=>u=vi r.1∧St [aH.at b0 r.2,R] w0 w):=by
 refine calls_enter func180 Z Z (go ?_)
 obtain ⟨_,HS⟩:=aH.open HS
 refine gs ?_
 refine V.mj (σ:=Bool) [0,6] (fun x4 w=>St [aH.at b0 a0,R] w0 w∧cZ.j0 a0 x4=some r) (fun x4=>[(7,vb x4)]) ?_ ?_
 ·refine go ?_
  refine V.cd H Z (fun _ H=>go ?_) (fun _ H=>go ?_)
  ·have HS:=aH.close tv HS
   exact At.mt _ ⟨HS,H⟩
  ·have HS:=aH.close tv HS
   exact At.mt _ ⟨HS,H⟩
 ·rintro x4 w ⟨HS,H⟩
  refine V.cv H Z (fun _ H=>go ?_) (fun _ H=>go ?_)
  ·obtain ⟨_,HS⟩:=aH.open HS
   refine go ?_
   refine V.cx H Z (fun _ H=>go ?_) (fun _ H=>go ?_)
   ·refine W.sr 7 HS Z Z Z fun w HS=>go ?_
    have HS:=aH.close tv HS
    exact rt
   ·have HS:=aH.close tv HS
    exact rt
  ·refine V.cd H Z (fun _ H=>go ?_) (fun _ H=>go ?_)
   ·obtain ⟨_,HS⟩:=aH.open HS
    refine go ?_
    refine W.sr 7 HS Z Z Z fun w HS=>go ?_
    refine V.cd H Z (fun _ H=>go ?_) (fun _ H=>go ?_)
    ·have HS:=aH.close tv HS
     exact rt
    ·have HS:=aH.close tv HS
     exact rt
   ·refine V.cd H Z (fun _ H=>go ?_) (fun _ H=>go ?_)
    ·exact rt
    ·exact rt
mutual
def cb.j0 (a0:Int) (x1:Bool):Option Int:=(if x1=true then some (0) else some a0)
end
def cb.f (a0:Int):Option Int:=(if a0<0 then (cb.j0 a0 true) else (cb.j0 a0 (decide (a0>8))))
theorem cb.calls (H:cb.f a0=some r) (HS:St [R] w0 w):Calls Tryz.prog 190 #[vi a0] w (Ret fun u w=>u=vi r∧St [R] w0 w):=by
 refine calls_enter func190 Z Z ?_
 refine V.seq ?_
 refine gs ?_
 refine V.seq ?_
 refine V.mj (σ:=Bool) [0] (fun x1 w=>St [R] w0 w∧cb.j0 a0 x1=some r) (fun x1=>[(8,vb x1)]) ?_ ?_
 ·refine go ?_
  refine W.cd 5 H Z (fun _ H=>go ?_) (fun _ H=>go ?_)
  ·exact At.mt _ ⟨HS,H⟩
  ·exact At.mt _ ⟨HS,H⟩
 ·rintro x1 w ⟨HS,H⟩
  refine V.cv H Z (fun _ H=>go ?_) (fun _ H=>go ?_)
  ·exact rt
  ·exact rt
def fg.f (a0:Int) (a1:Int):Option Int:=((cb.f a0).bind fun t1=>((cb.f a1).bind fun t3=>some (imax t1 t3)))
theorem fg.calls (H:fg.f a0 a1=some r) (HS:St [R] w0 w):Calls Tryz.prog 182 #[vi a0,vi a1] w (Ret fun u w=>u=vi r∧St [R] w0 w):=by
 refine calls_enter func182 Z Z (go ?_)
 refine W.kl H func190 (fun _ h=>cb.calls h HS.j0) ?_
 rintro _ _ w H ⟨rfl,HS⟩
 have HS:=HS.o0
 refine go ?_
 refine W.kl H func190 (fun _ h=>cb.calls h HS.j0) ?_
 rintro _ _ w H ⟨rfl,HS⟩
 have HS:=HS.o0
 refine go ?_
 exact rt
mutual
def dj.j0 (x1:Bool):Option Int:=(if x1=true then some (1) else some (0))
end
def dj.f (a0:Int):Option Int:=(if a0≥1 then (dj.j0 (decide (a0≤6))) else (dj.j0 false))
theorem dj.calls (H:dj.f a0=some r) (HS:St [R] w0 w):Calls Tryz.prog 181 #[vi a0] w (Ret fun u w=>u=vi r∧St [R] w0 w):=by
 refine calls_enter func181 Z Z ?_
 refine V.seq ?_
 refine gs ?_
 refine V.seq ?_
 refine V.mj (σ:=Bool) [] (fun x1 w=>St [R] w0 w∧dj.j0 x1=some r) (fun x1=>[(8,vb x1)]) ?_ ?_
 ·refine go ?_
  refine W.cd 5 H Z (fun _ H=>go ?_) (fun _ H=>go ?_)
  ·exact At.mt _ ⟨HS,H⟩
  ·exact At.mt _ ⟨HS,H⟩
 ·rintro x1 w ⟨HS,H⟩
  refine V.cv H Z (fun _ H=>go ?_) (fun _ H=>go ?_)
  ·exact rt
  ·exact rt
theorem dC.kp_command {a0:_} {a1:_} {t:_} (h:dC.f a0 a1=some t):t.2.command=a0.command:=by
 unfold dC.f at h
 repeat' split at h
 all_goals first|(injection h with h;subst h;rfl)|(cases h)
mutual
def co.j0 (x11:aH) (x12:Int):Option (Int × aH):=((fg.f x12 x11.remote).bind fun t16=>((dj.f t16).bind fun t18=>some (t18,({x11 with own:=x12,line:=t18}:aH))))
end
def co.f (a0:aH) (a1:Int) (a2:Int):Option (Int × aH):=((dC.f a0 a1).bind fun t3=>((eR.f a0.command t3.1 a2).bind fun t8=>(if t8=0 then ((cZ.f t3.2).bind fun t21=>(co.j0 t21.2 t21.1)) else (co.j0 t3.2 t8))))
theorem co.calls (H:co.f a0 a1 a2=some r) (HS:St [aH.at b0 a0,R] w0 w):Calls Tryz.prog 116 #[pt b0,vi a1,vi a2] w (Ret fun u w=>u=vi r.1∧St [aH.at b0 r.2,R] w0 w):=by
 refine calls_enter func116 Z Z (go ?_)
 obtain ⟨_,HS⟩:=aH.open HS
 apply V.da [6,8] [9] [(8,_),(9,_),(10,_),(11,_),(12,_),(13,_),(15,_)] mo HS
 rfl
 refine T.e [12,13] [9] [4,5] fun w HS=>?_
 have HS:=aH.close tv HS
 obtain ⟨t3,A4,H⟩:=bind_s H
 refine ⟨_,Y.cl func179 (dC.calls A4 HS.j1),?_⟩
 rintro _ w ⟨rfl,HS⟩
 have HS:=HS.o1
 obtain ⟨_,HS⟩:=aH.open HS
 have hq7:t3.2.command=a0.command:=dC.kp_command A4
 refine T.nw HS ?_
 refine T.e [11,14,15] [] [0,1,2,3,7] (fun w HS=>?_) ⟨rd,rd,rd,.n1 10 Z Z (fun w HS=>Runs.to (congrArg (Value.int .i64) hq7) (X.loadAt 0 HS Z underlying3 Z Z Z)),rds⟩
 refine Y.kl H func178 (fun _ h=>eR.calls h HS.j0) ?_
 rintro _ _ w H ⟨rfl,HS⟩
 have HS:=HS.o0
 apply T.na [(16,_),(7,_)] HS
 exact nmk
 refine T.ff [0,7] fun w HS=>?_
 refine gs ?_
 refine V.mj (σ:=aH × Int) [0] (fun (x11,x12) w=>St [aH.at b0 x11,R] w0 w∧co.j0 x11 x12=some r) (fun (x11,x12)=>[(7,vi x12)]) ?_ ?_
 ·refine go ?_
  refine V.cd H Z (fun _ H=>go ?_) (fun _ H=>go ?_)
  ·have HS:=aH.close tv HS
   refine W.kl H func180 (fun _ h=>cZ.calls h HS.j1) ?_
   rintro _ _ w H ⟨rfl,HS⟩
   have HS:=HS.o1
   refine go ?_
   exact At.mt (_,_) ⟨HS,H⟩
  ·have HS:=aH.close tv HS
   exact At.mt (_,_) ⟨HS,H⟩
 ·rintro ⟨x11,x12⟩ w ⟨HS,H⟩
  refine go ?_
  obtain ⟨_,HS⟩:=aH.open HS
  refine go ?_
  refine W.sr 5 HS Z Z Z fun w HS=>go ?_
  refine W.kl H func182 (fun _ h=>fg.calls h HS.j0) ?_
  rintro _ _ w H ⟨rfl,HS⟩
  have HS:=HS.o0
  refine W.kl H func181 (fun _ h=>dj.calls h HS.j0) ?_
  rintro _ _ w H ⟨rfl,HS⟩
  have HS:=HS.o0
  refine go ?_
  refine W.sr 8 HS Z Z Z fun w HS=>go ?_
  have HS:=aH.close tv HS
  exact rt
def bu.f (a0:aa):Option Bool:=some (decide (a0.c.Mode=0))
theorem bu.calls (H:bu.f a0=some r) (HS:St [blk b0 (#[vi a0.c.Mode,vi a0.c.Modulus,vi a0.c.Window,vi a0.c.T1,vi a0.c.N2,vi a0.c.Hold,vi a0.c.Wait,vi a0.c.Keep,vi a0.c.Queue,vi a0.c.Size,vi a0.c.Ring,vi a0.c.Rate,vi a0.c.Bad,vi a0.c.Good,vb a0.c.Revert,vb a0.c.Wide,pt b16_p0,pt b17_p0,pt b18_p0,Value.int .u32 a0.number,vi a0.steps,vi a0.line,pt b22_p0,pt b23_p0,pt b24_p0,vi a0.sides.1.counts.Good,vi a0.sides.1.counts.Bad,vi a0.sides.1.counts.Aborts,vi a0.sides.1.counts.Runts,vi a0.sides.1.counts.Giants,vi a0.sides.1.counts.Dropped,vi a0.sides.1.counts.Twins,pt b32_p0,pt b33_p0,pt b34_p0,vi a0.sides.2.counts.Good,vi a0.sides.2.counts.Bad,vi a0.sides.2.counts.Aborts,vi a0.sides.2.counts.Runts,vi a0.sides.2.counts.Giants,vi a0.sides.2.counts.Dropped,vi a0.sides.2.counts.Twins]) 103,ae.at b16_p0 a0.arq,aH.at b17_p0 a0.aps,aK.at b18_p0 a0.twins,az.at b22_p0 a0.sides.1.reader,ap.at b23_p0 a0.sides.1.monitor,aJ.at b24_p0 a0.sides.1.ring,az.at b32_p0 a0.sides.2.reader,ap.at b33_p0 a0.sides.2.monitor,aJ.at b34_p0 a0.sides.2.ring,R] w0 w):Calls Tryz.prog 67 #[pt b0] w (Ret fun u w=>u=vb r∧St [blk b0 (#[vi a0.c.Mode,vi a0.c.Modulus,vi a0.c.Window,vi a0.c.T1,vi a0.c.N2,vi a0.c.Hold,vi a0.c.Wait,vi a0.c.Keep,vi a0.c.Queue,vi a0.c.Size,vi a0.c.Ring,vi a0.c.Rate,vi a0.c.Bad,vi a0.c.Good,vb a0.c.Revert,vb a0.c.Wide,pt b16_p0,pt b17_p0,pt b18_p0,Value.int .u32 a0.number,vi a0.steps,vi a0.line,pt b22_p0,pt b23_p0,pt b24_p0,vi a0.sides.1.counts.Good,vi a0.sides.1.counts.Bad,vi a0.sides.1.counts.Aborts,vi a0.sides.1.counts.Runts,vi a0.sides.1.counts.Giants,vi a0.sides.1.counts.Dropped,vi a0.sides.1.counts.Twins,pt b32_p0,pt b33_p0,pt b34_p0,vi a0.sides.2.counts.Good,vi a0.sides.2.counts.Bad,vi a0.sides.2.counts.Aborts,vi a0.sides.2.counts.Runts,vi a0.sides.2.counts.Giants,vi a0.sides.2.counts.Dropped,vi a0.sides.2.counts.Twins]) 103,ae.at b16_p0 a0.arq,aH.at b17_p0 a0.aps,aK.at b18_p0 a0.twins,az.at b22_p0 a0.sides.1.reader,ap.at b23_p0 a0.sides.1.monitor,aJ.at b24_p0 a0.sides.1.ring,az.at b32_p0 a0.sides.2.reader,ap.at b33_p0 a0.sides.2.monitor,aJ.at b34_p0 a0.sides.2.ring,R] w0 w):=by
 refine calls_enter func67 Z Z (go ?_)
 exact rt
def cD.f (a0:aC) (a1:Int):Option Int:=(if ¬(a0.m=0) then some ((w64 (a0.first+a1)).tmod a0.m) else none)
theorem cD.calls (H:cD.f a0 a1=some r) (HS:St [blk b0 (#[vi a0.m,vi a0.window,vi a0.queue,vi a0.first,vi a0.out,vs a5_p0 a0.l.length c5_p0]) 239,row 48 1 (.slice a5_p0 a0.l.length c5_p0) a0.l.length d5_p0,tie (El.sl (El.int .u8)) d5_p0 a0.l,R] w0 w):Calls Tryz.prog 262 #[pt b0,vi a1] w (Ret fun u w=>u=vi r∧St [blk b0 (#[vi a0.m,vi a0.window,vi a0.queue,vi a0.first,vi a0.out,vs a5_p0 a0.l.length c5_p0]) 239,row 48 1 (.slice a5_p0 a0.l.length c5_p0) a0.l.length d5_p0,tie (El.sl (El.int .u8)) d5_p0 a0.l,R] w0 w):=by
 refine calls_enter func262 Z Z (go ?_)
 obtain ⟨c1,H⟩:=ite_n H
 apply V.da [] [] [(5,_),(6,_),(7,_),(8,_),(9,_),(10,_),(11,_),(12,_),(13,_),(14,_),(15,_),(4,_)] mo HS
 rfl
 refine T.ff [4] (fun w HS=>?_) ⟨rd,rd,rd,rd,rd,rd,rd,rd,rd,rd,.n2 10 14 Z Z Z (fun w HS=>X.rem Z Z c1),rds⟩
 refine go ?_
 exact rt
mutual
def bK.l0:Nat→aC→Int→(List Int)→Option (List Int)
 |0,_,_,_=>none
 |k+1,a0,x5,x8=>(if x5<a0.out then ((cD.f a0 x5).bind fun t12=>(if (x8.length:Int)+([t12]:List Int).length≤1099511627776 then (bK.l0 k a0 (w64 (x5+1)) (x8++([t12]:List Int))) else none)) else some x8)
end
def bK.f (k:Nat) (a0:aC):Option (List Int):=(bK.l0 k a0 0 ([]:List Int))
theorem bK.calls (H:bK.f k a0=some r) (HS:St [blk b0 (#[vi a0.m,vi a0.window,vi a0.queue,vi a0.first,vi a0.out,vs a5_p0 a0.l.length c5_p0]) 239,row 48 1 (.slice a5_p0 a0.l.length c5_p0) a0.l.length d5_p0,tie (El.sl (El.int .u8)) d5_p0 a0.l,R] w0 w):Calls Tryz.prog 232 #[pt b0] w (Ret fun u w=>∃aq0 cq0,u=vs aq0 r.length cq0∧St [row 3 1 (.slice aq0 r.length cq0) r.length (r.map (Value.int .i64)),blk b0 (#[vi a0.m,vi a0.window,vi a0.queue,vi a0.first,vi a0.out,vs a5_p0 a0.l.length c5_p0]) 239,row 48 1 (.slice a5_p0 a0.l.length c5_p0) a0.l.length d5_p0,tie (El.sl (El.int .u8)) d5_p0 a0.l,R] w0 w):=by
 refine calls_enter func232 Z Z (go ?_)
 have HS:=row_nilF (Value.int .i64) 3 1 HS
 refine V.lj (σ:=Int × Option Addr × Nat × List Int) [0,8] (fun kq (x5,ra6,rc7,x8) w=>St [row 3 1 (.slice ra6 x8.length rc7) x8.length (x8.map (Value.int .i64)),blk b0 (#[vi a0.m,vi a0.window,vi a0.queue,vi a0.first,vi a0.out,vs a5_p0 a0.l.length c5_p0]) 239,row 48 1 (.slice a5_p0 a0.l.length c5_p0) a0.l.length d5_p0,tie (El.sl (El.int .u8)) d5_p0 a0.l,R] w0 w∧bK.l0 kq a0 x5 x8=some r∧kq≤k) (fun (x5,ra6,rc7,x8)=>[(3,vs ra6 x8.length rc7),(9,vi x5)]) (_,_,_,_) ⟨HS,H,Nat.le_refl _⟩ ?_
 rintro kq9 ⟨x5,ra6,rc7,x8⟩ w ⟨HS,H,_⟩
 cases kq9 with
 |zero=>exact absurd H (by simp [bK.l0])
 |succ kq9=>
  simp only [bK.l0] at H
  refine go ?_
  refine V.cd H Z (fun _ H=>go ?_) (fun _ H=>go ?_)
  ·have HS:=HS.b [1,1,1]
   refine W.kl H func262 (fun _ h=>cD.calls h HS.j3) ?_
   rintro t12 _ w H ⟨rfl,HS⟩
   have HS:=HS.o3
   refine W.e (Y.ls (e:=3) (Value.int .i64) ([t12]:List Int) HS Z Z (fun _=>by kernel_rfl)) Z ?_
   rintro _ w ⟨_,rfl,HS⟩
   obtain ⟨_,H⟩:=ite_n H
   refine W.e (Y.appF (Value.int .i64) (fun _=>Z) 4 underlying141 ap3 Z HS Z Z Z (rdC.at 0 row_rd HS Z) (by omega) (by omega)) Z ?_
   rintro _ w ⟨_,_,rfl,HS⟩
   refine go ?_
   have HS:=HS.ke [4,1,1,1,1]
   exact At.rn (_,_,_,_) ⟨HS,H,by omega⟩
  ·exact rt
def dt.f (a0:Int) (a1:Int) (a2:Int):Option Int:=((cP.f a0 a2).bind fun t1=>((cP.f a1 a2).bind fun t3=>((cP.f (w64 (t3.1-t1.1)) t3.2).bind fun t5=>some t5.1)))
theorem dt.calls (H:dt.f a0 a1 a2=some r) (HS:St [R] w0 w):Calls Tryz.prog 301 #[vi a0,vi a1,vi a2] w (Ret fun u w=>u=vi r∧St [R] w0 w):=by
 refine calls_enter func301 Z Z (go ?_)
 refine W.kl H func175 (fun _ h=>cP.calls h HS.j0) ?_
 rintro _ _ w H ⟨rfl,HS⟩
 have HS:=HS.o0
 refine go ?_
 refine W.kl H func175 (fun _ h=>cP.calls h HS.j0) ?_
 rintro _ _ w H ⟨rfl,HS⟩
 have HS:=HS.o0
 refine go ?_
 refine W.kl H func175 (fun _ h=>cP.calls h HS.j0) ?_
 rintro _ _ w H ⟨rfl,HS⟩
 have HS:=HS.o0
 refine go ?_
 exact rt
def aT.f (a0:List Int):Option (List Int):=(if (([]:List Int).length:Int)+a0.length≤1099511627776 then some (([]:List Int)++a0) else none)
theorem aT.calls (H:aT.f a0=some r) (HS:St [R] w0 w) (hr0:dB R sa0 sc0 a0):Calls Tryz.prog 127 #[vs sa0 a0.length sc0] w (Ret fun u w=>∃aq0 cq0,u=vs aq0 r.length cq0∧St [rB aq0 cq0 r,R] w0 w):=by
 unfold aT.f at H
 refine calls_enter func127 Z Z ?_
 have H:_=some r:=H
 refine go ?_
 refine W.r (X.eqSl underlying48 Z Z) Z (go ?_)
 by_cases cg1:sa0.isNone=false
 ·refine V.condF (sb cg1) (go ?_)
  refine W.e (Y.lit (e:=5) (sz:=1) (vs:=#[]) [] HS (fun a ha=>by simp only [List.map_toArray,List.map_cons,List.map_nil];try rfl) Z (by decide) (fun _=>by kernel_rfl)) Z ?_
  rintro _ w ⟨ra4,rc5,rfl,HS⟩
  have HS:Sep.St [row 5 1 (.slice ra4 ([]:List Int).length rc5) ([]:List Int).length (([]:List Int).map (Value.int .u8)),R] w0 w:=HS
  refine go ?_
  obtain ⟨_,H⟩:=ite_n H
  refine W.e (Y.appF (Value.int .u8) (fun _=>Z) 0 underlying48 ap5 Z HS Z Z Z (rdC.at 1 hr0 HS Z) (by omega) (by omega)) Z ?_
  rintro _ w ⟨_,_,rfl,HS⟩
  refine go ?_
  exact rt
 ·have hN2:sa0.isNone=true:=by simpa using cg1
  have hz3:a0=[]:=List.eq_nil_of_length_eq_zero ((rdC.at 0 hr0 HS rfl).nil (Option.isNone_iff_eq_none.1 hN2)).1
  have H:some ([]:List Int)=some r:=by simpa [hz3] using H
  refine V.condT (sb hN2) (go ?_)
  have HS:=row_nilF (Value.int .u8) 5 1 HS
  exact rt
mutual
def cC.j0 (a0:aC) (t1:Int) (x6:Bool):Option (List Int × Bool):=(if x6=true then some (([]:List Int),false) else (if 0≤t1∧t1<(a0.l.length:Int) then ((aT.f (a0.l.getD t1.toNat [])).bind fun t18=>some (t18,true)) else none))
end
def cC.f (a0:aC) (a1:Int):Option (List Int × Bool):=((dt.f a0.first a1 a0.m).bind fun t1=>(if a1<0 then (cC.j0 a0 t1 true) else (if a1≥a0.m then (cC.j0 a0 t1 true) else (cC.j0 a0 t1 (decide (t1≥a0.out))))))
theorem cC.calls (H:cC.f a0 a1=some r) (HS:St [blk b0 (#[vi a0.m,vi a0.window,vi a0.queue,vi a0.first,vi a0.out,vs a5_p0 a0.l.length c5_p0]) 239,row 48 1 (.slice a5_p0 a0.l.length c5_p0) a0.l.length d5_p0,tie (El.sl (El.int .u8)) d5_p0 a0.l,R] w0 w):Calls Tryz.prog 273 #[pt b0,vi a1] w (Ret fun u w=>∃aq0 cq0,u=Value.tuple #[vs aq0 r.1.length cq0,vb r.2]∧St [rB aq0 cq0 r.1,blk b0 (#[vi a0.m,vi a0.window,vi a0.queue,vi a0.first,vi a0.out,vs a5_p0 a0.l.length c5_p0]) 239,row 48 1 (.slice a5_p0 a0.l.length c5_p0) a0.l.length d5_p0,tie (El.sl (El.int .u8)) d5_p0 a0.l,R] w0 w):=by
 refine calls_enter func273 Z Z (go ?_)
 apply V.da [9] [10] [(7,_),(8,_),(9,_),(10,_),(11,_),(12,_),(13,_),(14,_),(15,_)] mo HS
 rfl
 refine T.e [10,11,15] [] [0,1,2,3,4,5,6,7,8] fun w HS=>?_
 refine Y.kl H func301 (fun _ h=>dt.calls h HS.j0) ?_
 rintro t1 _ w H ⟨rfl,HS⟩
 have HS:=HS.o0
 apply T.na [(16,_),(6,_)] HS
 exact nmk
 refine T.ff [0,1,6] fun w HS=>?_
 refine gs ?_
 refine V.seq ?_
 refine V.mj (σ:=Bool) [0,6] (fun x6 w=>St [blk b0 (#[vi a0.m,vi a0.window,vi a0.queue,vi a0.first,vi a0.out,vs a5_p0 a0.l.length c5_p0]) 239,row 48 1 (.slice a5_p0 a0.l.length c5_p0) a0.l.length d5_p0,tie (El.sl (El.int .u8)) d5_p0 a0.l,R] w0 w∧cC.j0 a0 t1 x6=some r) (fun x6=>[(34,vb x6)]) ?_ ?_
 ·refine go ?_
  refine W.cd 19 H Z (fun _ H=>go ?_) (fun _ H=>go ?_)
  ·exact At.mt _ ⟨HS,H⟩
  ·refine W.cd 27 H Z (fun _ H=>go ?_) (fun _ H=>go ?_)
   ·exact At.mt _ ⟨HS,H⟩
   ·exact At.mt _ ⟨HS,H⟩
 ·rintro x6 w ⟨HS,H⟩
  refine V.cv H Z (fun _ H=>go ?_) (fun _ H=>go ?_)
  ·have HS:=row_nilF (Value.int .u8) 5 1 HS
   exact rt
  ·obtain ⟨c9,H⟩:=ite_n H
   obtain ⟨_,_,hh⟩:=(rdC.at 1 row_rd HS rfl).some (by decide) c9.1 c9.2;subst hh
   refine go ?_
   obtain ⟨_,hc13,HS⟩:=St.tie_at 2 HS rfl ([]) c9.1 c9.2
   obtain ⟨_,_,he17,HN⟩:=St.sl_openF (Value.int .u8) (fun t=>tie_int t) HS;clear HS;subst he17;have HS:=HN
   refine W.r (X.load underlying48 Z Z ((rdC.at 2 row_rd HS Z).cellEl0 (hc13 0 _ Z))) Z ?_
   refine W.kl H func127 (fun _ h=>aT.calls h HS.j0 (rdC.part 0 fsl.rd Z)) ?_
   rintro _ _ w H ⟨_,_,rfl,HS⟩
   have HS:=HS.o1
   refine go ?_
   have HS:=HS.ke [0,1,1,1,1]
   exact rt
def cR.f (a0:aD):Option Int:=some a0.next
theorem cR.calls (H:cR.f a0=some r) (HS:St [blk b0 (#[vi a0.m,vi a0.window,vi a0.next,Value.map (some b3_p0),vs a4_p0 a0.ready.length c4_p0]) 248,mblk b3_p0 k3_p0,tieM (El.sl (El.int .u8)) k3_p0 a0.kept,row 48 1 (.slice a4_p0 a0.ready.length c4_p0) a0.ready.length d4_p0,tie (El.sl (El.int .u8)) d4_p0 a0.ready,R] w0 w):Calls Tryz.prog 263 #[pt b0] w (Ret fun u w=>u=vi r∧St [blk b0 (#[vi a0.m,vi a0.window,vi a0.next,Value.map (some b3_p0),vs a4_p0 a0.ready.length c4_p0]) 248,mblk b3_p0 k3_p0,tieM (El.sl (El.int .u8)) k3_p0 a0.kept,row 48 1 (.slice a4_p0 a0.ready.length c4_p0) a0.ready.length d4_p0,tie (El.sl (El.int .u8)) d4_p0 a0.ready,R] w0 w):=by
 refine calls_enter func263 Z Z (go ?_)
 exact rt
def dz.f (k:Nat) (a0:ae) (a1:Int) (a2:List Int) (a3:Bool):Option ae:=((cR.f a0.order).bind fun t5=>((dq.f k a0 a0.tag ({Kind:=0,Ns:=a1,Nr:=t5,Poll:=a3}:aF) a2).bind fun t7=>some t7))
theorem dz.calls (H:dz.f k a0 a1 a2 a3=some r) (HS:St [ae.at b0 a0,fB sa2 sc2 a2,R] w0 w):Calls Tryz.prog 223 #[pt b0,vi a1,vs sa2 a2.length sc2,vb a3] w (Ret fun u w=>u=Value.tuple #[]∧St [ae.at b0 r,R] w0 w):=by
 refine calls_enter func223 Z Z ?_
 obtain ⟨_,_,_,_,_,_,_,_,_,HS⟩:=ae.open HS
 apply V.da [10,14] [12] [(8,_),(9,_),(10,_),(11,_),(12,_),(13,_),(14,_),(15,_),(16,_),(17,_),(19,_),(21,_)] mo HS
 rfl
 refine T.e [17] [] [6,7,8,9] fun w HS=>?_
 have HS:=HS.fr 2
 obtain ⟨_,_,_,_,_,_,HS⟩:=aD.open HS
 refine Y.kl H func263 (fun _ h=>cR.calls h HS.j5) ?_
 rintro t5 _ w H ⟨rfl,HS⟩
 have HS:=HS.o5
 apply T.na [(18,_),(20,_)] HS
 exact nmk
 refine T.e [8,12,20,21] [] [0,1,2,3,4,5,11,12,13] (fun w HS=>?_) ⟨rd,rd,rd,rd,rd,rd,rd,.ns [(13,_),(18,_),(19,_)] ⟨Z,Z,Z,tv⟩ Z (fun w HS=>X.bd (Value.agg #[vi (0),vi a1,vi t5,vb a3]) Z (fun _=>by kernel_rfl)),rds⟩
 have HS:=((ae.close tv ((aD.close tv HS).b [1,1])).more 1 rfl (fun _ t=>t) fsl.pers).b [1]
 refine Y.kl H func176 (fun _ h=>dq.calls h HS.j2) ?_
 rintro _ _ w H ⟨rfl,HS⟩
 have HS:=HS.o1
 refine T.nw HS ?_
 refine T.ff [] fun w HS=>?_
 have HS:=HS.ke [0,1]
 exact rt
def dJ.f (k:Nat) (a0:ae) (a1:Int) (a2:Bool):Option ae:=((cC.f a0.log a1).bind fun t5=>((dz.f k a0 a1 t5.1 a2).bind fun t7=>some t7))
theorem dJ.calls (H:dJ.f k a0 a1 a2=some r) (HS:St [ae.at b0 a0,R] w0 w):Calls Tryz.prog 233 #[pt b0,vi a1,vb a2] w (Ret fun u w=>u=Value.tuple #[]∧St [ae.at b0 r,R] w0 w):=by
 refine calls_enter func233 Z Z (go ?_)
 obtain ⟨_,_,_,_,_,_,_,_,_,HS⟩:=ae.open HS
 refine go ?_
 have HS:=HS.fr 1
 obtain ⟨_,_,_,_,HS⟩:=aC.open HS
 refine W.kl H func273 (fun _ h=>cC.calls h HS.j3) ?_
 rintro _ _ w H ⟨_,_,rfl,HS⟩
 have HS:=HS.o4
 refine go ?_
 have HS:=((St.row_freeze ((ae.close tv ((aC.close tv (HS.b [1,1,1])).b [2,0,1,1,1,1,1])).fr 1)).more 0 rfl (fun _ t=>t) fsl.pers).b [2]
 refine W.kl H func223 (fun _ h=>dz.calls h HS.j2) ?_
 rintro _ _ w H ⟨rfl,HS⟩
 have HS:=HS.o1
 refine go ?_
 have HS:=HS.ke [0,1]
 exact rt
mutual
def bY.l0:Nat→(List Int)→Int→ae→Option ae
 |0,_,_,_=>none
 |k+1,t5,x17,x18=>(if x17<(t5.length:Int) then (if 0≤x17∧x17<(t5.length:Int) then ((dJ.f k x18 (t5.getD x17.toNat 0) false).bind fun t25=>(bY.l0 k t5 (w64 (x17+1)) t25)) else none) else (if (t5.length:Int)>0 then ((cu.f x18).bind fun t28=>some t28) else some x18))
end
def bY.f (k:Nat) (a0:ae):Option ae:=((bK.f k a0.log).bind fun t5=>(bY.l0 k t5 0 a0))
theorem bY.calls (H:bY.f k a0=some r) (HS:St [ae.at b0 a0,R] w0 w):Calls Tryz.prog 183 #[pt b0] w (Ret fun u w=>u=Value.tuple #[]∧St [ae.at b0 r,R] w0 w):=by
 refine calls_enter func183 Z Z (go ?_)
 obtain ⟨_,_,_,_,_,_,_,_,_,HS⟩:=ae.open HS
 refine go ?_
 have HS:=HS.fr 1
 obtain ⟨_,_,_,_,HS⟩:=aC.open HS
 refine W.kl H func232 (fun _ h=>bK.calls h HS.j3) ?_
 rintro t5 _ w H ⟨at5_0,ct5_0,rfl,HS⟩
 have HS:=HS.o4
 refine go ?_
 have HS:=ae.close tv ((aC.close tv (HS.b [1,1,1])).b [2,0,1,1,1,1,1])
 refine V.lj (σ:=Int × ae) [0,2,10,11] (fun kq (x17,x18) w=>St [ae.at b0 x18,row 3 1 (.slice at5_0 t5.length ct5_0) t5.length (t5.map (Value.int .i64)),R] w0 w∧bY.l0 kq t5 x17 x18=some r∧kq≤k) (fun (x17,x18)=>[(12,vi x17)]) (_,_) ⟨HS,H,Nat.le_refl _⟩ ?_
 rintro kq19 ⟨x17,x18⟩ w ⟨HS,H,_⟩
 cases kq19 with
 |zero=>exact absurd H (by simp [bY.l0])
 |succ kq19=>
  simp only [bY.l0] at H
  refine go ?_
  refine V.cd H Z (fun _ H=>go ?_) (fun _ H=>go ?_)
  ·obtain ⟨c22,H⟩:=ite_n H
   obtain ⟨_,_,hh⟩:=(rdC.at 1 row_rd HS rfl).some (by decide) c22.1 c22.2;subst hh
   refine go ?_
   refine W.r (X.load underlying3 Z Z ((rdC.at 1 row_rd HS Z).cellI c22.1 c22.2)) Z (go ?_)
   refine W.kl H func233 (fun _ h=>dJ.calls h HS.j1) ?_
   rintro _ _ w H ⟨rfl,HS⟩
   have HS:=HS.o1
   refine go ?_
   exact At.rn (_,_) ⟨HS,H,by omega⟩
  ·refine V.cd H Z (fun _ H=>go ?_) (fun _ H=>go ?_)
   ·refine W.kl H func114 (fun _ h=>cu.calls h HS.j1) ?_
    rintro _ _ w H ⟨rfl,HS⟩
    have HS:=HS.o1
    refine go ?_
    have HS:=HS.ke [0,1]
    exact rt
   ·have HS:=HS.ke [0,1]
    exact rt
def dO.f (k:Nat) (a0:ae):Option ae:=(if a0.state=2 then ((bY.f k a0).bind fun t4=>some t4) else some a0)
theorem dO.calls (H:dO.f k a0=some r) (HS:St [ae.at b0 a0,R] w0 w):Calls Tryz.prog 117 #[pt b0] w (Ret fun u w=>u=Value.tuple #[]∧St [ae.at b0 r,R] w0 w):=by
 refine calls_enter func117 Z Z (go ?_)
 obtain ⟨_,_,_,_,_,_,_,_,_,HS⟩:=ae.open HS
 refine go ?_
 refine V.cd H Z (fun _ H=>go ?_) (fun _ H=>go ?_)
 ·have HS:=ae.close tv HS
  refine W.kl H func183 (fun _ h=>bY.calls h HS.j1) ?_
  rintro _ _ w H ⟨rfl,HS⟩
  have HS:=HS.o1
  refine go ?_
  exact rt
 ·have HS:=ae.close tv HS
  exact rt
def cp.f (a0:aI) (a1:Int):Option (Int × Bool):=((eI.f a1).bind fun t1=>(if t1=true then (if 0≤a1∧a1<32 then some (a0.left.getD a1.toNat 0,decide ((a0.left.getD a1.toNat 0)>0)) else none) else some (0,false)))
theorem cp.calls (H:cp.f a0 a1=some r) (HS:St [blk b0 (([Value.int .u32 a0.now]++a0.left.map (Value.int .i64)).toArray) 253,R] w0 w) (hv0:a0.left.length=32):Calls Tryz.prog 184 #[pt b0,vi a1] w (Ret fun u w=>u=Value.tuple #[vi r.1,vb r.2]∧St [blk b0 (([Value.int .u32 a0.now]++a0.left.map (Value.int .i64)).toArray) 253,R] w0 w):=by
 refine calls_enter func184 Z Z (go ?_)
 refine W.kl H func231 (fun _ h=>eI.calls h HS.j0) ?_
 rintro _ _ w H ⟨rfl,HS⟩
 have HS:=HS.o0
 refine go ?_
 refine V.cx H Z (fun _ H=>go ?_) (fun _ H=>go ?_)
 ·obtain ⟨c4,H⟩:=ite_n H
  apply V.da [] [] [(9,_),(10,_),(11,_),(12,_),(13,_),(14,_),(15,_),(16,_),(17,_),(18,_),(19,_),(20,_),(21,_),(4,_),(5,_)] mo HS
  rfl
  refine T.ff [4,5] (fun w HS=>?_) ⟨rd,rd,rd,rd,rd,.n1 13 Z Z (fun w HS=>X.load underlying3 Z Z (cellArr 0 HS Z Z c4.1 c4.2 (by first|exact hv0|(simp only [List.length_set];exact hv0)))),rd,rd,rd,rd,rd,.n1 19 Z Z (fun w HS=>X.load underlying3 Z Z (cellArr 0 HS Z Z c4.1 c4.2 (by first|exact hv0|(simp only [List.length_set];exact hv0)))),rds⟩
  refine go ?_
  exact rt
 ·exact rt
mutual
def bg.l0:Nat→aI→Int→Bool→Int→Option (Int × Bool)
 |0,_,_,_,_=>none
 |k+1,a0,x2,x3,x4=>(if x4<32 then (if 0≤x4∧x4<32 then (if (a0.left.getD x4.toNat 0)>0 then (bg.j1 a0 x2 x3 x4 (bg.l0 k a0) (decide ((a0.left.getD x4.toNat 0)≤x2))) else (bg.j1 a0 x2 x3 x4 (bg.l0 k a0) false)) else none) else some (x2,x3))
def bg.j1 (a0:aI) (x2:Int) (x3:Bool) (x4:Int) (Lq11:Int→Bool→Int→Option (Int × Bool)) (x9:Bool):Option (Int × Bool):=(if x9=true then (Lq11 (a0.left.getD x4.toNat 0) true (w64 (x4+1))) else (Lq11 x2 x3 (w64 (x4+1))))
end
def bg.f (k:Nat) (a0:aI) (a1:Int):Option (Int × Bool):=(bg.l0 k a0 a1 false 0)
theorem bg.calls (H:bg.f k a0 a1=some r) (HS:St [blk b0 (([Value.int .u32 a0.now]++a0.left.map (Value.int .i64)).toArray) 253,R] w0 w) (hv0:a0.left.length=32):Calls Tryz.prog 234 #[pt b0,vi a1] w (Ret fun u w=>u=Value.tuple #[vi r.1,vb r.2]∧St [blk b0 (([Value.int .u32 a0.now]++a0.left.map (Value.int .i64)).toArray) 253,R] w0 w):=by
 refine calls_enter func234 Z Z (go ?_)
 refine W.r (X.loadArr 0 HS Z Z underlying251 Z inf251 (by first|exact hv0|(simp only [List.length_set];exact hv0)) Z) Z (go ?_)
 refine V.lj (σ:=Int × Bool × Int) [12] (fun kq (x2,x3,x4) w=>St [blk b0 (([Value.int .u32 a0.now]++a0.left.map (Value.int .i64)).toArray) 253,R] w0 w∧bg.l0 kq a0 x2 x3 x4=some r∧kq≤k) (fun (x2,x3,x4)=>[(1,vi x2),(6,vb x3),(13,vi x4)]) (_,_,_) ⟨HS,H,Nat.le_refl _⟩ ?_
 rintro kq5 ⟨x2,x3,x4⟩ w ⟨HS,H,_⟩
 cases kq5 with
 |zero=>exact absurd H (by simp [bg.l0])
 |succ kq5=>
  simp only [bg.l0] at H
  refine go ?_
  refine V.cd H Z (fun _ H=>go ?_) (fun _ H=>go ?_)
  ·obtain ⟨c8,H⟩:=ite_n H
   refine W.r (X.indexArr underlying251 underlying3 Z inf3 Z Z c8.1 c8.2 (by first|exact hv0|(simp only [List.length_set];exact hv0))) Z ?_
   refine gs ?_
   refine V.mj (σ:=Bool) [1,6,8,12,13] (fun x9 w=>St [blk b0 (([Value.int .u32 a0.now]++a0.left.map (Value.int .i64)).toArray) 253,R] w0 w∧∃kl12,kl12≤kq5∧bg.j1 a0 x2 x3 x4 (bg.l0 kl12 a0) x9=some r) (fun x9=>[(22,vb x9)]) ?_ ?_
   ·refine go ?_
    refine W.cd 18 H Z (fun _ H=>go ?_) (fun _ H=>go ?_)
    ·exact At.mt _ ⟨HS,kq5,by omega,H⟩
    ·exact At.mt _ ⟨HS,kq5,by omega,H⟩
   ·rintro x9 w ⟨HS,kl12,_,H⟩
    refine V.cv H Z (fun _ H=>go ?_) (fun _ H=>go ?_)
    ·exact At.rn (_,_,_) ⟨HS,H,by omega⟩
    ·exact At.rn (_,_,_) ⟨HS,H,by omega⟩
  ·exact rt
mutual
def bv.l0:Nat→aI→Int→Int→aI→(List Int)→Option (List Int × aI)
 |0,_,_,_,_,_=>none
 |k+1,a0,a1,x5,x6,x9=>(if x5<32 then (if 0≤x5∧x5<32 then (if (a0.left.getD x5.toNat 0)=0 then (bv.l0 k a0 a1 (w64 (x5+1)) x6 x9) else (if (a0.left.getD x5.toNat 0)=a1 then (if (x9.length:Int)+([x5]:List Int).length≤1099511627776 then (bv.l0 k a0 a1 (w64 (x5+1)) ({now:=x6.now,left:=x6.left.set x5.toNat (w64 ((a0.left.getD x5.toNat 0)-a1))}:aI) (x9++([x5]:List Int))) else none) else (bv.l0 k a0 a1 (w64 (x5+1)) ({now:=x6.now,left:=x6.left.set x5.toNat (w64 ((a0.left.getD x5.toNat 0)-a1))}:aI) x9))) else none) else some (x9,x6))
end
def bv.f (k:Nat) (a0:aI) (a1:Int):Option (List Int × aI):=(bv.l0 k a0 a1 0 a0 ([]:List Int))
theorem bv.calls (H:bv.f k a0 a1=some r) (HS:St [aI.at b0 a0,R] w0 w):Calls Tryz.prog 235 #[pt b0,vi a1] w (Ret fun u w=>∃aq0 cq0,u=vs aq0 r.1.length cq0∧St [row 3 1 (.slice aq0 r.1.length cq0) r.1.length (r.1.map (Value.int .i64)),aI.at b0 r.2,R] w0 w):=by
 refine calls_enter func235 Z Z (go ?_)
 obtain ⟨hi2,HS⟩:=aI.open HS
 refine go ?_
 refine W.r (X.loadArr 0 HS Z Z underlying251 Z inf251 (by first|exact hi2|(simp only [List.length_set];exact hi2)) Z) Z (go ?_)
 have HS:=aI.close (by first|exact hi2|(simp only [List.length_set];exact hi2)) ((row_nilF (Value.int .i64) 3 1 HS).b [1])
 refine V.lj (σ:=Int × aI × Option Addr × Nat × List Int) [0,1,11] (fun kq (x5,x6,ra7,rc8,x9) w=>St [aI.at b0 x6,row 3 1 (.slice ra7 x9.length rc8) x9.length (x9.map (Value.int .i64)),R] w0 w∧bv.l0 kq a0 a1 x5 x6 x9=some r∧kq≤k) (fun (x5,x6,ra7,rc8,x9)=>[(5,vs ra7 x9.length rc8),(12,vi x5)]) (_,_,_,_,_) ⟨HS,H,Nat.le_refl _⟩ ?_
 rintro kq10 ⟨x5,x6,ra7,rc8,x9⟩ w ⟨HS,H,_⟩
 cases kq10 with
 |zero=>exact absurd H (by simp [bv.l0])
 |succ kq10=>
  simp only [bv.l0] at H
  refine go ?_
  refine V.cd H Z (fun _ H=>go ?_) (fun _ H=>go ?_)
  ·obtain ⟨c13,H⟩:=ite_n H
   refine W.r (X.indexArr underlying251 underlying3 Z inf3 Z Z c13.1 c13.2 (by first|exact hi2|(simp only [List.length_set];exact hi2))) Z (go ?_)
   refine V.cd H Z (fun _ H=>go ?_) (fun _ H=>go ?_)
   ·exact At.rn (_,_,_,_,_) ⟨HS,H,by omega⟩
   ·obtain ⟨hi16,HS⟩:=aI.open HS
    refine go ?_
    refine W.r (X.indexAr underlying251 inf3 Z Z c13.1 c13.2) Z ?_
    refine W.en (Y.storeArr 0 HS Z Z inf3 Z Z c13.1 c13.2 (by first|exact hi16|(simp only [List.length_set];exact hi16))) Z ?_
    rintro _ w HS
    refine go ?_
    refine V.cd H Z (fun _ H=>go ?_) (fun _ H=>go ?_)
    ·refine W.e (Y.ls (e:=3) (Value.int .i64) ([x5]:List Int) HS Z Z (fun _=>by kernel_rfl)) Z ?_
     rintro _ w ⟨_,rfl,HS⟩
     obtain ⟨_,H⟩:=ite_n H
     refine W.e (Y.appF (Value.int .i64) (fun _=>Z) 2 underlying141 ap3 Z HS Z Z Z (rdC.at 0 row_rd HS Z) (by omega) (by omega)) Z ?_
     rintro _ w ⟨_,_,rfl,HS⟩
     refine go ?_
     have HS:=(aI.close (by first|exact hi16|(simp only [List.length_set];exact hi16)) (HS.b [1])).ke [0,1,1]
     exact At.rn (_,_,_,_,_) ⟨HS,H,by omega⟩
    ·have HS:=aI.close (by first|exact hi16|(simp only [List.length_set];exact hi16)) HS
     exact At.rn (_,_,_,_,_) ⟨HS,H,by omega⟩
  ·have HS:=HS.b [1]
   exact rt
mutual
def bM.l0:Nat→Int→Int→Bool→aI→(List Int)→Option (List Int × aI)
 |0,_,_,_,_,_=>none
 |k+1,x7,x8,x9,x10,x13=>(if x9=true then ((bv.f k x10 x8).bind fun t17=>(if (x13.length:Int)+t17.1.length≤1099511627776 then ((bg.f k t17.2 (w64 (x7-x8))).bind fun t24=>(bM.l0 k (w64 (x7-x8)) t24.1 t24.2 t17.2 (x13++t17.1))) else none)) else ((bv.f k x10 x7).bind fun t26=>some (x13,t26.2)))
end
def bM.f (k:Nat) (a0:aI) (a1:Int):Option (List Int × aI):=((bg.f k ({now:=IntKind.u32.wrap (a0.now+(IntKind.u32.wrap (imax (0) (imin a1 (1073741824))))),left:=a0.left}:aI) (imax (0) (imin a1 (1073741824)))).bind fun t4=>(bM.l0 k (imax (0) (imin a1 (1073741824))) t4.1 t4.2 ({now:=IntKind.u32.wrap (a0.now+(IntKind.u32.wrap (imax (0) (imin a1 (1073741824))))),left:=a0.left}:aI) ([]:List Int)))
theorem bM.calls (H:bM.f k a0 a1=some r) (HS:St [aI.at b0 a0,R] w0 w):Calls Tryz.prog 185 #[pt b0,vi a1] w (Ret fun u w=>∃aq0 cq0,u=vs aq0 r.1.length cq0∧St [row 3 1 (.slice aq0 r.1.length cq0) r.1.length (r.1.map (Value.int .i64)),aI.at b0 r.2,R] w0 w):=by
 refine calls_enter func185 Z Z (go ?_)
 obtain ⟨hi2,HS⟩:=aI.open HS
 refine go ?_
 refine W.sr 0 HS Z Z Z fun w HS=>go ?_
 refine W.kl H func234 (fun _ h=>bg.calls h HS.j1 (by first|exact hi2|(simp only [List.length_set];exact hi2))) ?_
 rintro _ _ w H ⟨rfl,HS⟩
 have HS:=HS.o1
 refine go ?_
 have HS:=aI.close (by first|exact hi2|(simp only [List.length_set];exact hi2)) ((row_nilF (Value.int .i64) 3 1 HS).b [1])
 refine V.lj (σ:=Int × Int × Bool × aI × Option Addr × Nat × List Int) [0] (fun kq (x7,x8,x9,x10,ra11,rc12,x13) w=>St [aI.at b0 x10,row 3 1 (.slice ra11 x13.length rc12) x13.length (x13.map (Value.int .i64)),R] w0 w∧bM.l0 kq x7 x8 x9 x10 x13=some r∧kq≤k) (fun (x7,x8,x9,x10,ra11,rc12,x13)=>[(1,vi x7),(5,vs ra11 x13.length rc12),(6,vi x8),(7,vb x9)]) (_,_,_,_,_,_,_) ⟨HS,H,Nat.le_refl _⟩ ?_
 rintro kq14 ⟨x7,x8,x9,x10,ra11,rc12,x13⟩ w ⟨HS,H,_⟩
 cases kq14 with
 |zero=>exact absurd H (by simp [bM.l0])
 |succ kq14=>
  simp only [bM.l0] at H
  refine go ?_
  refine V.cv H Z (fun _ H=>go ?_) (fun _ H=>go ?_)
  ·refine W.kl H func235 (fun _ h=>bv.calls h HS.j1) ?_
   rintro _ _ w H ⟨_,_,rfl,HS⟩
   have HS:=HS.o2
   obtain ⟨_,H⟩:=ite_n H
   refine W.e (Y.appF (Value.int .i64) (fun _=>Z) 2 underlying141 ap3 Z HS Z Z Z (rdC.at 0 row_rd HS Z) (by omega) (by omega)) Z ?_
   rintro _ w ⟨_,_,rfl,HS⟩
   refine go ?_
   have HS:=HS.fr 1
   obtain ⟨hi23,HS⟩:=aI.open HS
   refine W.kl H func234 (fun _ h=>bg.calls h HS.j1 (by first|exact hi23|(simp only [List.length_set];exact hi23))) ?_
   rintro _ _ w H ⟨rfl,HS⟩
   have HS:=HS.o1
   refine go ?_
   have HS:=(aI.close (by first|exact hi23|(simp only [List.length_set];exact hi23)) HS).ke [0,1,1]
   exact At.rn (_,_,_,_,_,_,_) ⟨HS,H,by omega⟩
  ·refine W.kl H func235 (fun _ h=>bv.calls h HS.j1) ?_
   rintro _ _ w H ⟨_,_,rfl,HS⟩
   have HS:=HS.o2
   refine go ?_
   have HS:=HS.ke [2,1,1]
   exact rt
def eF.f (a0:aC):Option (Int × aC):=some ((a0.l.length:Int),({a0 with first:=0,out:=0,l:=([]:List (List Int))}:aC))
theorem eF.calls (H:eF.f a0=some r) (HS:St [aC.at b0 a0,R] w0 w):Calls Tryz.prog 217 #[pt b0] w (Ret fun u w=>u=vi r.1∧St [aC.at b0 r.2,R] w0 w):=by
 refine calls_enter func217 Z Z (go ?_)
 obtain ⟨_,_,_,_,HS⟩:=aC.open HS
 refine go ?_
 refine W.sr 5 HS Z Z Z fun w HS=>go ?_
 refine W.sr 4 HS Z Z Z fun w HS=>go ?_
 refine W.sr 3 HS Z Z Z fun w HS=>go ?_
 have HS:=(aC.close (l5:=([]:List (List Int))) tv ((row_nilE (El.sl (El.int .u8)) 48 1 HS).b [2])).ke [0,2]
 exact rt
def dU.f (a0:aD):Option aD:=some (({a0 with next:=0,kept:=([]:List (Int × (List Int)))}:aD))
theorem dU.calls (H:dU.f a0=some r) (HS:St [aD.at b0 a0,R] w0 w):Calls Tryz.prog 218 #[pt b0] w (Ret fun u w=>u=Value.tuple #[]∧St [aD.at b0 r,R] w0 w):=by
 refine calls_enter func218 Z Z (go ?_)
 obtain ⟨_,_,_,_,_,_,HS⟩:=aD.open HS
 refine go ?_
 have HS:=(HS.fr 2).mono (B:=tieM (El.sl (El.int .u8)) [] ([]:List (Int × (List Int)))) fun _ _=>tv
 refine W.en (Y.clearMap 2 underlying246 HS Z Z) Z ?_
 rintro _ w HS
 refine go ?_
 refine W.sr 2 HS Z Z Z fun w HS=>go ?_
 have HS:=aD.close tv (HS.b [1,1])
 exact rt
def de.f (a0:aI) (a1:Int):Option (Bool × aI):=((cp.f a0 a1).bind fun t3=>(if t3.2=true then (if 0≤a1∧a1<32 then some (t3.2,({now:=a0.now,left:=a0.left.set a1.toNat (0)}:aI)) else none) else some (t3.2,a0)))
theorem de.calls (H:de.f a0 a1=some r) (HS:St [aI.at b0 a0,R] w0 w):Calls Tryz.prog 219 #[pt b0,vi a1] w (Ret fun u w=>u=vb r.1∧St [aI.at b0 r.2,R] w0 w):=by
 refine calls_enter func219 Z Z (go ?_)
 obtain ⟨hi2,HS⟩:=aI.open HS
 refine W.kl H func184 (fun _ h=>cp.calls h HS.j1 (by first|exact hi2|(simp only [List.length_set];exact hi2))) ?_
 rintro _ _ w H ⟨rfl,HS⟩
 have HS:=HS.o1
 refine go ?_
 refine V.cv H Z (fun _ H=>go ?_) (fun _ H=>go ?_)
 ·obtain ⟨c6,H⟩:=ite_n H
  refine W.r (X.indexAr underlying251 inf3 Z Z c6.1 c6.2) Z (W.en (Y.storeArr 0 HS Z Z inf3 Z Z c6.1 c6.2 (by first|exact hi2|(simp only [List.length_set];exact hi2))) Z ?_)
  rintro _ w HS
  refine go ?_
  have HS:=aI.close (by first|exact hi2|(simp only [List.length_set];exact hi2)) HS
  exact rt
 ·have HS:=aI.close (by first|exact hi2|(simp only [List.length_set];exact hi2)) HS
  exact rt
def dw.f (a0:ae) (a1:Int):Option ae:=((eF.f a0.log).bind fun t3=>((dU.f a0.order).bind fun t5=>((de.f a0.timers 0).bind fun t7=>some (({a0 with state:=a1,tries:=0,rejected:=false,log:=t3.2,order:=t5,timers:=t7.2,lost:=w64 (a0.lost+t3.1)}:ae)))))
theorem dw.calls (H:dw.f a0 a1=some r) (HS:St [ae.at b0 a0,R] w0 w):Calls Tryz.prog 149 #[pt b0,vi a1] w (Ret fun u w=>u=Value.tuple #[]∧St [ae.at b0 r,R] w0 w):=by
 refine calls_enter func149 Z Z (go ?_)
 obtain ⟨_,_,_,_,_,_,_,_,_,HS⟩:=ae.open HS
 refine go ?_
 refine W.sr 4 HS Z Z Z fun w HS=>go ?_
 refine W.sr 6 HS Z Z Z fun w HS=>go ?_
 refine W.sr 7 HS Z Z Z fun w HS=>go ?_
 apply V.da [8,12] [9,10,11] [(14,_),(15,_),(16,_),(17,_),(18,_),(19,_),(20,_),(21,_)] mo HS
 rfl
 refine T.e [21] [] [4,5,6,7] fun w HS=>?_
 have HS:=HS.b [1]
 refine Y.kl H func217 (fun _ h=>eF.calls h HS.j1) ?_
 rintro _ _ w H ⟨rfl,HS⟩
 have HS:=HS.o1
 apply T.na [(22,_),(23,_),(24,_),(25,_)] HS
 exact nmk
 refine T.e [23,25] [] [0,1,2,3,9,10,11] fun w HS=>?_
 refine Y.sr 15 HS Z Z Z fun _ w HS=>?_
 refine T.nn HS ?_
 refine T.ff [0] fun w HS=>?_
 refine go ?_
 have HS:=HS.b [2]
 refine W.kl H func218 (fun _ h=>dU.calls h HS.j1) ?_
 rintro _ _ w H ⟨rfl,HS⟩
 have HS:=HS.o1
 refine go ?_
 have HS:=HS.b [3]
 refine W.kl H func219 (fun _ h=>de.calls h HS.j1) ?_
 rintro _ _ w H ⟨rfl,HS⟩
 have HS:=HS.o1
 refine go ?_
 have HS:=ae.close tv (HS.b [3,2,1])
 exact rt
def cw.f (a0:ae):Option ae:=((dw.f a0 0).bind fun t1=>(if (t1.inds.length:Int)+([2]:List Int).length≤1099511627776 then some (({t1 with inds:=t1.inds++([2]:List Int)}:ae)) else none))
theorem cw.calls (H:cw.f a0=some r) (HS:St [ae.at b0 a0,R] w0 w):Calls Tryz.prog 236 #[pt b0] w (Ret fun u w=>u=Value.tuple #[]∧St [ae.at b0 r,R] w0 w):=by
 refine calls_enter func236 Z Z (go ?_)
 refine W.kl H func149 (fun _ h=>dw.calls h HS.j1) ?_
 rintro _ _ w H ⟨rfl,HS⟩
 have HS:=HS.o1
 refine go ?_
 obtain ⟨_,_,_,_,_,_,_,_,_,HS⟩:=ae.open HS
 refine go ?_
 refine W.e (Y.ls (e:=3) (Value.int .i64) ([2]:List Int) HS Z Z (fun _=>by kernel_rfl)) Z ?_
 rintro _ w ⟨_,rfl,HS⟩
 obtain ⟨_,H⟩:=ite_n H
 refine W.e (Y.appF (Value.int .i64) (fun _=>Z) 7 underlying141 ap3 Z HS Z Z Z (rdC.at 0 row_rd HS Z) (by omega) (by omega)) Z ?_
 rintro _ w ⟨_,_,rfl,HS⟩
 refine go ?_
 refine W.sr 12 HS Z Z Z fun w HS=>go ?_
 have HS:=(ae.close tv (HS.b [1,1,1,1,1,1,1])).ke [0,1]
 exact rt
def eO.f (k:Nat) (a0:ae):Option ae:=(if (w64 (a0.tries+1))>a0.n2 then ((cw.f ({a0 with tries:=w64 (a0.tries+1)}:ae)).bind fun t11=>some t11) else ((cu.f ({a0 with tries:=w64 (a0.tries+1)}:ae)).bind fun t13=>(if t13.state=1 then ((bJ.f k t13 ({Kind:=3,Ns:=0,Nr:=0,Poll:=true}:aF)).bind fun t18=>some t18) else (if t13.state=3 then ((bJ.f k t13 ({Kind:=5,Ns:=0,Nr:=0,Poll:=true}:aF)).bind fun t21=>some t21) else (if t13.state=2 then ((bK.f k t13.log).bind fun t26=>(if (t26.length:Int)>0 then (if 0≤(0:Int)∧(0:Int)<(t26.length:Int) then ((dJ.f k t13 (t26.getD (0:Int).toNat 0) true).bind fun t32=>some t32) else none) else some t13)) else some t13)))))
theorem eO.calls (H:eO.f k a0=some r) (HS:St [ae.at b0 a0,R] w0 w):Calls Tryz.prog 186 #[pt b0] w (Ret fun u w=>u=Value.tuple #[]∧St [ae.at b0 r,R] w0 w):=by
 refine calls_enter func186 Z Z (go ?_)
 obtain ⟨_,_,_,_,_,_,_,_,_,HS⟩:=ae.open HS
 refine go ?_
 refine W.sr 6 HS Z Z Z fun w HS=>go ?_
 apply V.da [] [] [(10,_),(11,_),(12,_),(13,_),(14,_),(15,_),(16,_),(17,_),(18,_)] mo HS
 rfl
 refine T.ff [0,18] fun w HS=>?_
 refine go ?_
 refine V.cd H Z (fun _ H=>go ?_) (fun _ H=>go ?_)
 ·have HS:=ae.close tv HS
  refine W.kl H func236 (fun _ h=>cw.calls h HS.j1) ?_
  rintro _ _ w H ⟨rfl,HS⟩
  have HS:=HS.o1
  refine go ?_
  exact rt
 ·have HS:=ae.close tv HS
  refine W.kl H func114 (fun _ h=>cu.calls h HS.j1) ?_
  rintro _ _ w H ⟨rfl,HS⟩
  have HS:=HS.o1
  refine go ?_
  obtain ⟨_,_,_,_,_,_,_,_,_,HS⟩:=ae.open HS
  refine go ?_
  refine V.cd H Z (fun _ H=>go ?_) (fun _ H=>go ?_)
  ·refine W.r (X.bd (Value.agg #[vi (3),vi (0),vi (0),vb true]) Z (fun _=>by kernel_rfl)) Z ?_
   have HS:=ae.close tv HS
   refine W.kl H func113 (fun _ h=>bJ.calls h HS.j1) ?_
   rintro _ _ w H ⟨rfl,HS⟩
   have HS:=HS.o1
   refine go ?_
   exact rt
  ·refine V.cd H Z (fun _ H=>go ?_) (fun _ H=>go ?_)
   ·refine W.r (X.bd (Value.agg #[vi (5),vi (0),vi (0),vb true]) Z (fun _=>by kernel_rfl)) Z ?_
    have HS:=ae.close tv HS
    refine W.kl H func113 (fun _ h=>bJ.calls h HS.j1) ?_
    rintro _ _ w H ⟨rfl,HS⟩
    have HS:=HS.o1
    refine go ?_
    exact rt
   ·refine V.cd H Z (fun _ H=>go ?_) (fun _ H=>go ?_)
    ·have HS:=HS.fr 1
     obtain ⟨_,_,_,_,HS⟩:=aC.open HS
     refine W.kl H func232 (fun _ h=>bK.calls h HS.j3) ?_
     rintro _ _ w H ⟨_,_,rfl,HS⟩
     have HS:=HS.o4
     refine go ?_
     refine V.cd H Z (fun _ H=>go ?_) (fun _ H=>go ?_)
     ·obtain ⟨c29,H⟩:=ite_n H
      obtain ⟨_,_,hh⟩:=(rdC.at 0 row_rd HS rfl).some (by decide) c29.1 c29.2;subst hh
      refine go ?_
      refine W.r (X.load underlying3 Z Z ((rdC.at 0 row_rd HS Z).cellI c29.1 c29.2)) Z ?_
      have HS:=ae.close tv ((aC.close tv (HS.b [1,1,1])).b [2,0,1,1,1,1,1])
      refine W.kl H func233 (fun _ h=>dJ.calls h HS.j1) ?_
      rintro _ _ w H ⟨rfl,HS⟩
      have HS:=HS.o1
      refine go ?_
      have HS:=HS.ke [0,1]
      exact rt
     ·have HS:=(ae.close tv ((aC.close tv (HS.b [1,1,1])).b [2,0,1,1,1,1,1])).ke [0,1]
      exact rt
    ·have HS:=ae.close tv HS
     exact rt
end Go.Proofs.YtaejcbpijdacmaaGreat

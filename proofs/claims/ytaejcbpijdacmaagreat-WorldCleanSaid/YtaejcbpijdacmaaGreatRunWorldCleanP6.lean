/- WorldClean: the functions that its law reaches, as plain functions, and that the machine's calls come to what these say. Conditions: those that stand at each. -/
import Derived.Test.YtaejcbpijdacmaaGreatRunWorldCleanP5
set_option linter.all false
set_option maxRecDepth 100000
set_option maxHeartbeats 4000000
set_option synthInstance.maxSize 100000
set_option synthInstance.maxHeartbeats 1000000
namespace Go.Proofs.YtaejcbpijdacmaaGreat
open Go.RowKit Go.Proofs.YtaejcbpijdacmaaGreat.Sep Go.Proofs.YtaejcbpijdacmaaGreat.Walk Go.Proofs.Tryz
attribute [local irreducible] V W At T Code.rounds RdO RdOk
set_option autoImplicit true
set_option relaxedAutoImplicit true
def tieL (d:List Value) (l:List (List (List Int))):As:=fun h=>∃d0:List Value,∃l0:List (List (List Int)),∃a:Option Addr,∃c:Nat,∃e:List Value,∃x:List (List Int),(d=d0++[vs a x.length c]∧l=l0++[x]∧d0.length=l0.length)∧Sp [tie (El.sl (El.sl (El.int .u8))) d0 l0,row 48 1 (.slice a x.length c) x.length e,tie (El.sl (El.int .u8)) e x] h
theorem iz {d:List Value} {l:List (List (List Int))} {h:Hp} (t:tie (El.sl (El.sl (El.int .u8))) d l h):d.length=l.length:=by
 rw [tie.len t]
 exact Nat.mul_one _
theorem fK {d:List Value} {v:Value} {l:List (List (List Int))} {x:List (List Int)} {h:Hp} (t:tie (El.sl (El.sl (El.int .u8))) (d++[v]) (l++[x]) h):tie (El.sl (El.sl (El.int .u8))) d l h:=by
 obtain ⟨css,h1,h2,h3⟩:=t
 rcases List.eq_nil_or_concat css with e|⟨cs,c,e⟩
 · rw [e] at h1;simp at h1
 subst e
 rw [List.concat_eq_append] at h1 h2 h3
 rw [List.length_append,List.length_append] at h1
 have h4:cs.length=l.length:=Nat.succ.inj h1
 have hc:=h3 cs.length c x (by rw [List.getElem?_append_right (Nat.le_refl _),Nat.sub_self];rfl) (by rw [h4,List.getElem?_append_right (Nat.le_refl _),Nat.sub_self];rfl)
 obtain ⟨u,ds,e1,_⟩:=hc
 subst e1
 rw [List.flatten_append] at h2
 have h2:d++[v]=cs.flatten++[u]:=h2.trans (by simp)
 obtain ⟨e2,_⟩:=List.append_inj' h2 rfl
 refine ⟨cs,h4,e2,fun i c' y p q=>h3 i c' y ?_ ?_⟩
 · have:=(List.getElem?_eq_some_iff.1 p).1
   rw [List.getElem?_append_left this];exact p
 · have:=(List.getElem?_eq_some_iff.1 q).1
   rw [List.getElem?_append_left this];exact q
theorem tieL.close {d0:List Value} {l0:List (List (List Int))} {a:Option Addr} {c:Nat} {e:List Value} {x:List (List Int)} {L:List As} {w0 w:World} (hs:Sep.St (tie (El.sl (El.sl (El.int .u8))) d0 l0::row 48 1 (.slice a x.length c) x.length e::tie (El.sl (El.int .u8)) e x::L) w0 w):Sep.St (tieL (d0++[vs a x.length c]) (l0++[x])::L) w0 w:=by
 have hn:d0.length=l0.length:=hs.tells 0 rfl fun h t _=>iz t
 have h2:=St.join (m:=[tie (El.sl (El.sl (El.int .u8))) d0 l0,row 48 1 (.slice a x.length c) x.length e,tie (El.sl (El.int .u8)) e x]) hs
 exact h2.mono fun h hh=>⟨d0,l0,a,c,e,x,⟨Z,Z,hn⟩,hh⟩
theorem tieL.open {d:List Value} {l:List (List (List Int))} {L:List As} {w0 w:World} (hs:Sep.St (tieL d l::L) w0 w):∃d0 l0 a c e x,(d=d0++[vs a x.length c]∧l=l0++[x]∧d0.length=l0.length)∧Sep.St (row 48 1 (.slice a x.length c) x.length e::tie (El.sl (El.int .u8)) e x::tie (El.sl (El.sl (El.int .u8))) d0 l0::L) w0 w:=by
 obtain ⟨ho,ht,hu,h,hon,h1,h2,hd,e1,e2,⟨d0,l0,a,c,e,x,hi,hA⟩,hl⟩:=hs
 have q:Sep.St (tie (El.sl (El.sl (El.int .u8))) d0 l0::row 48 1 (.slice a x.length c) x.length e::tie (El.sl (El.int .u8)) e x::L) w0 w:=St.open (m:=[tie (El.sl (El.sl (El.int .u8))) d0 l0,row 48 1 (.slice a x.length c) x.length e,tie (El.sl (El.int .u8)) e x]) ⟨ho,ht,hu,h,hon,h1,h2,hd,e1,e2,hA,hl⟩
 exact ⟨d0,l0,a,c,e,x,hi,(q.fr 2).fr 2⟩
theorem tieL.frz {d:List Value} {l:List (List (List Int))} {L:List As} {w0 w:World} (hs:Sep.St (tieL d l::L) w0 w):Sep.St (tie (El.sl (El.sl (El.int .u8))) d l::L) w0 w:=by
 obtain ⟨d0,l0,a,c,e,x,⟨h1,h2,_⟩,HS⟩:=tieL.open hs
 subst h1;subst h2
 have HS:Sep.St ((El.sl (El.sl (El.int .u8))).p [vs a x.length c] x::tie (El.sl (El.sl (El.int .u8))) d0 l0::L) w0 w:=St.sl_close (E:=El.sl (El.int .u8)) (St.row_freeze HS)
 have HS:=St.join (m:=[(El.sl (El.sl (El.int .u8))).p [vs a x.length c] x,tie (El.sl (El.sl (El.int .u8))) d0 l0]) HS
 exact HS.mono fun h ⟨h1,h2,_,e1,e2,hf,h3,h4,_,e3,_,ht,_⟩=>tie.append (tie.mono ht (e3.trans e2)) (tie.one1 ((El.sl (El.sl (El.int .u8))).mono hf e1))
theorem tieL.thaw {d:List Value} {l:List (List (List Int))} {L:List As} {w0 w:World} (hs:Sep.St (tie (El.sl (El.sl (El.int .u8))) (d++[vs none 0 0]) (l++[[]])::L) w0 w):Sep.St (tieL (d++[vs none 0 0]) (l++[[]])::L) w0 w:=
 tieL.close (x:=[]) ((row_nilE (El.sl (El.int .u8)) 48 1 (hs.mono fun h t=>fK t)).fr 2)
theorem fC {ty:TypeId} {sz n:Nat} {v:Value} {cs:List Value} {L:List As} {w0 w:World} (k:Nat) (hs:Sep.St L w0 w) (hL:L[k]?=some (row ty sz v n cs)):n≤9223372036854775807:=hs.tells k hL fun h t _=>by
 obtain ⟨_,⟨_,_,e⟩|⟨_,_,c,_,_,h1,h2,_⟩⟩:=t
 · rw [e];exact Nat.zero_le _
 · exact Nat.le_trans h1 h2
/-- The last row is taken out, and put back with more. -/
theorem tieL.at {d:List Value} {l:List (List (List Int))} {L:List As} {w0 w:World} (hs:Sep.St (tieL d l::L) w0 w) (hb:l.length≤9223372036854775807) {i:Int} (hi:i=w64 ((l.length:Int)-1)) (h0:0≤i) (h1:i<(l.length:Int)):
  ∃d0 l0 a c e,(∀j u,([vs a (l.getD i.toNat []).length c]:List Value)[j]?=some u→d[i.toNat*1+j]?=some u)∧
   (∀{M:List As} {w0 w:World} {a':Option Addr} {c':Nat} {e':List Value} {x':List (List Int)},Sep.St (tie (El.sl (El.sl (El.int .u8))) d0 l0::row 48 1 (.slice a' x'.length c') x'.length e'::tie (El.sl (El.int .u8)) e' x'::M) w0 w→Sep.St (tieL (d.set i.toNat (vs a' x'.length c')) (l.set i.toNat x')::M) w0 w)∧
   Sep.St (row 48 1 (.slice a (l.getD i.toNat []).length c) (l.getD i.toNat []).length e::tie (El.sl (El.int .u8)) e (l.getD i.toNat [])::tie (El.sl (El.sl (El.int .u8))) d0 l0::L) w0 w:=by
 obtain ⟨d0,l0,a,c,e,x,⟨e1,e2,e3⟩,HS⟩:=tieL.open hs
 subst e1;subst e2
 have en:i.toNat=l0.length:=by
  rw [List.length_append] at hi h1 hb
  simp only [List.length_cons,List.length_nil] at hi h1 hb
  rw [w64_eq] at hi
  omega
 have ex:(l0++[x]).getD i.toNat []=x:=by
  rw [List.getD_eq_getElem?_getD,en,List.getElem?_append_right (Nat.le_refl _),Nat.sub_self];rfl
 rw [ex]
 refine ⟨d0,l0,a,c,e,fun j u q=>?_,fun hs'=>?_,HS⟩
 · rw [Nat.mul_one,en,←e3,List.getElem?_append_right (Nat.le_add_right _ _),Nat.add_sub_cancel_left];exact q
 · have q:=tieL.close hs'
   rw [en,List.set_append_right _ _ (Nat.le_of_eq e3),List.set_append_right _ _ (Nat.le_refl _),e3,Nat.sub_self]
   exact q
abbrev ag.Q (b:Nat) (l0:ah) (l1 l2:List (List (List Int))) (l3 l4:List (List Int)) (l5:Int) (b0:Nat) (a1:Option Addr) (c1:Nat) (d1:List Value) (a2:Option Addr) (c2:Nat) (d2:List Value) (a3:Option Addr) (c3:Nat) (d3:List Value) (a4:Option Addr) (c4:Nat) (d4:List Value) (L:List As):List As:=blk b (#[pt b0,vs a1 l1.length c1,vs a2 l2.length c2,vs a3 l3.length c3,vs a4 l4.length c4,vi l5]) 57::ah.at b0 l0::row 35 1 (.slice a1 l1.length c1) l1.length d1::tieL d1 l1::row 35 1 (.slice a2 l2.length c2) l2.length d2::tieL d2 l2::row 48 1 (.slice a3 l3.length c3) l3.length d3::tie (El.sl (El.int .u8)) d3 l3::row 48 1 (.slice a4 l4.length c4) l4.length d4::tie (El.sl (El.int .u8)) d4 l4::L
abbrev ag.P (b:Nat) (x:ag) (b0:Nat) (a1:Option Addr) (c1:Nat) (d1:List Value) (a2:Option Addr) (c2:Nat) (d2:List Value) (a3:Option Addr) (c3:Nat) (d3:List Value) (a4:Option Addr) (c4:Nat) (d4:List Value) (L:List As):List As:=ag.Q b x.W x.said.1 x.said.2 x.heard.1 x.heard.2 x.Downs b0 a1 c1 d1 a2 c2 d2 a3 c3 d3 a4 c4 d4 L
def ag.at (b:Nat) (x:ag):As:=fun h=>True∧∃b0:Nat,∃a1:Option Addr,∃c1:Nat,∃d1:List Value,∃a2:Option Addr,∃c2:Nat,∃d2:List Value,∃a3:Option Addr,∃c3:Nat,∃d3:List Value,∃a4:Option Addr,∃c4:Nat,∃d4:List Value,Sp (ag.P b x b0 a1 c1 d1 a2 c2 d2 a3 c3 d3 a4 c4 d4 []) h
theorem ag.open {b:Nat} {x:ag} {L:List As} {w0 w:World} (hs:Sep.St (ag.at b x::L) w0 w):∃b0:Nat,∃a1:Option Addr,∃c1:Nat,∃d1:List Value,∃a2:Option Addr,∃c2:Nat,∃d2:List Value,∃a3:Option Addr,∃c3:Nat,∃d3:List Value,∃a4:Option Addr,∃c4:Nat,∃d4:List Value,True∧Sep.St (ag.P b x b0 a1 c1 d1 a2 c2 d2 a3 c3 d3 a4 c4 d4 L) w0 w:=by
 obtain ⟨ho,ht,hu,h,hon,h1,h2,hd,e1,e2,⟨hi,b0,a1,c1,d1,a2,c2,d2,a3,c3,d3,a4,c4,d4,hA⟩,hl⟩:=hs
 exact ⟨b0,a1,c1,d1,a2,c2,d2,a3,c3,d3,a4,c4,d4,hi,St.open (m:=ag.P b x b0 a1 c1 d1 a2 c2 d2 a3 c3 d3 a4 c4 d4 []) ⟨ho,ht,hu,h,hon,h1,h2,hd,e1,e2,hA,hl⟩⟩
theorem ag.close {b:Nat} {l0:ah} {l1 l2:List (List (List Int))} {l3 l4:List (List Int)} {l5:Int} {b0:Nat} {a1:Option Addr} {c1:Nat} {d1:List Value} {a2:Option Addr} {c2:Nat} {d2:List Value} {a3:Option Addr} {c3:Nat} {d3:List Value} {a4:Option Addr} {c4:Nat} {d4:List Value} {L:List As} {w0 w:World} (hi:True) (hs:Sep.St (ag.Q b l0 l1 l2 l3 l4 l5 b0 a1 c1 d1 a2 c2 d2 a3 c3 d3 a4 c4 d4 L) w0 w):Sep.St (ag.at b ({W:=l0,said:=(l1,l2),heard:=(l3,l4),Downs:=l5}:ag)::L) w0 w:=by
 have h2:=St.join (m:=ag.Q b l0 l1 l2 l3 l4 l5 b0 a1 c1 d1 a2 c2 d2 a3 c3 d3 a4 c4 d4 []) hs
 exact h2.mono fun h hh=>⟨hi,_,_,_,_,_,_,_,_,_,_,_,_,_,hh⟩
mutual
def br.j0:Option (Option ag):=some none
def br.j1 (t2:Option ah × Int) (t2:Option ah × Int) (t2:Option ah × Int) (x16:Bool):Option (Option ag):=(if x16=true then some none else some (some ({W:=t2.1.getD default,said:=(([([]:List (List Int))]:List (List (List Int))),([([]:List (List Int))]:List (List (List Int)))),heard:=(([]:List (List Int)),([]:List (List Int))),Downs:=0}:ag)))
end
def br.f (k:Nat) (a0:aw):Option (Option ag):=((eL.f k a0).bind fun t2=>(if t2.1.isNone=true then ((bt.f t2.2).bind fun t9=>(if t9=0 then br.j0 else br.j0)) else ((bt.f t2.2).bind fun t27=>(if t27=0 then (br.j1 t2 t2 t2 false) else (br.j1 t2 t2 t2 true)))))
theorem br.calls (H:br.f k a0=some r) (HS:St [R] w0 w):Calls Tryz.prog 20 #[Value.agg #[vi a0.Mode,vi a0.Modulus,vi a0.Window,vi a0.T1,vi a0.N2,vi a0.Hold,vi a0.Wait,vi a0.Keep,vi a0.Queue,vi a0.Size,vi a0.Ring,vi a0.Rate,vi a0.Bad,vi a0.Good,vb a0.Revert,vb a0.Wide]] w (Ret fun u w=>∃bq0,u=optv bq0 r∧St [optAt ag.at bq0 r,R] w0 w):=by
 refine calls_enter func20 Z Z (go ?_)
 refine W.e (Y.box HS Z) Z ?_
 rintro _ w ⟨nb1,rfl,HS⟩
 refine go ?_
 obtain ⟨t2,A3,H⟩:=bind_s H
 refine ite_c H (fun c4 H=>?_) (fun c4 H=>?_)
 ·refine W.e (Y.cl func9 (eL.calls A3 HS.j0)) Z ?_
  rintro _ w ⟨bt2_0,rfl,HS⟩
  have HS:=St.optN c4 HS.o1
  rw [optv_n c4]
  refine gs ?_
  refine V.seq ?_
  refine V.mj (σ:=Unit) [3] (fun _ w=>St [aw.at nb1 a0,R] w0 w∧br.j0=some r) (fun _=>[(17,vb true)]) ?_ ?_
  ·refine go ?_
   refine W.kl H func10 (fun _ h=>bt.calls h HS.j0) ?_
   rintro _ _ w H ⟨rfl,HS⟩
   have HS:=HS.o0
   refine go ?_
   refine W.cm 14 H Z (fun _ H=>go ?_) (fun _ H=>go ?_)
   ·refine W.r (X.eqP underlying25 Z Z) Z (go ?_)
    have HS:=aw.close tv HS
    exact At.mt () ⟨HS,H⟩
   ·have HS:=aw.close tv HS
    exact At.mt () ⟨HS,H⟩
  ·rintro ⟨⟩ w ⟨HS,H⟩
   refine go ?_
   have HS:=(HS.more (B:=optAt ag.at 0 none) 0 rfl (fun _ _=>tv) (fun _=>tv)).ke [0,1]
   exact rt
 ·refine W.e (Y.cl func9 (eL.calls A3 HS.j0)) Z ?_
  rintro _ w ⟨bt2_0,rfl,HS⟩
  have HS:=St.optS default c4 HS.o1
  rw [optv_s c4]
  refine gs ?_
  refine V.seq ?_
  refine V.mj (σ:=Bool) [3] (fun x16 w=>St [aw.at nb1 a0,ah.at bt2_0 (t2.1.getD default),R] w0 w∧br.j1 t2 t2 t2 x16=some r) (fun x16=>[(17,vb x16)]) ?_ ?_
  ·refine go ?_
   refine W.kl H func10 (fun _ h=>bt.calls h HS.j0) ?_
   rintro _ _ w H ⟨rfl,HS⟩
   have HS:=HS.o0
   refine go ?_
   refine W.cm 14 H Z (fun _ H=>go ?_) (fun _ H=>go ?_)
   ·refine W.r (X.eqP underlying25 Z Z) Z (go ?_)
    have HS:=aw.close tv (HS.b [1])
    exact At.mt _ ⟨HS,H⟩
   ·have HS:=aw.close tv (HS.b [1])
    exact At.mt _ ⟨HS,H⟩
  ·rintro x16 w ⟨HS,H⟩
   refine V.cv H Z (fun _ H=>go ?_) (fun _ H=>go ?_)
   ·have HS:=(HS.more (B:=optAt ag.at 0 none) 0 rfl (fun _ _=>tv) (fun _=>tv)).ke [0,2]
    exact rt
   ·refine W.r (X.bd (Value.agg #[pt bt2_0,vs none 0 0,vs none 0 0,vs none 0 0,vs none 0 0,vi (0)]) Z (fun _=>by kernel_rfl)) Z ?_
    refine W.e (Y.box HS Z) Z ?_
    rintro _ w ⟨_,rfl,HS⟩
    refine go ?_
    have HS:=St.row_freeze (row_nilE (El.sl (El.int .u8)) 48 1 HS)
    refine W.e (Y.lc (e:=35) (sz:=1) [vs none (([]:List (List Int))).length 0] HS Z Z (fun _=>by kernel_rfl)) Z ?_
    rintro _ w ⟨_,rfl,HS⟩
    have HS:=St.tie_cons (((St.sl_close (E:=(El.sl (El.int .u8))) (((St.put (A:=tie (El.sl (El.sl (El.int .u8))) ([]) (([]:List (List (List Int))))) (fun _=>tie.nil) HS).more 3 rfl (fun _ t=>t) tie.pers).more 3 rfl (fun _ t=>t) fsl.pers)).fr 1).fr 1)
    have HS:Sep.St (tieL [vs none (([]:List (List Int))).length 0] [[]]::_) w0 w:=tieL.thaw (d:=[]) (l:=[]) HS
    refine go ?_
    refine W.sr 1 HS Z Z Z fun w HS=>go ?_
    have HS:=St.row_freeze (row_nilE (El.sl (El.int .u8)) 48 1 HS)
    refine W.e (Y.lc (e:=35) (sz:=1) [vs none (([]:List (List Int))).length 0] HS Z Z (fun _=>by kernel_rfl)) Z ?_
    rintro _ w ⟨_,rfl,HS⟩
    have HS:=St.tie_cons (((St.sl_close (E:=(El.sl (El.int .u8))) (((St.put (A:=tie (El.sl (El.sl (El.int .u8))) ([]) (([]:List (List (List Int))))) (fun _=>tie.nil) HS).more 3 rfl (fun _ t=>t) tie.pers).more 3 rfl (fun _ t=>t) fsl.pers)).fr 1).fr 1)
    have HS:Sep.St (tieL [vs none (([]:List (List Int))).length 0] [[]]::_) w0 w:=tieL.thaw (d:=[]) (l:=[]) HS
    refine go ?_
    refine W.sr 2 HS Z Z Z fun w HS=>go ?_
    have HS:=(ag.close (l1:=[[]]) (l2:=[[]]) (l3:=([]:List (List Int))) (l4:=([]:List (List Int))) tv ((row_nilE (El.sl (El.int .u8)) 48 1 (row_nilE (El.sl (El.int .u8)) 48 1 HS)).b [12,13,9,8,5,4,2,2])).ke [0,5]
    exact rt
def dH.f (a0:aD):Option (List Int × Bool × aD):=(if (a0.ready.length:Int)=0 then some (([]:List Int),false,a0) else (if 0≤(0:Int)∧(0:Int)<(a0.ready.length:Int) then (if 0≤(1:Int)∧(1:Int)≤(a0.ready.length:Int)∧(a0.ready.length:Int)≤(a0.ready.length:Int) then some (a0.ready.getD (0:Int).toNat [],true,({a0 with ready:=cut a0.ready (1:Int) (a0.ready.length:Int)}:aD)) else none) else none))
theorem dH.calls (H:dH.f a0=some r) (HS:St [aD.at b0 a0,R] w0 w):Calls Tryz.prog 155 #[pt b0] w (Ret fun u w=>∃aq0 cq0,u=Value.tuple #[vs aq0 r.1.length cq0,vb r.2.1]∧St [fB aq0 cq0 r.1,aD.at b0 r.2.2,R] w0 w):=by
 refine calls_enter func155 Z Z (go ?_)
 obtain ⟨_,_,_,_,_,_,HS⟩:=aD.open HS
 refine go ?_
 refine V.cd H Z (fun _ H=>go ?_) (fun _ H=>go ?_)
 ·have HS:=(aD.close tv ((St.row_freeze (row_nilF (Value.int .u8) 5 1 HS)).b [1,1,1,1,1])).b [1]
  exact rt
 ·obtain ⟨c4,H⟩:=ite_n H
  obtain ⟨_,_,hh⟩:=(rdC.at 3 row_rd HS rfl).some (by decide) c4.1 c4.2;subst hh
  refine go ?_
  obtain ⟨_,hc8,HS⟩:=St.tie_at 4 HS rfl ([]) c4.1 c4.2
  obtain ⟨_,_,he12,HN⟩:=St.sl_openF (Value.int .u8) (fun t=>tie_int t) HS;clear HS;subst he12;have HS:=HN
  refine W.r (X.load underlying48 Z Z ((rdC.at 4 row_rd HS Z).cellEl0 (hc8 0 _ Z))) Z (go ?_)
  obtain ⟨c13,H⟩:=ite_n H
  refine W.r (X.slL underlying35 inf48 Z Z c13) Z (go ?_)
  refine W.sr 4 HS Z Z Z fun w HS=>go ?_
  have HS:=(aD.close tv ((St.tie_cut (1:Int) (a0.ready.length:Int) ((St.row_sub (HS.fr 4) c13).fr 5)).b [3,3,3,1])).b [1]
  exact rt
def eV.f (a0:ae):Option (List Int × Bool × ae):=((dH.f a0.order).bind fun t3=>some (t3.1,t3.2.1,({a0 with order:=t3.2.2}:ae)))
theorem eV.calls (H:eV.f a0=some r) (HS:St [ae.at b0 a0,R] w0 w):Calls Tryz.prog 88 #[pt b0] w (Ret fun u w=>∃aq0 cq0,u=Value.tuple #[vs aq0 r.1.length cq0,vb r.2.1]∧St [fB aq0 cq0 r.1,ae.at b0 r.2.2,R] w0 w):=by
 refine calls_enter func88 Z Z (go ?_)
 obtain ⟨_,_,_,_,_,_,_,_,_,HS⟩:=ae.open HS
 refine go ?_
 have HS:=HS.b [2]
 refine W.kl H func155 (fun _ h=>dH.calls h HS.j1) ?_
 rintro _ _ w H ⟨_,_,rfl,HS⟩
 have HS:=HS.o2
 refine go ?_
 have HS:=(ae.close tv (HS.b [2,2,1,1,1,1,1])).b [1]
 exact rt
def cy.f (a0:aa):Option (List Int × Bool × aa):=((eV.f a0.arq).bind fun t3=>some (t3.1,t3.2.1,({a0 with arq:=t3.2.2}:aa)))
theorem cy.calls (H:cy.f a0=some r) (HS:St [aa.at b0 a0,R] w0 w):Calls Tryz.prog 35 #[pt b0] w (Ret fun u w=>∃aq0 cq0,u=Value.tuple #[vs aq0 r.1.length cq0,vb r.2.1]∧St [fB aq0 cq0 r.1,aa.at b0 r.2.2,R] w0 w):=by
 refine calls_enter func35 Z Z (go ?_)
 obtain ⟨_,_,_,_,_,_,_,_,_,_,HS⟩:=aa.open HS
 refine go ?_
 have HS:=HS.b [1]
 refine W.kl H func88 (fun _ h=>eV.calls h HS.j1) ?_
 rintro _ _ w H ⟨_,_,rfl,HS⟩
 have HS:=HS.o2
 refine go ?_
 have HS:=(aa.close tv (HS.b [2,1,1,1,1,1,1,1,1,1])).b [1]
 exact rt
def eT.f (a0:ae):Option (List Int × ae):=some (a0.inds,({a0 with inds:=([]:List Int)}:ae))
theorem eT.calls (H:eT.f a0=some r) (HS:St [ae.at b0 a0,R] w0 w):Calls Tryz.prog 161 #[pt b0] w (Ret fun u w=>∃aq0 cq0,u=vs aq0 r.1.length cq0∧St [row 3 1 (.slice aq0 r.1.length cq0) r.1.length (r.1.map (Value.int .i64)),ae.at b0 r.2,R] w0 w):=by
 refine calls_enter func161 Z Z (go ?_)
 obtain ⟨_,_,_,_,_,_,_,_,_,HS⟩:=ae.open HS
 refine go ?_
 refine W.sr 12 HS Z Z Z fun w HS=>go ?_
 have HS:=(ae.close (l12:=([]:List Int)) tv ((row_nilF (Value.int .i64) 3 1 HS).b [1,1,1,1,1,1])).b [1]
 exact rt
def cO.f (a0:aa):Option (List Int × aa):=((eT.f a0.arq).bind fun t3=>some (t3.1,({a0 with arq:=t3.2}:aa)))
theorem cO.calls (H:cO.f a0=some r) (HS:St [aa.at b0 a0,R] w0 w):Calls Tryz.prog 97 #[pt b0] w (Ret fun u w=>∃aq0 cq0,u=vs aq0 r.1.length cq0∧St [row 3 1 (.slice aq0 r.1.length cq0) r.1.length (r.1.map (Value.int .i64)),aa.at b0 r.2,R] w0 w):=by
 refine calls_enter func97 Z Z (go ?_)
 obtain ⟨_,_,_,_,_,_,_,_,_,_,HS⟩:=aa.open HS
 refine go ?_
 have HS:=HS.b [1]
 refine W.kl H func161 (fun _ h=>eT.calls h HS.j1) ?_
 rintro _ _ w H ⟨_,_,rfl,HS⟩
 have HS:=HS.o2
 refine go ?_
 have HS:=(aa.close tv (HS.b [2,1,1,1,1,1,1,1,1,1])).b [1]
 exact rt
mutual
def aj.l0:Nat→ag→aa→Int→(List (List Int))→Option ag
 |0,_,_,_,_=>none
 |k+1,a0,x37,x38,x41=>((cy.f x37).bind fun t45=>(if t45.2.1=true then (if (x41.length:Int)+(([t45.1]:List (List Int))).length≤1099511627776 then (aj.l0 k a0 t45.2.2 x38 (x41++([t45.1]:List (List Int)))) else none) else ((cO.f t45.2.2).bind fun t55=>(aj.l1 k t55 0 ({W:=({a0.W with stations:=(t55.2,a0.W.stations.2),ways:=a0.W.ways}:ah),said:=a0.said,heard:=(x41,a0.heard.2),Downs:=x38}:ag)))))
def aj.l1:Nat→(List Int × aa)→Int→ag→Option ag
 |0,_,_,_=>none
 |k+1,t55,x58,x59=>(if x58<(t55.1.length:Int) then (if 0≤x58∧x58<(t55.1.length:Int) then (if (t55.1.getD x58.toNat 0)=2 then (aj.j2 t55 x58 (aj.l1 k t55) x59) else (if (x59.said.1.length:Int)+(([([]:List (List Int))]:List (List (List Int)))).length≤1099511627776 then (aj.j2 t55 x58 (aj.l1 k t55) ({x59 with said:=(x59.said.1++([([]:List (List Int))]:List (List (List Int))),x59.said.2)}:ag)) else none)) else none) else (aj.l3 k x59 x59.W.stations.2 x59.Downs x59.heard.2))
def aj.j2 (t55:List Int × aa) (x58:Int) (Lq65:Int→ag→Option ag) (x63:ag):Option ag:=(if 0≤x58∧x58<(t55.1.length:Int) then (if (t55.1.getD x58.toNat 0)=1 then (Lq65 (w64 (x58+1)) x63) else (Lq65 (w64 (x58+1)) ({x63 with Downs:=w64 (x63.Downs+1)}:ag))) else none)
def aj.l3:Nat→ag→aa→Int→(List (List Int))→Option ag
 |0,_,_,_,_=>none
 |k+1,x59,x120,x121,x124=>((cy.f x120).bind fun t128=>(if t128.2.1=true then (if (x124.length:Int)+(([t128.1]:List (List Int))).length≤1099511627776 then (aj.l3 k x59 t128.2.2 x121 (x124++([t128.1]:List (List Int)))) else none) else ((cO.f t128.2.2).bind fun t138=>(aj.l4 k t138 0 ({W:=({x59.W with stations:=(x59.W.stations.1,t138.2),ways:=x59.W.ways}:ah),said:=x59.said,heard:=(x59.heard.1,x124),Downs:=x121}:ag)))))
def aj.l4:Nat→(List Int × aa)→Int→ag→Option ag
 |0,_,_,_=>none
 |k+1,t138,x141,x142=>(if x141<(t138.1.length:Int) then (if 0≤x141∧x141<(t138.1.length:Int) then (if (t138.1.getD x141.toNat 0)=2 then (aj.j5 t138 x141 (aj.l4 k t138) x142) else (if (x142.said.2.length:Int)+(([([]:List (List Int))]:List (List (List Int)))).length≤1099511627776 then (aj.j5 t138 x141 (aj.l4 k t138) ({x142 with said:=(x142.said.1,x142.said.2++([([]:List (List Int))]:List (List (List Int))))}:ag)) else none)) else none) else some x142)
def aj.j5 (t138:List Int × aa) (x141:Int) (Lq148:Int→ag→Option ag) (x146:ag):Option ag:=(if 0≤x141∧x141<(t138.1.length:Int) then (if (t138.1.getD x141.toNat 0)=1 then (Lq148 (w64 (x141+1)) x146) else (Lq148 (w64 (x141+1)) ({x146 with Downs:=w64 (x146.Downs+1)}:ag))) else none)
end
def aj.f (k:Nat) (a0:ag):Option ag:=(aj.l0 k a0 a0.W.stations.1 a0.Downs a0.heard.1)
theorem aj.calls (H:aj.f k a0=some r) (HS:St [ag.at b0 a0,R] w0 w):Calls Tryz.prog 70 #[pt b0] w (Ret fun u w=>u=Value.tuple #[]∧St [ag.at b0 r,R] w0 w):=by
 refine calls_enter func70 Z Z (go ?_)
 refine V.rs 2 [(0,pt b0),(2,vi (0))] (go ?_)
 obtain ⟨b0_2,a1_2,c1_2,d1_2,a2_2,c2_2,d2_2,_,_,_,a4_2,c4_2,d4_2,_,HS⟩:=ag.open HS
 refine go ?_
 refine W.inl (Y.cl (vs:=[pt b0_2,vi (0)]) func13 (calls_enter func13 Z Z ?_)) Z Z Z
 refine go ?_
 refine W.inl (Y.cl (vs:=[vi (0)]) func53 (calls_enter func53 Z Z ?_)) Z Z Z
 refine go ?_
 refine At.ret1 Z Z ⟨_,Z,?_⟩
 refine go ?_
 have HS:=HS.fr 1
 obtain ⟨b16_4,b17_4,b18_4,a19_4,c19_4,d19_4,a20_4,c20_4,d20_4,b21_4,a22_4,c22_4,d22_4,a23_4,c23_4,d23_4,b24_4,a25_4,c25_4,d25_4,a26_4,c26_4,d26_4,b27_4,a28_4,c28_4,d28_4,a29_4,c29_4,d29_4,_,HS⟩:=ah.open HS
 refine go ?_
 refine At.ret1 Z Z ⟨_,Z,?_⟩
 refine go ?_
 refine V.lj (σ:=aa × Int × Option Addr × Nat × List Value × List (List Int)) [0,2,3] (fun kq (x37,x38,ra39,rc40,rd42,x41) w=>St [blk b0_2 (#[vi a0.W.c.Mode,vi a0.W.c.Modulus,vi a0.W.c.Window,vi a0.W.c.T1,vi a0.W.c.N2,vi a0.W.c.Hold,vi a0.W.c.Wait,vi a0.W.c.Keep,vi a0.W.c.Queue,vi a0.W.c.Size,vi a0.W.c.Ring,vi a0.W.c.Rate,vi a0.W.c.Bad,vi a0.W.c.Good,vb a0.W.c.Revert,vb a0.W.c.Wide,pt b16_4,pt b17_4,pt b18_4,vs a19_4 a0.W.ways.1.1.sent.length c19_4,vs a20_4 a0.W.ways.1.1.got.length c20_4,pt b21_4,vs a22_4 a0.W.ways.1.2.sent.length c22_4,vs a23_4 a0.W.ways.1.2.got.length c23_4,pt b24_4,vs a25_4 a0.W.ways.2.1.sent.length c25_4,vs a26_4 a0.W.ways.2.1.got.length c26_4,pt b27_4,vs a28_4 a0.W.ways.2.2.sent.length c28_4,vs a29_4 a0.W.ways.2.2.got.length c29_4,vi a0.W.now]) 83,aa.at b16_4 x37,aa.at b17_4 a0.W.stations.2,au.at b18_4 a0.W.ways.1.1.pipe,row 48 1 (.slice a19_4 a0.W.ways.1.1.sent.length c19_4) a0.W.ways.1.1.sent.length d19_4,tie (El.sl (El.int .u8)) d19_4 a0.W.ways.1.1.sent,row 48 1 (.slice a20_4 a0.W.ways.1.1.got.length c20_4) a0.W.ways.1.1.got.length d20_4,tie (El.sl (El.int .u8)) d20_4 a0.W.ways.1.1.got,au.at b21_4 a0.W.ways.1.2.pipe,row 48 1 (.slice a22_4 a0.W.ways.1.2.sent.length c22_4) a0.W.ways.1.2.sent.length d22_4,tie (El.sl (El.int .u8)) d22_4 a0.W.ways.1.2.sent,row 48 1 (.slice a23_4 a0.W.ways.1.2.got.length c23_4) a0.W.ways.1.2.got.length d23_4,tie (El.sl (El.int .u8)) d23_4 a0.W.ways.1.2.got,au.at b24_4 a0.W.ways.2.1.pipe,row 48 1 (.slice a25_4 a0.W.ways.2.1.sent.length c25_4) a0.W.ways.2.1.sent.length d25_4,tie (El.sl (El.int .u8)) d25_4 a0.W.ways.2.1.sent,row 48 1 (.slice a26_4 a0.W.ways.2.1.got.length c26_4) a0.W.ways.2.1.got.length d26_4,tie (El.sl (El.int .u8)) d26_4 a0.W.ways.2.1.got,au.at b27_4 a0.W.ways.2.2.pipe,row 48 1 (.slice a28_4 a0.W.ways.2.2.sent.length c28_4) a0.W.ways.2.2.sent.length d28_4,tie (El.sl (El.int .u8)) d28_4 a0.W.ways.2.2.sent,row 48 1 (.slice a29_4 a0.W.ways.2.2.got.length c29_4) a0.W.ways.2.2.got.length d29_4,tie (El.sl (El.int .u8)) d29_4 a0.W.ways.2.2.got,blk b0 (#[pt b0_2,vs a1_2 a0.said.1.length c1_2,vs a2_2 a0.said.2.length c2_2,vs ra39 x41.length rc40,vs a4_2 a0.heard.2.length c4_2,vi x38]) 57,row 35 1 (.slice a1_2 a0.said.1.length c1_2) a0.said.1.length d1_2,tieL d1_2 a0.said.1,row 35 1 (.slice a2_2 a0.said.2.length c2_2) a0.said.2.length d2_2,tieL d2_2 a0.said.2,row 48 1 (.slice ra39 x41.length rc40) x41.length rd42,tie (El.sl (El.int .u8)) rd42 x41,row 48 1 (.slice a4_2 a0.heard.2.length c4_2) a0.heard.2.length d4_2,tie (El.sl (El.int .u8)) d4_2 a0.heard.2,R] w0 w∧aj.l0 kq a0 x37 x38 x41=some r∧kq≤k) (fun _=>[]) (_,_,_,_,_,_) ⟨HS,H,Nat.le_refl _⟩ ?_
 rintro kq43 ⟨x37,x38,ra39,rc40,rd42,x41⟩ w ⟨HS,H,_⟩
 cases kq43 with
 |zero=>exact absurd H (by simp [aj.l0])
 |succ kq43=>
  simp only [aj.l0] at H
  refine go ?_
  have HS:=HS.b [1]
  refine W.kl H func35 (fun _ h=>cy.calls h HS.j1) ?_
  rintro t45 _ w H ⟨at45_0,ct45_0,rfl,HS⟩
  have HS:=HS.o2
  refine go ?_
  refine V.cx H Z (fun _ H=>go ?_) (fun _ H=>go ?_)
  ·apply V.da [9,10,14] [13] [(25,_),(26,_),(27,_),(28,_),(29,_),(30,_),(31,_),(32,_),(33,_),(36,_),(37,_)] mo HS
   rfl
   refine T.e [33] [13] [8] fun w HS=>?_
   refine ⟨_,Y.lc (e:=48) (sz:=1) [vs at45_0 t45.1.length ct45_0] HS Z Z (fun _=>by kernel_rfl),?_⟩
   rintro _ w ⟨_,rfl,HS⟩
   have HS:=St.tie_cons (((St.sl_close (E:=(El.int .u8)) (St.swap (St.put (A:=tie (El.int .u8) (t45.1.map (Value.int .u8)) t45.1) (fun _=>int_tie) ((St.put (A:=tie (El.sl (El.int .u8)) ([]) (([]:List (List Int)))) (fun _=>tie.nil) HS).more 2 rfl (fun _ t=>t) fsl.pers)))).fr 1).fr 1)
   refine T.nw HS ?_
   refine T.e [32,34] [] [2,3,4,5,6,7] fun w HS=>?_
   obtain ⟨_,H⟩:=ite_n H
   refine ⟨_,Y.app (xs:=x41) (ys:=([t45.1]:List (List Int))) 31 underlying35 ap48 Z (by decide) HS Z Z Z (rdC.at 1 row_rd HS Z) (St.tie_one 0 HS Z) (by omega) (by omega),?_⟩
   rintro _ w ⟨_,_,rfl,HS⟩
   have HS:=St.tie_app 1 (HS.fr 32) rfl
   apply T.na [(35,_),(38,_)] HS
   exact nmk
   refine T.e [35,38] [] [0,1,11,12,13] fun w HS=>?_
   refine Y.sr 3 HS Z Z Z fun _ w HS=>?_
   refine T.nn HS ?_
   refine T.ff [0,2,3] fun w HS=>?_
   refine go ?_
   have HS:=HS.ke [5,4,4,4,4,4,4,4,4,4,4,4,4,4,4,4,4,4,4,4,4,4,4,4,4,4,4,4,4,0,3,3,3]
   exact At.rn (_,_,_,_,_,_) ⟨HS,H,by omega⟩
  ·have HS:=HS.b [1]
   refine W.kl H func97 (fun _ h=>cO.calls h HS.j1) ?_
   rintro t55 _ w H ⟨at55_0,ct55_0,rfl,HS⟩
   have HS:=HS.o2
   refine go ?_
   have HS:=ag.close tv ((ah.close tv (HS.b [3,1,2,2,2,2,2,2,2,2,2,2,2,2,2,2,2,2,2,2,2,2,2])).b [3,0,2,2,2,2,2,2,2,2])
   refine V.lj (σ:=Int × ag) [0,2,6] (fun kq (x58,x59) w=>St [ag.at b0 x59,row 3 1 (.slice at55_0 t55.1.length ct55_0) t55.1.length (t55.1.map (Value.int .i64)),fB at45_0 ct45_0 t45.1,R] w0 w∧aj.l1 kq t55 x58 x59=some r∧kq≤kq43) (fun (x58,x59)=>[(7,vi x58)]) (_,_) ⟨HS,H,Nat.le_refl _⟩ ?_
   rintro kq60 ⟨x58,x59⟩ w ⟨HS,H,_⟩
   cases kq60 with
   |zero=>exact absurd H (by simp [aj.l1])
   |succ kq60=>
    simp only [aj.l1] at H
    refine go ?_
    refine V.cd H Z (fun _ H=>?_) (fun _ H=>go ?_)
    ·refine gs ?_
     refine V.seq ?_
     refine gs ?_
     refine V.mj (σ:=ag) [0,2,6,7] (fun x63 w=>St [ag.at b0 x63,row 3 1 (.slice at55_0 t55.1.length ct55_0) t55.1.length (t55.1.map (Value.int .i64)),fB at45_0 ct45_0 t45.1,R] w0 w∧∃kl66,kl66≤kq60∧aj.j2 t55 x58 (aj.l1 kl66 t55) x63=some r) (fun _=>[]) ?_ ?_
     ·refine go ?_
      obtain ⟨c73,H⟩:=ite_n H
      obtain ⟨_,_,hh⟩:=(rdC.at 1 row_rd HS rfl).some (by decide) c73.1 c73.2;subst hh
      refine go ?_
      refine W.r (X.load underlying3 Z Z ((rdC.at 1 row_rd HS Z).cellI c73.1 c73.2)) Z (go ?_)
      refine V.cm H Z (fun _ H=>go ?_) (fun _ H=>?_)
      ·exact At.mt _ ⟨HS,kq60,by omega,H⟩
      ·obtain ⟨_,_,_,_,_,_,_,_,_,_,_,_,_,_,HS⟩:=ag.open HS
       have HS:=(tieL.frz (HS.fr 3)).b [1,1,1]
       apply V.da [8,9,13] [12] [(52,_),(53,_),(54,_),(55,_),(56,_),(57,_),(58,_),(59,_),(62,_),(63,_)] mo HS
       rfl
       refine T.e [] [12] [] fun w HS=>?_
       have HS:=St.row_freeze (row_nilE (El.sl (El.int .u8)) 48 1 HS)
       refine ⟨_,Y.lc (e:=35) (sz:=1) [vs none (([]:List (List Int))).length 0] HS Z Z (fun _=>by kernel_rfl),?_⟩
       rintro _ w ⟨_,rfl,HS⟩
       have HS:=St.tie_cons (((St.sl_close (E:=(El.sl (El.int .u8))) (((St.put (A:=tie (El.sl (El.sl (El.int .u8))) ([]) (([]:List (List (List Int))))) (fun _=>tie.nil) HS).more 3 rfl (fun _ t=>t) tie.pers).more 3 rfl (fun _ t=>t) fsl.pers)).fr 1).fr 1)
       refine T.nw HS ?_
       refine T.e [59,60] [] [2,3,4,5,6,7] fun w HS=>?_
       obtain ⟨_,H⟩:=ite_n H
       refine ⟨_,Y.app (xs:=x59.said.1) (ys:=([([]:List (List Int))]:List (List (List Int)))) 6 underlying53 ap35 Z (by decide) HS Z Z Z (rdC.at 1 row_rd HS Z) (St.tie_one 0 HS Z) (by omega) (by omega),?_⟩
       rintro _ w ⟨_,_,rfl,HS⟩
       have HS:=St.tie_app 1 (HS.fr 7) rfl
       have HS:=tieL.thaw HS
       apply T.na [(61,_),(64,_)] HS
       exact nmk
       refine T.e [61,64] [] [0,1,10,11,12] fun w HS=>?_
       refine Y.sr 1 HS Z Z Z fun _ w HS=>?_
       refine T.nn HS ?_
       refine T.ff [0,2,6,7] fun w HS=>?_
       have HS:=(ag.close tv (HS.b [5,5,5,0,4,4,4,4,4,4])).ke [0,4,4,4]
       exact At.mt _ ⟨HS,kq60,by omega,H⟩
     ·rintro x63 w ⟨HS,kl66,_,H⟩
      refine go ?_
      obtain ⟨c67,H⟩:=ite_n H
      obtain ⟨_,_,hh⟩:=(rdC.at 1 row_rd HS rfl).some (by decide) c67.1 c67.2;subst hh
      refine go ?_
      refine W.r (X.load underlying3 Z Z ((rdC.at 1 row_rd HS Z).cellI c67.1 c67.2)) Z (go ?_)
      refine V.cm H Z (fun _ H=>go ?_) (fun _ H=>go ?_)
      ·exact At.rn (_,_) ⟨HS,H,by omega⟩
      ·obtain ⟨_,_,_,_,_,_,_,_,_,_,_,_,_,_,HS⟩:=ag.open HS
       refine go ?_
       refine W.sr 5 HS Z Z Z fun w HS=>go ?_
       have HS:=ag.close tv HS
       exact At.rn (_,_) ⟨HS,H,by omega⟩
    ·refine At.ow [(0,pt b0),(2,vi (1))] (go ?_)
     obtain ⟨b0_85,a1_85,c1_85,d1_85,a2_85,c2_85,d2_85,a3_85,c3_85,d3_85,_,_,_,_,HS⟩:=ag.open HS
     refine go ?_
     refine W.inl (Y.cl (vs:=[pt b0_85,vi (1)]) func13 (calls_enter func13 Z Z ?_)) Z Z Z
     refine go ?_
     refine W.inl (Y.cl (vs:=[vi (1)]) func53 (calls_enter func53 Z Z ?_)) Z Z Z
     refine go ?_
     refine At.ret1 Z Z ⟨_,Z,?_⟩
     refine go ?_
     have HS:=HS.fr 1
     obtain ⟨b16_87,b17_87,b18_87,a19_87,c19_87,d19_87,a20_87,c20_87,d20_87,b21_87,a22_87,c22_87,d22_87,a23_87,c23_87,d23_87,b24_87,a25_87,c25_87,d25_87,a26_87,c26_87,d26_87,b27_87,a28_87,c28_87,d28_87,a29_87,c29_87,d29_87,_,HS⟩:=ah.open HS
     refine go ?_
     refine At.ret1 Z Z ⟨_,Z,?_⟩
     refine go ?_
     refine V.lj (σ:=aa × Int × Option Addr × Nat × List Value × List (List Int)) [0,2,3] (fun kq (x120,x121,ra122,rc123,rd125,x124) w=>St [blk b0_85 (#[vi x59.W.c.Mode,vi x59.W.c.Modulus,vi x59.W.c.Window,vi x59.W.c.T1,vi x59.W.c.N2,vi x59.W.c.Hold,vi x59.W.c.Wait,vi x59.W.c.Keep,vi x59.W.c.Queue,vi x59.W.c.Size,vi x59.W.c.Ring,vi x59.W.c.Rate,vi x59.W.c.Bad,vi x59.W.c.Good,vb x59.W.c.Revert,vb x59.W.c.Wide,pt b16_87,pt b17_87,pt b18_87,vs a19_87 x59.W.ways.1.1.sent.length c19_87,vs a20_87 x59.W.ways.1.1.got.length c20_87,pt b21_87,vs a22_87 x59.W.ways.1.2.sent.length c22_87,vs a23_87 x59.W.ways.1.2.got.length c23_87,pt b24_87,vs a25_87 x59.W.ways.2.1.sent.length c25_87,vs a26_87 x59.W.ways.2.1.got.length c26_87,pt b27_87,vs a28_87 x59.W.ways.2.2.sent.length c28_87,vs a29_87 x59.W.ways.2.2.got.length c29_87,vi x59.W.now]) 83,aa.at b16_87 x59.W.stations.1,aa.at b17_87 x120,au.at b18_87 x59.W.ways.1.1.pipe,row 48 1 (.slice a19_87 x59.W.ways.1.1.sent.length c19_87) x59.W.ways.1.1.sent.length d19_87,tie (El.sl (El.int .u8)) d19_87 x59.W.ways.1.1.sent,row 48 1 (.slice a20_87 x59.W.ways.1.1.got.length c20_87) x59.W.ways.1.1.got.length d20_87,tie (El.sl (El.int .u8)) d20_87 x59.W.ways.1.1.got,au.at b21_87 x59.W.ways.1.2.pipe,row 48 1 (.slice a22_87 x59.W.ways.1.2.sent.length c22_87) x59.W.ways.1.2.sent.length d22_87,tie (El.sl (El.int .u8)) d22_87 x59.W.ways.1.2.sent,row 48 1 (.slice a23_87 x59.W.ways.1.2.got.length c23_87) x59.W.ways.1.2.got.length d23_87,tie (El.sl (El.int .u8)) d23_87 x59.W.ways.1.2.got,au.at b24_87 x59.W.ways.2.1.pipe,row 48 1 (.slice a25_87 x59.W.ways.2.1.sent.length c25_87) x59.W.ways.2.1.sent.length d25_87,tie (El.sl (El.int .u8)) d25_87 x59.W.ways.2.1.sent,row 48 1 (.slice a26_87 x59.W.ways.2.1.got.length c26_87) x59.W.ways.2.1.got.length d26_87,tie (El.sl (El.int .u8)) d26_87 x59.W.ways.2.1.got,au.at b27_87 x59.W.ways.2.2.pipe,row 48 1 (.slice a28_87 x59.W.ways.2.2.sent.length c28_87) x59.W.ways.2.2.sent.length d28_87,tie (El.sl (El.int .u8)) d28_87 x59.W.ways.2.2.sent,row 48 1 (.slice a29_87 x59.W.ways.2.2.got.length c29_87) x59.W.ways.2.2.got.length d29_87,tie (El.sl (El.int .u8)) d29_87 x59.W.ways.2.2.got,blk b0 (#[pt b0_85,vs a1_85 x59.said.1.length c1_85,vs a2_85 x59.said.2.length c2_85,vs a3_85 x59.heard.1.length c3_85,vs ra122 x124.length rc123,vi x121]) 57,row 35 1 (.slice a1_85 x59.said.1.length c1_85) x59.said.1.length d1_85,tieL d1_85 x59.said.1,row 35 1 (.slice a2_85 x59.said.2.length c2_85) x59.said.2.length d2_85,tieL d2_85 x59.said.2,row 48 1 (.slice a3_85 x59.heard.1.length c3_85) x59.heard.1.length d3_85,tie (El.sl (El.int .u8)) d3_85 x59.heard.1,row 48 1 (.slice ra122 x124.length rc123) x124.length rd125,tie (El.sl (El.int .u8)) rd125 x124,row 3 1 (.slice at55_0 t55.1.length ct55_0) t55.1.length (t55.1.map (Value.int .i64)),fB at45_0 ct45_0 t45.1,R] w0 w∧aj.l3 kq x59 x120 x121 x124=some r∧kq≤kq60) (fun _=>[]) (_,_,_,_,_,_) ⟨HS,H,Nat.le_refl _⟩ ?_
     rintro kq126 ⟨x120,x121,ra122,rc123,rd125,x124⟩ w ⟨HS,H,_⟩
     cases kq126 with
     |zero=>exact absurd H (by simp [aj.l3])
     |succ kq126=>
      simp only [aj.l3] at H
      refine go ?_
      have HS:=HS.b [2]
      refine W.kl H func35 (fun _ h=>cy.calls h HS.j1) ?_
      rintro t128 _ w H ⟨at128_0,ct128_0,rfl,HS⟩
      have HS:=HS.o2
      refine go ?_
      refine V.cx H Z (fun _ H=>go ?_) (fun _ H=>go ?_)
      ·apply V.da [9,10,14] [13] [(25,_),(26,_),(27,_),(28,_),(29,_),(30,_),(31,_),(32,_),(33,_),(36,_),(37,_)] mo HS
       rfl
       refine T.e [33] [13] [8] fun w HS=>?_
       refine ⟨_,Y.lc (e:=48) (sz:=1) [vs at128_0 t128.1.length ct128_0] HS Z Z (fun _=>by kernel_rfl),?_⟩
       rintro _ w ⟨_,rfl,HS⟩
       have HS:=St.tie_cons (((St.sl_close (E:=(El.int .u8)) (St.swap (St.put (A:=tie (El.int .u8) (t128.1.map (Value.int .u8)) t128.1) (fun _=>int_tie) ((St.put (A:=tie (El.sl (El.int .u8)) ([]) (([]:List (List Int)))) (fun _=>tie.nil) HS).more 2 rfl (fun _ t=>t) fsl.pers)))).fr 1).fr 1)
       refine T.nw HS ?_
       refine T.e [32,34] [] [2,3,4,5,6,7] fun w HS=>?_
       obtain ⟨_,H⟩:=ite_n H
       refine ⟨_,Y.app (xs:=x124) (ys:=([t128.1]:List (List Int))) 33 underlying35 ap48 Z (by decide) HS Z Z Z (rdC.at 1 row_rd HS Z) (St.tie_one 0 HS Z) (by omega) (by omega),?_⟩
       rintro _ w ⟨_,_,rfl,HS⟩
       have HS:=St.tie_app 1 (HS.fr 34) rfl
       apply T.na [(35,_),(38,_)] HS
       exact nmk
       refine T.e [35,38] [] [0,1,11,12,13] fun w HS=>?_
       refine Y.sr 4 HS Z Z Z fun _ w HS=>?_
       refine T.nn HS ?_
       refine T.ff [0,2,3] fun w HS=>?_
       refine go ?_
       have HS:=HS.ke [5,5,4,4,4,4,4,4,4,4,4,4,4,4,4,4,4,4,4,4,4,4,4,4,4,4,4,4,4,4,4,0,3,3,3]
       exact At.rn (_,_,_,_,_,_) ⟨HS,H,by omega⟩
      ·have HS:=HS.b [1]
       refine W.kl H func97 (fun _ h=>cO.calls h HS.j1) ?_
       rintro t138 _ w H ⟨at138_0,ct138_0,rfl,HS⟩
       have HS:=HS.o2
       refine go ?_
       have HS:=ag.close tv ((ah.close tv (HS.b [3,3,1,2,2,2,2,2,2,2,2,2,2,2,2,2,2,2,2,2,2,2,2])).b [3,0,2,2,2,2,2,2,2,2])
       refine V.lj (σ:=Int × ag) [0,2,6] (fun kq (x141,x142) w=>St [ag.at b0 x142,row 3 1 (.slice at138_0 t138.1.length ct138_0) t138.1.length (t138.1.map (Value.int .i64)),fB at128_0 ct128_0 t128.1,row 3 1 (.slice at55_0 t55.1.length ct55_0) t55.1.length (t55.1.map (Value.int .i64)),fB at45_0 ct45_0 t45.1,R] w0 w∧aj.l4 kq t138 x141 x142=some r∧kq≤kq126) (fun (x141,x142)=>[(7,vi x141)]) (_,_) ⟨HS,H,Nat.le_refl _⟩ ?_
       rintro kq143 ⟨x141,x142⟩ w ⟨HS,H,_⟩
       cases kq143 with
       |zero=>exact absurd H (by simp [aj.l4])
       |succ kq143=>
        simp only [aj.l4] at H
        refine go ?_
        refine V.cd H Z (fun _ H=>?_) (fun _ H=>go ?_)
        ·refine gs ?_
         refine V.seq ?_
         refine gs ?_
         refine V.mj (σ:=ag) [0,2,6,7] (fun x146 w=>St [ag.at b0 x146,row 3 1 (.slice at138_0 t138.1.length ct138_0) t138.1.length (t138.1.map (Value.int .i64)),fB at128_0 ct128_0 t128.1,row 3 1 (.slice at55_0 t55.1.length ct55_0) t55.1.length (t55.1.map (Value.int .i64)),fB at45_0 ct45_0 t45.1,R] w0 w∧∃kl149,kl149≤kq143∧aj.j5 t138 x141 (aj.l4 kl149 t138) x146=some r) (fun _=>[]) ?_ ?_
         ·refine go ?_
          obtain ⟨c156,H⟩:=ite_n H
          obtain ⟨_,_,hh⟩:=(rdC.at 1 row_rd HS rfl).some (by decide) c156.1 c156.2;subst hh
          refine go ?_
          refine W.r (X.load underlying3 Z Z ((rdC.at 1 row_rd HS Z).cellI c156.1 c156.2)) Z (go ?_)
          refine V.cm H Z (fun _ H=>go ?_) (fun _ H=>?_)
          ·exact At.mt _ ⟨HS,kq143,by omega,H⟩
          ·obtain ⟨_,_,_,_,_,_,_,_,_,_,_,_,_,_,HS⟩:=ag.open HS
           have HS:=(tieL.frz (HS.fr 5)).b [1,1,1,1,1]
           apply V.da [8,9,13] [12] [(52,_),(53,_),(54,_),(55,_),(56,_),(57,_),(58,_),(59,_),(62,_),(63,_)] mo HS
           rfl
           refine T.e [] [12] [] fun w HS=>?_
           have HS:=St.row_freeze (row_nilE (El.sl (El.int .u8)) 48 1 HS)
           refine ⟨_,Y.lc (e:=35) (sz:=1) [vs none (([]:List (List Int))).length 0] HS Z Z (fun _=>by kernel_rfl),?_⟩
           rintro _ w ⟨_,rfl,HS⟩
           have HS:=St.tie_cons (((St.sl_close (E:=(El.sl (El.int .u8))) (((St.put (A:=tie (El.sl (El.sl (El.int .u8))) ([]) (([]:List (List (List Int))))) (fun _=>tie.nil) HS).more 3 rfl (fun _ t=>t) tie.pers).more 3 rfl (fun _ t=>t) fsl.pers)).fr 1).fr 1)
           refine T.nw HS ?_
           refine T.e [59,60] [] [2,3,4,5,6,7] fun w HS=>?_
           obtain ⟨_,H⟩:=ite_n H
           refine ⟨_,Y.app (xs:=x142.said.2) (ys:=([([]:List (List Int))]:List (List (List Int)))) 8 underlying53 ap35 Z (by decide) HS Z Z Z (rdC.at 1 row_rd HS Z) (St.tie_one 0 HS Z) (by omega) (by omega),?_⟩
           rintro _ w ⟨_,_,rfl,HS⟩
           have HS:=St.tie_app 1 (HS.fr 9) rfl
           have HS:=tieL.thaw HS
           apply T.na [(61,_),(64,_)] HS
           exact nmk
           refine T.e [61,64] [] [0,1,10,11,12] fun w HS=>?_
           refine Y.sr 2 HS Z Z Z fun _ w HS=>?_
           refine T.nn HS ?_
           refine T.ff [0,2,6,7] fun w HS=>?_
           have HS:=(ag.close tv (HS.b [5,5,5,5,5,0,4,4,4,4])).ke [0,4,4,4,4,4]
           exact At.mt _ ⟨HS,kq143,by omega,H⟩
         ·rintro x146 w ⟨HS,kl149,_,H⟩
          refine go ?_
          obtain ⟨c150,H⟩:=ite_n H
          obtain ⟨_,_,hh⟩:=(rdC.at 1 row_rd HS rfl).some (by decide) c150.1 c150.2;subst hh
          refine go ?_
          refine W.r (X.load underlying3 Z Z ((rdC.at 1 row_rd HS Z).cellI c150.1 c150.2)) Z (go ?_)
          refine V.cm H Z (fun _ H=>go ?_) (fun _ H=>go ?_)
          ·exact At.rn (_,_) ⟨HS,H,by omega⟩
          ·obtain ⟨_,_,_,_,_,_,_,_,_,_,_,_,_,_,HS⟩:=ag.open HS
           refine go ?_
           refine W.sr 5 HS Z Z Z fun w HS=>go ?_
           have HS:=ag.close tv HS
           exact At.rn (_,_) ⟨HS,H,by omega⟩
        ·refine At.ow [(0,pt b0),(2,vi (2))] (go ?_)
         have HS:=HS.ke [0,4]
         exact rt
mutual
def dN.j0 (k:Nat) (a0:ae) (x2:Bool):Option (Int × ae):=(if x2=true then some (7,a0) else ((dw.f a0 3).bind fun t5=>((bJ.f k t5 ({Kind:=5,Ns:=0,Nr:=0,Poll:=true}:aF)).bind fun t7=>((cu.f t7).bind fun t9=>some (0,t9)))))
end
def dN.f (k:Nat) (a0:ae):Option (Int × ae):=(if a0.state=0 then (dN.j0 k a0 true) else (dN.j0 k a0 (decide (a0.state=3))))
theorem dN.calls (H:dN.f k a0=some r) (HS:St [ae.at b0 a0,R] w0 w):Calls Tryz.prog 84 #[pt b0] w (Ret fun u w=>u=vi r.1∧St [ae.at b0 r.2,R] w0 w):=by
 refine calls_enter func84 Z Z ?_
 refine V.seq ?_
 refine gs ?_
 refine V.seq ?_
 refine V.mj (σ:=Bool) [0] (fun x2 w=>St [ae.at b0 a0,R] w0 w∧∃kf3,kf3≤k∧dN.j0 kf3 a0 x2=some r) (fun x2=>[(14,vb x2)]) ?_ ?_
 ·refine go ?_
  obtain ⟨_,_,_,_,_,_,_,_,_,HS⟩:=ae.open HS
  refine go ?_
  refine W.cd 8 H Z (fun _ H=>go ?_) (fun _ H=>go ?_)
  ·have HS:=ae.close tv HS
   exact At.mt _ ⟨HS,k,by omega,H⟩
  ·have HS:=ae.close tv HS
   exact At.mt _ ⟨HS,k,by omega,H⟩
 ·rintro x2 w ⟨HS,kf3,_,H⟩
  refine V.cv H Z (fun _ H=>go ?_) (fun _ H=>go ?_)
  ·exact rt
  ·refine W.kl H func149 (fun _ h=>dw.calls h HS.j1) ?_
   rintro _ _ w H ⟨rfl,HS⟩
   have HS:=HS.o1
   refine go ?_
   refine W.r (X.bd (Value.agg #[vi (5),vi (0),vi (0),vb true]) Z (fun _=>by kernel_rfl)) Z ?_
   refine W.kl H func113 (fun _ h=>bJ.calls h HS.j1) ?_
   rintro _ _ w H ⟨rfl,HS⟩
   have HS:=HS.o1
   refine go ?_
   refine W.kl H func114 (fun _ h=>cu.calls h HS.j1) ?_
   rintro _ _ w H ⟨rfl,HS⟩
   have HS:=HS.o1
   refine go ?_
   exact rt
def di.f (k:Nat) (a0:aa):Option (Int × aa):=((dN.f k a0.arq).bind fun t3=>some (t3.1,({a0 with arq:=t3.2}:aa)))
theorem di.calls (H:di.f k a0=some r) (HS:St [aa.at b0 a0,R] w0 w):Calls Tryz.prog 31 #[pt b0] w (Ret fun u w=>u=vi r.1∧St [aa.at b0 r.2,R] w0 w):=by
 refine calls_enter func31 Z Z (go ?_)
 obtain ⟨_,_,_,_,_,_,_,_,_,_,HS⟩:=aa.open HS
 refine go ?_
 have HS:=HS.b [1]
 refine W.kl H func84 (fun _ h=>dN.calls h HS.j1) ?_
 rintro _ _ w H ⟨rfl,HS⟩
 have HS:=HS.o1
 refine go ?_
 have HS:=aa.close tv (HS.b [1])
 exact rt
def dy.f (a0:aC) (a1:List Int):Option (Int × aC):=(if (w64 ((a0.l.length:Int)-a0.out))≥a0.queue then some (6,a0) else ((aT.f a1).bind fun t5=>(if (a0.l.length:Int)+(([t5]:List (List Int))).length≤1099511627776 then some (0,({a0 with l:=a0.l++([t5]:List (List Int))}:aC)) else none)))
theorem dy.calls (H:dy.f a0 a1=some r) (HS:St [aC.at b0 a0,R] w0 w) (hr1:dB R sa1 sc1 a1):Calls Tryz.prog 151 #[pt b0,vs sa1 a1.length sc1] w (Ret fun u w=>u=vi r.1∧St [aC.at b0 r.2,R] w0 w):=by
 refine calls_enter func151 Z Z (go ?_)
 obtain ⟨_,_,_,_,HS⟩:=aC.open HS
 apply V.da [] [] [(5,_),(6,_),(7,_),(8,_),(9,_),(10,_),(11,_),(12,_),(13,_),(14,_),(15,_),(16,_),(17,_),(18,_),(19,_)] mo HS
 rfl
 refine T.ff [0,1,19] fun w HS=>?_
 refine go ?_
 refine V.cd H Z (fun _ H=>go ?_) (fun _ H=>go ?_)
 ·have HS:=aC.close tv HS
  exact rt
 ·apply V.da [6,7,8,11] [9,10] [(20,_),(21,_),(22,_),(23,_),(24,_),(25,_)] mo HS
  rfl
  refine T.e [25] [9,10] [5] fun w HS=>?_
  refine Y.kl H func127 (fun _ h=>aT.calls h HS.j0 (rdC.part 3 hr1 Z)) ?_
  rintro t5 _ w H ⟨at5_0,ct5_0,rfl,HS⟩
  have HS:=HS.o1
  refine T.nw HS ?_
  refine T.e [26] [9,10] [] fun w HS=>?_
  have HS:=St.row_freeze HS
  refine ⟨_,Y.lc (e:=48) (sz:=1) [vs at5_0 t5.length ct5_0] HS Z Z (fun _=>by kernel_rfl),?_⟩
  rintro _ w ⟨_,rfl,HS⟩
  have HS:=St.tie_cons (((St.sl_close (E:=(El.int .u8)) (St.swap (St.put (A:=tie (El.int .u8) (t5.map (Value.int .u8)) t5) (fun _=>int_tie) ((St.put (A:=tie (El.sl (El.int .u8)) ([]) (([]:List (List Int)))) (fun _=>tie.nil) HS).more 2 rfl (fun _ t=>t) fsl.pers)))).fr 1).fr 1)
  refine T.nw HS ?_
  refine T.e [24,27] [] [1,2,3,4] fun w HS=>?_
  obtain ⟨_,H⟩:=ite_n H
  refine ⟨_,Y.app (xs:=a0.l) (ys:=([t5]:List (List Int))) 4 underlying35 ap48 Z (by decide) HS Z Z Z (rdC.at 1 row_rd HS Z) (St.tie_one 0 HS Z) (by omega) (by omega),?_⟩
  rintro _ w ⟨_,_,rfl,HS⟩
  have HS:=St.tie_app 1 (HS.fr 5) rfl
  apply T.na [(28,_),(29,_),(30,_)] HS
  exact nmk
  refine T.e [28,30] [] [0,9,10] fun w HS=>?_
  refine Y.sr 5 HS Z Z Z fun _ w HS=>?_
  refine T.nn HS ?_
  refine T.ff [] fun w HS=>?_
  refine go ?_
  have HS:=(aC.close tv (HS.b [4,4])).ke [0,3]
  exact rt
def eU.f (k:Nat) (a0:ae) (a1:List Int):Option (Int × ae):=(if (a1.length:Int)>a0.size then some (5,a0) else (if a0.state=2 then ((dy.f a0.log a1).bind fun t12=>(if t12.1=0 then ((bD.f k ({a0 with log:=t12.2,sent:=w64 (a0.sent+1)}:ae)).bind fun t15=>some (0,t15)) else some (t12.1,({a0 with log:=t12.2}:ae)))) else some (7,a0)))
theorem eU.calls (H:eU.f k a0 a1=some r) (HS:St [ae.at b0 a0,R] w0 w) (hr1:dB R sa1 sc1 a1):Calls Tryz.prog 86 #[pt b0,vs sa1 a1.length sc1] w (Ret fun u w=>u=vi r.1∧St [ae.at b0 r.2,R] w0 w):=by
 refine calls_enter func86 Z Z (go ?_)
 obtain ⟨_,_,_,_,_,_,_,_,_,HS⟩:=ae.open HS
 refine go ?_
 refine V.cd H Z (fun _ H=>go ?_) (fun _ H=>go ?_)
 ·have HS:=ae.close tv HS
  exact rt
 ·refine V.cm H Z (fun _ H=>go ?_) (fun _ H=>go ?_)
  ·have HS:=HS.b [1]
   refine W.kl H func151 (fun _ h=>dy.calls h HS.j1 (rdC.part 6 hr1 Z)) ?_
   rintro _ _ w H ⟨rfl,HS⟩
   have HS:=HS.o1
   refine go ?_
   refine V.cm H Z (fun _ H=>go ?_) (fun _ H=>go ?_)
   ·refine W.sr 13 HS Z Z Z fun w HS=>go ?_
    have HS:=ae.close tv (HS.b [1])
    refine W.kl H func152 (fun _ h=>bD.calls h HS.j1) ?_
    rintro _ _ w H ⟨rfl,HS⟩
    have HS:=HS.o1
    refine go ?_
    exact rt
   ·have HS:=ae.close tv (HS.b [1])
    exact rt
  ·have HS:=ae.close tv HS
   exact rt
def bW.f (k:Nat) (a0:aa) (a1:List Int):Option (Int × aa):=((eU.f k a0.arq a1).bind fun t3=>some (t3.1,({a0 with arq:=t3.2}:aa)))
theorem bW.calls (H:bW.f k a0 a1=some r) (HS:St [aa.at b0 a0,R] w0 w) (hr1:dB R sa1 sc1 a1):Calls Tryz.prog 33 #[pt b0,vs sa1 a1.length sc1] w (Ret fun u w=>u=vi r.1∧St [aa.at b0 r.2,R] w0 w):=by
 refine calls_enter func33 Z Z (go ?_)
 obtain ⟨_,_,_,_,_,_,_,_,_,_,HS⟩:=aa.open HS
 refine go ?_
 have HS:=HS.b [1]
 refine W.kl H func86 (fun _ h=>eU.calls h HS.j1 (rdC.part 9 hr1 Z)) ?_
 rintro _ _ w H ⟨rfl,HS⟩
 have HS:=HS.o1
 refine go ?_
 have HS:=aa.close tv (HS.b [1])
 exact rt
mutual
def cA.j1 (a0:aH) (a1:Int) (x7:Bool):Option (Bool × aH):=(if x7=true then some (true,({({a0 with command:=a1}:aH) with own:=0}:aH)) else some (true,({a0 with command:=a1}:aH)))
def cA.j0 (a0:aH) (a1:Int) (x2:Bool):Option (Bool × aH):=(if x2=true then some (false,a0) else (if a1=0 then (if a0.own=1 then (cA.j1 a0 a1 true) else (cA.j1 a0 a1 (decide (a0.own=2)))) else (cA.j1 a0 a1 false)))
end
def cA.f (a0:aH) (a1:Int):Option (Bool × aH):=(if a1<0 then (cA.j0 a0 a1 true) else (cA.j0 a0 a1 (decide (a1>3))))
theorem cA.calls (H:cA.f a0 a1=some r) (HS:St [aH.at b0 a0,R] w0 w):Calls Tryz.prog 90 #[pt b0,vi a1] w (Ret fun u w=>u=vb r.1∧St [aH.at b0 r.2,R] w0 w):=by
 refine calls_enter func90 Z Z ?_
 refine V.seq ?_
 refine gs ?_
 refine V.seq ?_
 refine V.mj (σ:=Bool) [0,1] (fun x2 w=>St [aH.at b0 a0,R] w0 w∧cA.j0 a0 a1 x2=some r) (fun x2=>[(10,vb x2)]) ?_ ?_
 ·refine go ?_
  refine W.cd 7 H Z (fun _ H=>go ?_) (fun _ H=>go ?_)
  ·exact At.mt _ ⟨HS,H⟩
  ·exact At.mt _ ⟨HS,H⟩
 ·rintro x2 w ⟨HS,H⟩
  refine V.cv H Z (fun _ H=>go ?_) (fun _ H=>go ?_)
  ·exact rt
  ·obtain ⟨_,HS⟩:=aH.open HS
   refine go ?_
   refine W.sr 3 HS Z Z Z fun w HS=>?_
   refine gs ?_
   refine V.seq ?_
   refine V.mj (σ:=Bool) [0] (fun x7 w=>St [aH.at b0 ({a0 with command:=a1}:aH),R] w0 w∧cA.j1 a0 a1 x7=some r) (fun x7=>[(30,vb x7)]) ?_ ?_
   ·refine go ?_
    refine W.cd 17 H Z (fun _ H=>go ?_) (fun _ H=>go ?_)
    ·refine W.cd 23 H Z (fun _ H=>go ?_) (fun _ H=>go ?_)
     ·have HS:=aH.close tv HS
      exact At.mt _ ⟨HS,H⟩
     ·have HS:=aH.close tv HS
      exact At.mt _ ⟨HS,H⟩
    ·have HS:=aH.close tv HS
     exact At.mt _ ⟨HS,H⟩
   ·rintro x7 w ⟨HS,H⟩
    refine V.cv H Z (fun _ H=>go ?_) (fun _ H=>go ?_)
    ·obtain ⟨_,HS⟩:=aH.open HS
     refine go ?_
     refine W.sr 5 HS Z Z Z fun w HS=>go ?_
     have HS:=aH.close tv HS
     exact rt
    ·exact rt
def cY.f (a0:aa) (a1:Int):Option (Bool × aa):=((cA.f a0.aps a1).bind fun t3=>some (t3.1,({a0 with aps:=t3.2}:aa)))
theorem cY.calls (H:cY.f a0 a1=some r) (HS:St [aa.at b0 a0,R] w0 w):Calls Tryz.prog 37 #[pt b0,vi a1] w (Ret fun u w=>u=vb r.1∧St [aa.at b0 r.2,R] w0 w):=by
 refine calls_enter func37 Z Z (go ?_)
 obtain ⟨_,_,_,_,_,_,_,_,_,_,HS⟩:=aa.open HS
 refine go ?_
 have HS:=HS.b [2]
 refine W.kl H func90 (fun _ h=>cA.calls h HS.j1) ?_
 rintro _ _ w H ⟨rfl,HS⟩
 have HS:=HS.o1
 refine go ?_
 have HS:=aa.close tv (HS.b [1,1])
 exact rt
def dS.f (a0:List Int) (a1:Int) (a2:List Int):Option (List Int):=(if 0≤a1∧a1≤(a0.length:Int)∧(a0.length:Int)≤(a0.length:Int) then (if (a2.length:Int)=0 then some a0 else (if a1=(a0.length:Int) then (if (a0.length:Int)+a2.length≤1099511627776 then some (a0++a2) else none) else (if (a0.length:Int)+a2.length≤1099511627776 then some ((a0.take a1.toNat++a2)++a0.drop a1.toNat) else none))) else none)
theorem dS.calls (H:dS.f a0 a1 a2=some r) (HS:St [rB sa0 sc0 a0,rB sa2 sc2 a2,R] w0 w):Calls Tryz.prog 111 #[vs sa0 a0.length sc0,vi a1,vs sa2 a2.length sc2] w (Ret fun u w=>∃aq0 cq0,u=vs aq0 r.length cq0∧St [rB aq0 cq0 r,R] w0 w):=by
 refine calls_enter func111 Z Z (go ?_)
 obtain ⟨c1,H⟩:=ite_n H
 refine W.r (X.slL underlying48 inf5 Z Z c1) Z (go ?_)
 refine V.cd H Z (fun _ H=>go ?_) (fun _ H=>go ?_)
 ·have HS:=HS.ke [0,1]
  exact rt
 ·refine V.cd H Z (fun _ H=>go ?_) (fun _ H=>go ?_)
  ·obtain ⟨_,H⟩:=ite_n H
   refine W.e (Y.appF (Value.int .u8) (fun _=>Z) 0 underlying48 ap5 Z HS Z Z Z (rdC.at 1 row_rd HS Z) (by omega) (by omega)) Z ?_
   rintro _ w ⟨_,_,rfl,HS⟩
   refine go ?_
   have HS:=HS.ke [0,1]
   exact rt
  ·obtain ⟨_,H⟩:=ite_n H
   obtain ⟨ig10,io11,_,rfl,_,_,_,h416,HN⟩:=HS.row_open (by omega);clear HS;have HS:=HN
   have HS:=HS.fr 1
   obtain ⟨_,_,_,rfl,_,_,_,h423,HN⟩:=HS.row_open (by omega);clear HS;have HS:=HN
   have hne24:=St.blk_ne HS
   have hwa:w64 ((a0.length:Int)+(a2.length:Int))=(a0.length:Int)+(a2.length:Int):=w64_in ⟨by omega,by omega⟩
   have hwb:w64 (a1+(a2.length:Int))=a1+(a2.length:Int):=w64_in ⟨by omega,by omega⟩
   have hwc:w64 (w64 ((a0.length:Int)+(a2.length:Int))-a1)=(a0.length:Int)+(a2.length:Int)-a1:=by rw [hwa];exact w64_in ⟨by omega,by omega⟩
   refine W.r (X.cap underlying48 Z) Z (go ?_)
   by_cases c25:(w64 ((a0.length:Int)+(a2.length:Int)))>(sc0:Int)
   ·skip
    refine V.condT (sb (dT c25)) (go ?_)
    refine W.r (X.rawH (j:=a1) underlying48 inf5 Z Z ⟨(by omega),(by omega)⟩) Z (go ?_)
    refine W.e (Y.appZ (kk:=a0.length+a2.length-a1.toNat) (kI:=w64 ((w64 ((a0.length:Int)+(a2.length:Int)))-a1)) 1 underlying48 underlying3 ap5 Z HS Z Z Z (by omega) (by omega) (by omega) (by omega) (by omega) (by decide)) Z ?_
    rintro _ w ⟨ig26,ic27,_,rfl,_,_,_,h432,HS⟩
    refine go ?_
    refine W.r (X.rawL (i:=a1) underlying48 inf5 Z Z ⟨(by omega),(by omega)⟩ (by omega)) Z (go ?_)
    refine W.e (Y.copyB (ds:=(a2.map (Value.int .u8))) 0 underlying48 inf5 HS Z Z Z (fun j u hu=>readO0 1 HS Z h423 (by omega) j u hu) (oneM (fun _=>Z)) (by simp only [size_setMany,List.length_drop,List.length_map,true_and,true_or,or_true]<;>omega) (by simp only [size_setMany,List.length_drop,List.length_map,true_and,true_or,or_true]<;>omega)) Z ?_
    rintro _ w ⟨rfl,HS⟩
    refine go ?_
    apply V.da [8] [] [(46,_),(47,_),(48,_),(49,_),(50,_),(51,_),(52,_),(53,_)] mo HS
    rfl
    refine T.e [50,53] [] [0,1,2,3,4,5,6,7] (fun w HS=>?_) ⟨rd,rd,rd,rd,.n2 46 49 Z Z Z (fun w HS=>X.rawL (i:=w64 (a1+(a2.length:Int))) underlying48 inf5 Z Z ⟨(by omega),(by omega)⟩ (by omega)),rd,rd,.n2 51 52 Z Z Z (fun w HS=>X.rawL (i:=a1) underlying48 inf5 Z Z ⟨(by omega),(by omega)⟩ (by omega)),rds⟩
    refine ⟨_,Y.copyB (ds:=((a0.map (Value.int .u8)).drop a1.toNat)) 0 underlying48 inf5 HS Z Z Z (fun j u hu=>readO 2 HS Z h416 (by omega) (by omega) j u hu) (fun u hu=>oneM (fun _=>Z) u (List.mem_of_mem_drop hu)) (by simp only [size_setMany,List.length_drop,List.length_map,true_and,true_or,or_true]<;>omega) (by simp only [size_setMany,List.length_drop,List.length_map,true_and,true_or,or_true]<;>omega),?_⟩
    rintro _ w ⟨rfl,HS⟩
    refine T.nw HS ?_
    refine T.ff [9] fun w HS=>?_
    refine go ?_
    have he35:((a0.take a1.toNat++a2)++a0.drop a1.toNat).length=a1.toNat+(a0.length+a2.length-a1.toNat):=by simp only [List.length_append,List.length_take,List.length_drop];omega
    refine At.again 6 (v:=vs (some ⟨ig26,0,none⟩) ((a0.take a1.toNat++a2)++a0.drop a1.toNat).length ic27) (by rw [he35];rfl) ?_
    have hl36:=ins_new (i:=a1.toNat) (n:=a0.length) (m:=a2.length) (xs:=a0) (vs:=a2) (g:=(Value.int .u8)) (o1:=0+a1.toNat) (o2:=0+(w64 (a1+(a2.length:Int))).toNat) (t:=((a0.take a1.toNat++a2)++a0.drop a1.toNat).length) (by rw [h432,←h416,List.take_take,show min a1.toNat a0.length=a1.toNat by omega]) rfl rfl (by omega) (by omega) (by omega) (by omega) (by omega)
    have HS:=(HS.row_shut (m:=((a0.take a1.toNat++a2)++a0.drop a1.toNat).length) (c:=ic27) (cs:=((a0.take a1.toNat++a2)++a0.drop a1.toNat).map (Value.int .u8)) (by omega) (by omega) (by simp only [size_setMany];omega) hl36 (by rw [List.length_map])).ke [0,2]
    exact rt
   ·skip
    refine V.condF (sb (dF c25)) (go ?_)
    refine W.r (X.rawH (j:=w64 ((a0.length:Int)+(a2.length:Int))) underlying48 inf5 Z Z ⟨(by omega),(by omega)⟩) Z (go ?_)
    refine W.r (X.rawL (i:=w64 (a1+(a2.length:Int))) underlying48 inf5 Z Z ⟨(by omega),(by omega)⟩ (by omega)) Z ?_
    refine W.r (X.overlaps (tR:=4) 0 1 func173 (by kernel_rfl) (by kernel_rfl) (by kernel_rfl) (by kernel_rfl) underlying48 inf5 HS Z Z hne24 (by omega) Z Z) Z (go ?_)
    apply V.da [8] [] [(69,_),(70,_),(71,_),(72,_),(73,_),(74,_),(75,_),(76,_)] mo HS
    rfl
    refine T.e [73,76] [] [0,1,2,3,4,5,6,7] (fun w HS=>?_) ⟨rd,rd,rd,rd,.n2 69 72 Z Z Z (fun w HS=>X.rawL (i:=w64 (a1+(a2.length:Int))) underlying48 inf5 Z Z ⟨(by omega),(by omega)⟩ (by omega)),rd,rd,.n2 74 75 Z Z Z (fun w HS=>X.rawL (i:=a1) underlying48 inf5 Z Z ⟨(by omega),(by omega)⟩ (by omega)),rds⟩
    refine ⟨_,Y.copyB (ds:=((a0.map (Value.int .u8)).drop a1.toNat)) 1 underlying48 inf5 HS Z Z Z (fun j u hu=>readO 1 HS Z h416 (by omega) (by omega) j u hu) (fun u hu=>oneM (fun _=>Z) u (List.mem_of_mem_drop hu)) (by simp only [size_setMany,List.length_drop,List.length_map,true_and,true_or,or_true]<;>omega) (by simp only [size_setMany,List.length_drop,List.length_map,true_and,true_or,or_true]<;>omega),?_⟩
    rintro _ w ⟨rfl,HS⟩
    refine T.nw HS ?_
    refine T.ff [0,1,2] fun w HS=>?_
    refine go ?_
    refine W.r (X.rawL (i:=a1) underlying48 inf5 Z Z ⟨(by omega),(by omega)⟩ (by omega)) Z (go ?_)
    refine W.e (Y.copyB (ds:=(a2.map (Value.int .u8))) 1 underlying48 inf5 HS Z Z Z (fun j u hu=>readO0 0 HS Z h423 (by omega) j u hu) (oneM (fun _=>Z)) (by simp only [size_setMany,List.length_drop,List.length_map,true_and,true_or,or_true]<;>omega) (by simp only [size_setMany,List.length_drop,List.length_map,true_and,true_or,or_true]<;>omega)) Z ?_
    rintro _ w ⟨rfl,HS⟩
    refine go ?_
    have he41:((a0.take a1.toNat++a2)++a0.drop a1.toNat).length=(w64 ((a0.length:Int)+(a2.length:Int))).toNat:=by simp only [List.length_append,List.length_take,List.length_drop];omega
    refine At.again 6 (v:=vs (some ⟨ig10,io11,none⟩) ((a0.take a1.toNat++a2)++a0.drop a1.toNat).length sc0) (by rw [he41];rfl) ?_
    have HS:=HS.fr 1
    have hl42:=ins_here (i:=a1.toNat) (n:=a0.length) (m:=a2.length) (xs:=a0) (vs:=a2) (g:=(Value.int .u8)) (o1:=io11+(w64 (a1+(a2.length:Int))).toNat) (o2:=io11+a1.toNat) (t:=((a0.take a1.toNat++a2)++a0.drop a1.toNat).length) h416 rfl rfl (by omega) (by omega) (by omega) rfl (by omega)
    have HS:=(HS.row_shut (m:=((a0.take a1.toNat++a2)++a0.drop a1.toNat).length) (c:=sc0) (cs:=((a0.take a1.toNat++a2)++a0.drop a1.toNat).map (Value.int .u8)) (by omega) (by omega) (by simp only [size_setMany];omega) hl42 (by rw [List.length_map])).ke [0,1]
    exact rt
mutual
def bA.j0 (a0:au) (a2:Int) (a3:Int) (x15:Bool):Option (Bool × au):=(if x15=true then some (false,a0) else (if 0≤a2∧a2<(a0.b.length:Int) then some (true,({a0 with b:=a0.b.set a2.toNat a3}:au)) else none))
def bA.j1 (a0:au) (a2:Int) (a3:Int) (x28:Bool):Option (Bool × au):=(if x28=true then some (false,a0) else ((dS.f a0.b a2 ([a3]:List Int)).bind fun t36=>some (true,({a0 with b:=t36}:au))))
end
def bA.f (a0:au) (a1:Int) (a2:Int) (a3:Int):Option (Bool × au):=(if a1=0 then some (true,({a0 with cut:=false,stall:=false}:au)) else (if a1=1 then some (true,({a0 with cut:=true}:au)) else (if a1=2 then some (true,({a0 with stall:=true}:au)) else (if a1=3 then ((dY.f a0 a2).bind fun t11=>some (true,t11.2)) else (if a1=4 then (if a2<0 then (bA.j0 a0 a2 a3 true) else (bA.j0 a0 a2 a3 (decide (a2≥(a0.b.length:Int))))) else (if a1=5 then (if a2<0 then (bA.j1 a0 a2 a3 true) else (if a2>(a0.b.length:Int) then (bA.j1 a0 a2 a3 true) else ((bQ.f a0).bind fun t42=>(bA.j1 a0 a2 a3 (decide (t42=0)))))) else some (false,a0)))))))
theorem bA.calls (H:bA.f a0 a1 a2 a3=some r) (HS:St [au.at b0 a0,R] w0 w):Calls Tryz.prog 52 #[pt b0,vi a1,vi a2,Value.int .u8 a3] w (Ret fun u w=>u=vb r.1∧St [au.at b0 r.2,R] w0 w):=by
 unfold bA.f at H
 refine calls_enter func52 Z Z ?_
 have H:_=some r:=H
 refine go ?_
 refine V.cd H Z (fun _ H=>go ?_) (fun _ H=>go ?_)
 ·obtain ⟨_,_,_,HS⟩:=au.open HS
  refine go ?_
  refine W.sr 2 HS Z Z Z fun w HS=>go ?_
  refine W.sr 3 HS Z Z Z fun w HS=>go ?_
  have HS:=au.close tv HS
  exact rt
 ·refine V.cd H Z (fun _ H=>go ?_) (fun _ H=>go ?_)
  ·obtain ⟨_,_,_,HS⟩:=au.open HS
   refine go ?_
   refine W.sr 2 HS Z Z Z fun w HS=>go ?_
   have HS:=au.close tv HS
   exact rt
  ·refine V.cd H Z (fun _ H=>go ?_) (fun _ H=>go ?_)
   ·obtain ⟨_,_,_,HS⟩:=au.open HS
    refine go ?_
    refine W.sr 3 HS Z Z Z fun w HS=>go ?_
    have HS:=au.close tv HS
    exact rt
   ·refine V.cd H Z (fun _ H=>go ?_) (fun _ H=>go ?_)
    ·refine W.kl H func109 (fun _ h=>dY.calls h HS.j1) ?_
     rintro _ _ w H ⟨_,_,rfl,HS⟩
     have HS:=HS.o2
     refine go ?_
     have HS:=HS.ke [1,1]
     exact rt
    ·refine V.cd H Z (fun _ H=>?_) (fun _ H=>go ?_)
     ·refine V.seq ?_
      refine V.mj (σ:=Bool) [0,2,3] (fun x15 w=>St [au.at b0 a0,R] w0 w∧bA.j0 a0 a2 a3 x15=some r) (fun x15=>[(45,vb x15)]) ?_ ?_
      ·refine go ?_
       refine W.cd 37 H Z (fun _ H=>go ?_) (fun _ H=>go ?_)
       ·exact At.mt _ ⟨HS,H⟩
       ·obtain ⟨_,_,_,HS⟩:=au.open HS
        refine go ?_
        have HS:=au.close tv HS
        exact At.mt _ ⟨HS,H⟩
      ·rintro x15 w ⟨HS,H⟩
       unfold bA.j0 at H
       refine V.cv H Z (fun _ H=>go ?_) (fun _ H=>go ?_)
       ·exact rt
       ·obtain ⟨_,c1_18,_,HS⟩:=au.open HS
        refine go ?_
        obtain ⟨c20,H⟩:=ite_n H
        obtain ⟨eb21,eo22,hh⟩:=(rdC.at 1 row_rd HS rfl).some (by decide) c20.1 c20.2;subst hh
        refine go ?_
        refine W.en (Y.storeRowF (Value.int .u8) (fun _=>Z) 1 HS Z inf5 Z Z c20.1 c20.2) Z ?_
        rintro _ w HS
        have HS:Sep.St [blk b0 (#[vi a0.room,vs (some ⟨eb21,eo22,none⟩) (a0.b.set a2.toNat a3).length c1_18,vb a0.cut,vb a0.stall]) 151,row 5 1 (.slice (some ⟨eb21,eo22,none⟩) (a0.b.set a2.toNat a3).length c1_18) (a0.b.set a2.toNat a3).length ((a0.b.set a2.toNat a3).map (Value.int .u8)),R] w0 w:=by simpa only [List.length_set,List.set_cons_succ,List.set_cons_zero] using HS
        refine W.again 49 (v:=vs (some ⟨eb21,eo22,none⟩) (a0.b.set a2.toNat a3).length c1_18) (by rw [List.length_set];rfl) (go ?_)
        have HS:=au.close tv HS
        exact rt
     ·refine V.cd H Z (fun _ H=>?_) (fun _ H=>go ?_)
      ·refine V.seq ?_
       refine V.mj (σ:=Bool) [0,2,3] (fun x28 w=>St [au.at b0 a0,R] w0 w∧bA.j1 a0 a2 a3 x28=some r) (fun x28=>[(70,vb x28)]) ?_ ?_
       ·refine go ?_
        refine W.cd 57 H Z (fun _ H=>go ?_) (fun _ H=>go ?_)
        ·exact At.mt _ ⟨HS,H⟩
        ·obtain ⟨_,_,_,HS⟩:=au.open HS
         refine go ?_
         refine W.cd 66 H Z (fun _ H=>go ?_) (fun _ H=>go ?_)
         ·have HS:=au.close tv HS
          exact At.mt _ ⟨HS,H⟩
         ·refine W.kl H func110 (fun _ h=>bQ.calls h HS.j2) ?_
          rintro _ _ w H ⟨rfl,HS⟩
          have HS:=HS.o2
          refine go ?_
          have HS:=au.close tv HS
          exact At.mt _ ⟨HS,H⟩
       ·rintro x28 w ⟨HS,H⟩
        unfold bA.j1 at H
        refine V.cv H Z (fun _ H=>go ?_) (fun _ H=>go ?_)
        ·exact rt
        ·obtain ⟨_,_,_,HS⟩:=au.open HS
         refine go ?_
         refine W.e (Y.ls (e:=5) (Value.int .u8) ([a3]:List Int) HS Z Z (fun _=>by kernel_rfl)) Z ?_
         rintro _ w ⟨_,rfl,HS⟩
         have HS:=HS.b [2]
         refine W.kl H func111 (fun _ h=>dS.calls h HS.j2) ?_
         rintro _ _ w H ⟨_,_,rfl,HS⟩
         have HS:=HS.o1
         refine go ?_
         refine W.sr 1 HS Z Z Z fun w HS=>go ?_
         have HS:=au.close tv (HS.b [1])
         exact rt
      ·exact rt
def cL.f (a0:ah) (a1:Int) (a2:Int) (a3:Int) (a4:Int) (a5:Int):Option (Bool × ah):=(if a1≥0 then (if a1<2 then (if a2≥0 then (if a2<2 then (if 0≤a1∧a1<2 then (if a1=0 then (if 0≤a2∧a2<2 then (if a2=0 then ((bA.f a0.ways.1.1.pipe a3 a4 a5).bind fun t11=>some (t11.1,({a0 with ways:=((({a0.ways.1.1 with pipe:=t11.2}:bL),a0.ways.1.2),a0.ways.2)}:ah))) else ((bA.f a0.ways.1.2.pipe a3 a4 a5).bind fun t14=>some (t14.1,({a0 with ways:=((a0.ways.1.1,({a0.ways.1.2 with pipe:=t14.2}:bL)),a0.ways.2)}:ah)))) else none) else (if 0≤a2∧a2<2 then (if a2=0 then ((bA.f a0.ways.2.1.pipe a3 a4 a5).bind fun t19=>some (t19.1,({a0 with ways:=(a0.ways.1,(({a0.ways.2.1 with pipe:=t19.2}:bL),a0.ways.2.2))}:ah))) else ((bA.f a0.ways.2.2.pipe a3 a4 a5).bind fun t22=>some (t22.1,({a0 with ways:=(a0.ways.1,(a0.ways.2.1,({a0.ways.2.2 with pipe:=t22.2}:bL)))}:ah)))) else none)) else none) else some (false,a0)) else some (false,a0)) else some (false,a0)) else some (false,a0))
theorem cL.calls (H:cL.f a0 a1 a2 a3 a4 a5=some r) (HS:St [ah.at b0 a0,R] w0 w):Calls Tryz.prog 12 #[pt b0,vi a1,vi a2,vi a3,vi a4,Value.int .u8 a5] w (Ret fun u w=>u=vb r.1∧St [ah.at b0 r.2,R] w0 w):=by
 refine calls_enter func12 Z Z (go ?_)
 refine W.inl (Y.cl (vs:=[pt b0,vi a1,vi a2]) func51 (calls_enter func51 Z Z ?_)) Z Z Z
 refine go ?_
 refine W.inl (Y.cl (vs:=[vi a1]) func53 (calls_enter func53 Z Z ?_)) Z Z Z
 refine go ?_
 refine W.cd 5 H Z (fun _ H=>go ?_) (fun _ H=>go ?_)
 ·refine At.ret1 Z Z ⟨_,Z,?_⟩
  refine go ?_
  refine W.cm 11 H Z (fun _ H=>go ?_) (fun _ H=>go ?_)
  ·refine W.inl (Y.cl (vs:=[vi a2]) func53 (calls_enter func53 Z Z ?_)) Z Z Z
   refine go ?_
   refine W.cd 5 H Z (fun _ H=>go ?_) (fun _ H=>go ?_)
   ·refine At.ret1 Z Z ⟨_,Z,?_⟩
    refine go ?_
    refine V.cm H Z (fun _ H=>go ?_) (fun _ H=>go ?_)
    ·obtain ⟨_,_,_,_,_,_,_,_,_,_,_,_,_,_,_,_,_,_,_,_,_,_,_,_,_,_,_,_,_,_,_,HS⟩:=ah.open HS
     refine go ?_
     obtain ⟨c7,H⟩:=ite_n H
     refine ite_c H (fun c8 H=>?_) (fun _ H=>?_)
     ·refine W.r (X.indexArK 0 c8 underlying81 inf80 Z Z c7.1 c7.2) Z ?_
      obtain ⟨c9,H⟩:=ite_n H
      refine ite_c H (fun c10 H=>?_) (fun _ H=>?_)
      ·refine W.r (X.indexArK 0 c10 underlying80 inf79 Z Z c9.1 c9.2) Z (go ?_)
       refine At.ret2 Z Z Z ⟨_,Z,?_⟩
       refine go ?_
       have HS:=HS.b [3]
       refine W.kl H func52 (fun _ h=>bA.calls h HS.j1) ?_
       rintro _ _ w H ⟨rfl,HS⟩
       have HS:=HS.o1
       refine go ?_
       have HS:=ah.close tv (HS.b [1,1,1])
       exact rt
      ·have hk13:a2=1:=by omega
       refine W.r (X.indexArK 1 hk13 underlying80 inf79 Z Z c9.1 c9.2) Z (go ?_)
       refine At.ret2 Z Z Z ⟨_,Z,?_⟩
       refine go ?_
       have HS:=HS.b [8]
       refine W.kl H func52 (fun _ h=>bA.calls h HS.j1) ?_
       rintro _ _ w H ⟨rfl,HS⟩
       have HS:=HS.o1
       refine go ?_
       have HS:=ah.close tv (HS.b [1,1,1,1,1,1,1,1])
       exact rt
     ·have hk16:a1=1:=by omega
      refine W.r (X.indexArK 1 hk16 underlying81 inf80 Z Z c7.1 c7.2) Z ?_
      obtain ⟨c17,H⟩:=ite_n H
      refine ite_c H (fun c18 H=>?_) (fun _ H=>?_)
      ·refine W.r (X.indexArK 0 c18 underlying80 inf79 Z Z c17.1 c17.2) Z (go ?_)
       refine At.ret2 Z Z Z ⟨_,Z,?_⟩
       refine go ?_
       have HS:=HS.b [13]
       refine W.kl H func52 (fun _ h=>bA.calls h HS.j1) ?_
       rintro _ _ w H ⟨rfl,HS⟩
       have HS:=HS.o1
       refine go ?_
       have HS:=ah.close tv (HS.b [1,1,1,1,1,1,1,1,1,1,1,1,1])
       exact rt
      ·have hk21:a2=1:=by omega
       refine W.r (X.indexArK 1 hk21 underlying80 inf79 Z Z c17.1 c17.2) Z (go ?_)
       refine At.ret2 Z Z Z ⟨_,Z,?_⟩
       refine go ?_
       have HS:=HS.b [18]
       refine W.kl H func52 (fun _ h=>bA.calls h HS.j1) ?_
       rintro _ _ w H ⟨rfl,HS⟩
       have HS:=HS.o1
       refine go ?_
       have HS:=ah.close tv (HS.b [1,1,1,1,1,1,1,1,1,1,1,1,1,1,1,1,1,1])
       exact rt
    ·refine At.ret2 Z Z Z ⟨_,Z,?_⟩
     refine go ?_
     exact rt
   ·refine At.ret1 Z Z ⟨_,Z,?_⟩
    refine go ?_
    refine At.ret2 Z Z Z ⟨_,Z,?_⟩
    refine go ?_
    exact rt
  ·refine At.ret2 Z Z Z ⟨_,Z,?_⟩
   refine go ?_
   exact rt
 ·refine At.ret1 Z Z ⟨_,Z,?_⟩
  refine go ?_
  refine At.ret2 Z Z Z ⟨_,Z,?_⟩
  refine go ?_
  exact rt
structure aY where
 Way:Int
 At:Int
 Line:Int
 Kind:Int
 N:Int
 C:Int
 B:List Int
deriving DecidableEq,Inhabited
abbrev aY.Q (b:Nat) (l0 l1 l2 l3 l4 l5:Int) (l6:List Int) (a6:Option Addr) (c6:Nat) (L:List As):List As:=blk b (#[vi l0,vi l1,vi l2,vi l3,vi l4,Value.int .u8 l5,vs a6 l6.length c6]) 50::fsl 1 (.slice a6 l6.length c6) l6.length (l6.map (Value.int .u8))::L
abbrev aY.P (b:Nat) (x:aY) (a6:Option Addr) (c6:Nat) (L:List As):List As:=aY.Q b x.Way x.At x.Line x.Kind x.N x.C x.B a6 c6 L
def aY.at (b:Nat) (x:aY):As:=fun h=>True∧∃a6:Option Addr,∃c6:Nat,Sp (aY.P b x a6 c6 []) h
theorem aY.open {b:Nat} {x:aY} {L:List As} {w0 w:World} (hs:Sep.St (aY.at b x::L) w0 w):∃a6:Option Addr,∃c6:Nat,True∧Sep.St (aY.P b x a6 c6 L) w0 w:=by
 obtain ⟨ho,ht,hu,h,hon,h1,h2,hd,e1,e2,⟨hi,a6,c6,hA⟩,hl⟩:=hs
 exact ⟨a6,c6,hi,St.open (m:=aY.P b x a6 c6 []) ⟨ho,ht,hu,h,hon,h1,h2,hd,e1,e2,hA,hl⟩⟩
theorem aY.close {b:Nat} {l0 l1 l2 l3 l4 l5:Int} {l6:List Int} {a6:Option Addr} {c6:Nat} {L:List As} {w0 w:World} (hi:True) (hs:Sep.St (aY.Q b l0 l1 l2 l3 l4 l5 l6 a6 c6 L) w0 w):Sep.St (aY.at b ({Way:=l0,At:=l1,Line:=l2,Kind:=l3,N:=l4,C:=l5,B:=l6}:aY)::L) w0 w:=by
 have h2:=St.join (m:=aY.Q b l0 l1 l2 l3 l4 l5 l6 a6 c6 []) hs
 exact h2.mono fun h hh=>⟨hi,_,_,hh⟩
end Go.Proofs.YtaejcbpijdacmaaGreat

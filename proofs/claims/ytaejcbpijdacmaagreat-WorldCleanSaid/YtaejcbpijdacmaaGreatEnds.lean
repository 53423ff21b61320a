/- A base for the walks of this seat: the world in which a call begins, all of it frozen, and what its end says. It speaks of no program. -/
import Derived.Test.YtaejcbpijdacmaaGreatOps
import Derived.Below
import Derived.ChangeSlices
import Derived.WideShapes
import Derived.Deep.Slices
set_option linter.all false
namespace Go.Proofs.YtaejcbpijdacmaaGreat.Walk
open Go.RowKit Go.Proofs.YtaejcbpijdacmaaGreat.Sep
def old (W:World):As:=fun h=>∀r o,W.heap[r]?=some o→h r=some (true,o)
theorem St.begin (W:World):St [old W] W W:=
 ⟨rfl,rfl,rfl,fun r=>(W.heap[r]?).map fun o=>(true,o),fun r f o e=>by
  cases h:W.heap[r]? with
  |none=>simp [h] at e
  |some x=>simp [h] at e;rw [e.2],fun r=>(W.heap[r]?).map fun o=>(true,o),fun _=>none,fun _=>.inr (.inl rfl),Hp.le.refl _,(fun _ _ e=>by cases e),fun r o e=>by simp [e],trivial⟩
theorem St.below {W w:World} {l:List As} (hs:St (old W::l) W w):Below W.heap.size W w:=by
 have key:∀k o,W.heap[k]?=some o→w.heap[k]?=some o:=fun k o e=>hs.tells 0 rfl fun h ho hon=>hon _ _ _ (ho k o e)
 refine ⟨hs.os,hs.tape,hs.output,?_,fun k hk=>?_⟩
 ·rcases Nat.eq_zero_or_pos W.heap.size with h|h
  ·omega
  ·have e:W.heap[W.heap.size-1]?=some W.heap[W.heap.size-1]:=Array.getElem?_eq_getElem (by omega)
   have:=lt_of_block (key _ _ e)
   omega
 ·rw [key k _ (Array.getElem?_eq_getElem hk),Array.getElem?_eq_getElem hk]
def oldHp (W:World):Hp:=fun r=>(W.heap[r]?).map fun o=>(true,o)
theorem old_le {W:World} {h:Hp} (ho:old W h):(oldHp W).le h:=fun r x e=>by
 unfold oldHp at e
 cases hr:W.heap[r]? with
 |none=>simp [hr] at e
 |some o=>simp [hr] at e;subst e;exact ho r o hr
theorem cell_heap {W:World} {a:Addr} {v:Value} (h:W.cell? a=some v):a.spot=none∧∃cur t fr,W.heap[a.block]?=some (.cells cur t fr)∧cur[a.off]?=some v:=by
 unfold World.cell? at h
 split at h
 ·rename_i c t fr hb
  cases hs:a.spot with
  |none=>simp [hs] at h;exact ⟨rfl,c,t,fr,hb,h⟩
  |some s=>simp [hs] at h
 ·cases h
theorem rd_old {W:World} {sz n c:Nat} {a:Option Addr} {cs:List Value} (hl:cs.length=n*sz) (hn:a=none→n=0∧c=0) (hc:n≤c) (h:∀b,a=some b→∀j u,cs[j]?=some u→W.cell? (b.add j)=some u):rdC (old W) sz (.slice a n c) n cs:=by
 intro hp ho
 refine ⟨a,c,rfl,hl,hn,hc,fun b hb j u hu=>?_⟩
 have h0:∃u0,cs[0]?=some u0:=by
  have:j<cs.length:=(List.getElem?_eq_some_iff.1 hu).1
  exact ⟨cs[0],List.getElem?_eq_getElem (by omega)⟩
 obtain ⟨u0,hu0⟩:=h0
 have hs:b.spot=none:=by
  have:=(cell_heap (h b hb 0 u0 hu0)).1
  simpa [Addr.add] using this
 have he:b.add j=⟨b.block,b.off+j,none⟩:=by
  unfold Addr.add
  split
  ·rename_i hz;subst hz;obtain ⟨_,_,s⟩:=b;simp at hs;subst hs;simp
  ·rfl
 have hj:=h b hb j u hu
 rw [he] at hj
 obtain ⟨_,cur,t,fr,e1,e2⟩:=cell_heap hj
 exact ⟨hs,true,cur,t,fr,ho _ _ e1,e2⟩
def Opens {H:Type} (enc:TypeId × Value→H) (P:Program) (W:World) {α:Type} (t:TypeId) (E:El α) (wf:α→Prop):Prop:=
 ∀(base:Nat) (spare:Nat→Bool) (held:Bool) (fuel:Nat) (cs:List Value) (x:DataW H × List MemPlace),DataW.trod enc P W base spare held fuel t cs=some x→∃m,E.p cs m (oldHp W)∧wf m
def OpensF {H:Type} (enc:TypeId × Value→H) (P:Program) (W:World) {α:Type} (fs:List Field) (off:Nat) (E:El α) (wf:α→Prop):Prop:=
 ∀(base:Nat) (spare:Nat→Bool) (held:Bool) (fuel:Nat) (cs:List Value),cs.length=off+E.n→(∀f∈fs,∃y,DataW.trod enc P W base spare held fuel f.type ((cs.drop f.offset).take (P.cellsOf f.type))=some y)→∃m,E.p (cs.drop off) m (oldHp W)∧wf m
section opens
variable {H:Type} {enc:TypeId × Value→H} {P:Program} {W:World} {α β:Type} {t e:TypeId}
theorem Opens.int {k:IntKind} (ht:P.underlying t=some (.int k)):Opens enc P W t (El.int k) (fun x=>(Lit.int k x).wf=true):=fun _ _ _ _ _ _ h=>
 let ⟨n,hc,_,hw⟩:=DataW.trod_int ht h;⟨n,hc,hw⟩
theorem Opens.bool (ht:P.underlying t=some .bool):Opens enc P W t El.bool (fun _=>True):=fun _ _ _ _ _ _ h=>
 let ⟨b,hc,_⟩:=DataW.trod_bool ht h;⟨b,hc,trivial⟩
theorem OpensF.nil {off:Nat}:OpensF enc P W [] off El.unit (fun _=>True):=fun _ _ _ _ cs hl _=>⟨(),List.drop_eq_nil_of_le (by simp [El.unit] at hl;omega),trivial⟩
theorem OpensF.cons {f:Field} {fs:List Field} {off:Nat} {E:El α} {F:El β} {wf:α→Prop} {wg:β→Prop} (ho:f.offset=off) (hc:P.cellsOf f.type=E.n) (h1:Opens enc P W f.type E wf) (h2:OpensF enc P W fs (off+E.n) F wg):OpensF enc P W (f::fs) off (El.prod E F) (fun x=>wf x.1∧wg x.2):=by
 intro base spare held fuel cs hl hf
 obtain ⟨y,hy⟩:=hf f (.head _)
 rw [ho,hc] at hy
 obtain ⟨m,hm,hw⟩:=h1 _ _ _ _ _ _ hy
 obtain ⟨n,hn,hv⟩:=h2 base spare held fuel cs (by rw [hl];show off+(E.n+F.n)=_;omega) fun g hg=>hf g (.tail _ hg)
 exact ⟨(m,n),⟨_,_,by rw [←List.drop_drop];exact (List.take_append_drop E.n _).symm,hm,hn⟩,hw,hv⟩
theorem Opens.struct {fs:Array Field} {E:El α} {wf:α→Prop} (ht:P.underlying t=some (.struct fs)) (hc:P.cellsOf t=E.n) (h:OpensF enc P W fs.toList 0 E wf):Opens enc P W t E wf:=by
 intro base spare held fuel cs x hx
 obtain ⟨xs,n,_,_,hl,hlen,hf⟩:=DataW.trod_struct ht hx
 refine h base spare held n cs (by rw [hl,hc,Nat.zero_add]) fun f hm=>?_
 obtain ⟨i,hi,hi'⟩:=List.mem_iff_getElem.1 hm
 have h1:fs[i]?=some f:=by
  rw [←Array.getElem?_toList,List.getElem?_eq_getElem hi,hi']
 have h2:=hf i f h1
 have hi2:i<xs.length:=by rw [hlen];simpa using hi
 rw [List.getElem?_eq_getElem hi2] at h2
 exact ⟨_,h2⟩
theorem cells?_facts {b n:Nat} {a:Addr} {cs:List Value} (h:W.cells? b a n=some cs):cs.length=n∧∀j u,cs[j]?=some u→W.cell? (a.add j)=some u:=by
 obtain ⟨_,hl,hc⟩:=World.cells?_some h
 refine ⟨hl,fun j u hu=>?_⟩
 have hj:j<n:=by rw [←hl];exact (List.getElem?_eq_some_iff.1 hu).1
 rw [hc j hj];exact hu
theorem add_add (a:Addr) (m r:Nat):(a.add m).add r=a.add (m+r):=by
 unfold Addr.add
 by_cases hm:m=0
 ·subst hm;simp
 ·by_cases hr:r=0
  ·subst hr;simp [hm]
  ·simp [hm,hr,Nat.add_assoc]
theorem list_of {γ:Type} {p:Nat→γ→Prop}:∀(n:Nat),(∀i,i<n→∃c,p i c)→∃l:List γ,l.length=n∧∀i c,l[i]?=some c→p i c
 |0,_=>⟨[],rfl,fun i c h=>by simp at h⟩
 |n+1,h=>by
  obtain ⟨l,hl,hp⟩:=list_of n fun i hi=>h i (by omega)
  obtain ⟨c,hc⟩:=h n (by omega)
  refine ⟨l++[c],by simp [hl],fun i d hd=>?_⟩
  by_cases hi:i<l.length
  ·rw [List.getElem?_append_left hi] at hd
   exact hp i d hd
  ·rw [List.getElem?_append_right (by omega)] at hd
   have hi':i-l.length=0:=by
    have:=(List.getElem?_eq_some_iff.1 hd).1;simp at this;omega
   rw [hi'] at hd
   simp at hd
   subst hd
   rw [show i=n by omega];exact hc
theorem Opens.rowAt {E:El α} {wf:α→Prop} (ht:P.underlying t=some (.slice e)) (hc:P.cellsOf e=E.n) (he:Opens enc P W e E wf) {base:Nat} {spare:Nat→Bool} {held:Bool} {fuel:Nat} {cs:List Value} {x:DataW H × List MemPlace} (hx:DataW.trod enc P W base spare held fuel t cs=some x):
  ∃(a:Option Addr) (c:Nat) (ds:List Value) (xs:List α),cs=[.slice a xs.length c]∧rdC (old W) E.n (.slice a xs.length c) xs.length ds∧tie E ds xs (oldHp W)∧(∀z∈xs,wf z)∧(xs.length:Int)≤9223372036854775807:=by
 rcases Go.Deep.open_slice ht hx with ⟨hcs,_⟩|⟨a,len,cap,m,k,D,Pl,hcs,_,hlc,hcm,hm,_,hel⟩
 ·exact ⟨none,0,[],[],hcs,rdC.nil rfl,tie.nil,by simp,by simp⟩
 ·have hlm:len≤m:=by rw [hm];split<;>omega
  have h1:∀i,i<len→∃c:List Value × α,(c.1.length=E.n∧∀j u,c.1[j]?=some u→W.cell? ((a.add (i*E.n)).add j)=some u)∧E.p c.1 c.2 (oldHp W)∧wf c.2:=by
   intro i hi
   obtain ⟨cs',hc1,hc2⟩:=hel i (by omega)
   rw [hc] at hc1
   obtain ⟨y,hy,hw⟩:=he _ _ _ _ _ _ hc2
   exact ⟨(cs',y),cells?_facts hc1,hy,hw⟩
  obtain ⟨l,hl,hp⟩:=list_of len h1
  have hn:∀c∈l.map (·.1),c.length=E.n:=by
   intro c hc'
   obtain ⟨d,hd,rfl⟩:=List.mem_map.1 hc'
   obtain ⟨i,hi,hi'⟩:=List.mem_iff_getElem.1 hd
   exact (hp i d (by rw [List.getElem?_eq_getElem hi,hi'])).1.1
  have hfl:(l.map (·.1)).flatten.length=len*E.n:=by rw [flat_len hn];simp [hl]
  have hxl:(l.map (·.2)).length=len:=by simpa using hl
  refine ⟨some a,cap,(l.map (·.1)).flatten,l.map (·.2),by rw [hxl];exact hcs,?_,⟨l.map (·.1),by simp,rfl,fun i c x e1 e2=>?_⟩,fun z hz=>?_,by rw [hxl];unfold maxLen at hcm;omega⟩
  ·rw [hxl]
   refine rd_old hfl (fun h=>nomatch h) hlc fun b hb j u hu=>?_
   obtain rfl:a=b:=Option.some.inj hb
   have hj:j<len*E.n:=by rw [←hfl];exact (List.getElem?_eq_some_iff.1 hu).1
   have hpos:0<E.n:=by
    rcases Nat.eq_zero_or_pos E.n with h|h
    ·rw [h] at hj;omega
    ·exact h
   have hi:j/E.n<len:=by rw [Nat.div_lt_iff_lt_mul hpos];exact hj
   have hdm:j/E.n*E.n+j%E.n=j:=by rw [Nat.mul_comm];exact Nat.div_add_mod j E.n
   have hil:j/E.n<(l.map (·.1)).length:=by simpa [hl] using hi
   have h2:((l.map (·.1)).flatten.drop (j/E.n*E.n))[j%E.n]?=some u:=by rw [List.getElem?_drop,hdm];exact hu
   rw [flat_drop _ hn,List.drop_eq_getElem_cons hil,List.flatten_cons,List.getElem?_append_left (by rw [hn _ (List.getElem_mem hil)];exact Nat.mod_lt _ hpos)] at h2
   have hi3:j/E.n<l.length:=by omega
   have h3:=(hp (j/E.n) l[j/E.n] (List.getElem?_eq_getElem hi3)).1.2 (j%E.n) u (by simpa using h2)
   rw [add_add,hdm] at h3
   exact h3
  ·rw [List.getElem?_map] at e1 e2
   obtain ⟨d,hd,rfl⟩:=Option.map_eq_some_iff.1 e1
   rw [hd] at e2
   simp at e2
   subst e2
   exact (hp i d hd).2.1
  ·obtain ⟨d,hd,rfl⟩:=List.mem_map.1 hz
   obtain ⟨i,hi,hi'⟩:=List.mem_iff_getElem.1 hd
   exact (hp i d (by rw [List.getElem?_eq_getElem hi,hi'])).2.2
theorem Opens.slice {E:El α} {wf:α→Prop} (ht:P.underlying t=some (.slice e)) (hc:P.cellsOf e=E.n) (he:Opens enc P W e E wf):Opens enc P W t (El.sl E) (fun xs=>(∀z∈xs,wf z)∧(xs.length:Int)≤9223372036854775807):=by
 intro base spare held fuel cs x hx
 obtain ⟨a,c,ds,xs,h1,h2,h3,h4,h5⟩:=Opens.rowAt ht hc he hx
 refine ⟨xs,⟨_,ds,h1,?_,h3⟩,h4,h5⟩
 -- all of the old world is frozen
 have hfz:(oldHp W).fz=oldHp W:=by
  funext r
  unfold Hp.fz oldHp
  cases W.heap[r]?<;>rfl
 show seesC E.n _ _ ds (oldHp W).fz
 rw [hfz]
 exact h2 (oldHp W) fun r o hr=>by simp [oldHp,hr]
theorem open_rowE {E:El α} {wf:α→Prop} {r:Reach} {b0 base:Nat} {spare:Nat→Bool} {held:Bool} {v:Value} {d:DataW H} {ps:List MemPlace} (ht:P.underlying t=some (.slice e)) (hc:P.cellsOf e=E.n) (he:Opens enc P W e E wf) (hval:Value.okWide P W r b0 t v) (hd:DataW.Trod enc P W base spare held t v d ps):
  ∃(a:Option Addr) (c:Nat) (ds:List Value) (xs:List α),v=.slice a xs.length c∧rdC (old W) E.n (.slice a xs.length c) xs.length ds∧(∀h,old W h→tie E ds xs h)∧(∀z∈xs,wf z)∧(xs.length:Int)≤9223372036854775807:=by
 obtain ⟨a,len,cap,rfl⟩:=Go.WideShapes.okWide_slice ht hval
 obtain ⟨fuel,hf⟩:=hd
 have hf':DataW.trod enc P W base spare held fuel t [.slice a len cap]=some (d,ps):=hf
 obtain ⟨a',c',ds,xs,h1,h2,h3,h4,h5⟩:=Opens.rowAt ht hc he hf'
 exact ⟨a',c',ds,xs,by simpa using h1,h2,fun h ho=>tie.mono h3 (old_le ho),h4,h5⟩
end opens
end Go.Proofs.YtaejcbpijdacmaaGreat.Walk

/- A base for the walks of this seat: a region that draws its order: what only reads may come up anywhere; what turns memory comes up in one order. It speaks of no program. -/
import Derived.Test.YtaejcbpijdacmaaGreatRules
import Derived.Orders
set_option linter.all false
namespace Go.Proofs.YtaejcbpijdacmaaGreat.Walk
open Go.RowKit Go.Proofs.YtaejcbpijdacmaaGreat.Sep
section draw
def preds (ops:Array Oper) (i:Nat):List Nat:=match ops[i]? with
 |some o=>(o.after.toList.filter (Region.binds .any ·)).map (·.on)
 |none=>[]
def wr (ops:Array Oper) (m t:Nat):Bool:=match ops[m]? with
 |some o=>match o.dst with
  |some d=>Nat.beq d t
  |none=>false
 |none=>false
def hasN:List Nat→Nat→Bool
 |[],_=>false
 |x::r,t=>bif Nat.beq x t then true else hasN r t
theorem hasN_iff:∀{l:List Nat} {t:Nat},hasN l t=true↔t∈l
 |[],t=>by simp [hasN]
 |x::r,t=>by
  simp only [hasN,List.mem_cons]
  cases hb:Nat.beq x t with
  |true=>have:=Nat.eq_of_beq_eq_true hb;simp [this]
  |false=>
   have hne:¬t=x:=fun e=>by subst e;simp at hb
   simp only [cond_false,hasN_iff,hne,false_or]
def writers (ops:Array Oper) (t:Nat):List Nat:=(List.range ops.size).filter (wr ops · t)
theorem mem_writers {ops:Array Oper} {m t:Nat}:m∈writers ops t↔wr ops m t=true:=by
 unfold writers
 simp only [List.mem_filter,List.mem_range]
 constructor
 ·exact fun h=>h.2
 ·intro h
  refine ⟨?_,h⟩
  unfold wr at h
  cases ho:ops[m]? with
  |none=>simp [ho] at h
  |some o=>exact (Array.getElem?_eq_some_iff.1 ho).1
def readsOk (ops:Array Oper) (i:Nat) (f0 f:Fr):Fr→Prop
 |[]=>True
 |(t,v)::r=>(((writers ops t).all (fun m=>hasN (preds ops m) i)=true∧look f0 t=some v)∨((writers ops t).any (fun m=>hasN (preds ops i) m)=true∧look f t=some v))∧readsOk ops i f0 f r
structure PF (ops:Array Oper) (n:Nat) (f0 f:Fr) (D:Array Bool) (a:Act):Prop where
 dfr:a.defers=[]
 size:a.tmps.size=n
 old:∀t v,look f0 t=some v→(∀m,wr ops m t=true→D[m]?=some false)→a.tmps[t]?=some v
 new:∀t v,look f t=some v→(∃m,wr ops m t=true∧D[m]?=some true)→a.tmps[t]?=some v
def Closed (ops:Array Oper) (D:Array Bool):Prop:=∀m,D[m]?=some true→∀j∈preds ops m,D[j]?=some true
theorem PF.fits {ops:Array Oper} {n:Nat} {f0 f:Fr} {D:Array Bool} {a:Act} (h:PF ops n f0 f D a) (hD:D.size=ops.size) (hc:Closed ops D) {i:Nat} (hi:D[i]?=some false) (hp:∀j∈preds ops i,D[j]?=some true):
  ∀{g:Fr},readsOk ops i f0 f g→Fits n a g
 |[],_=>⟨h.dfr,h.size,fun t v e=>by simp [look] at e⟩
 |(t,v)::r,⟨h1,hr⟩=>by
  have ih:=PF.fits h hD hc hi hp hr
  refine ⟨h.dfr,h.size,fun s u e=>?_⟩
  simp only [look] at e
  cases hb:Nat.beq t s with
  |false=>rw [hb] at e;exact ih.holds s u e
  |true=>
   rw [hb] at e
   have:t=s:=Nat.eq_of_beq_eq_true hb
   subst this
   simp at e;subst e
   rcases h1 with ⟨ha,hl⟩|⟨ha,hl⟩
   ·refine h.old t v hl fun m hm=>?_
    have h2:i∈preds ops m:=hasN_iff.1 (List.all_eq_true.1 ha m (mem_writers.2 hm))
    have hlt:m<D.size:=by
     rw [hD];unfold wr at hm
     cases ho:ops[m]? with
     |none=>simp [ho] at hm
     |some o=>exact (Array.getElem?_eq_some_iff.1 ho).1
    cases hd:D[m]? with
    |none=>simp at hd;omega
    |some b=>
     cases b with
     |false=>rfl
     |true=>rw [hc m hd i h2] at hi;cases hi
   ·obtain ⟨m,hm,hm'⟩:=List.any_eq_true.1 ha
    exact h.new t v hl ⟨m,mem_writers.1 hm,hp m (hasN_iff.1 hm')⟩
inductive Reads (P:Program) (ops:Array Oper) (n:Nat) (Wd:World→Prop) (f:Fr) (o:Oper) (v:Value):Prop
 |run (hg:o.guard=none) (h:∀w,Wd w→Runs P n f w o v)
 |want (j:Nat) (b:Bool) (t:Nat) (hg:o.guard=some (j,b)) (hj:(ops[j]?).bind (·.dst)=some t) (e:look f t=some (.bool b)) (h:∀w,Wd w→Runs P n f w o v)
 |passU (j:Nat) (b:Bool) (t:Nat) (hg:o.guard=some (j,b)) (hj:(ops[j]?).bind (·.dst)=some t) (e:look f t=some undef) (hv:v=undef)
 |pass (j:Nat) (b b':Bool) (t:Nat) (hg:o.guard=some (j,b)) (hj:(ops[j]?).bind (·.dst)=some t) (e:look f t=some (.bool b')) (hb:(b'==b)=false) (hv:v=undef)
variable {P:Program} {ops:Array Oper} {n:Nat} {Q:Exit→Act→World→Prop}
def left (D:Array Bool):Nat:=(D.toList.filter (· ==false)).length
def T (P:Program) (ops:Array Oper) (n:Nat) (Q:Exit→Act→World→Prop) (dn es bl:List Nat) (f0 f:Fr) (Wd:World→Prop):Prop:=
 ∀(fuel:Nat) (D:Array Bool) (a:Act) (w:World),D.size=ops.size→Closed ops D→(∀i∈dn,D[i]?=some true)→(∀i∈es++bl,D[i]?=some false)→PF ops n f0 f D a→Wd w→left D≤fuel→wpAny P .any ops Q fuel D a w
theorem ready_iff {ops:Array Oper} {D:Array Bool} {i:Nat} (hD:D.size=ops.size):i∈Region.ready .any ops D↔D[i]?=some false∧∀j∈preds ops i,D[j]?=some true:=by
 unfold Region.ready
 simp only [List.mem_filter,List.mem_range,Bool.and_eq_true,Bool.not_eq_true']
 constructor
 ·rintro ⟨hi,h1,h2⟩
  have hlt:i<D.size:=by omega
  refine ⟨?_,?_⟩
  ·rw [Array.getElem?_eq_getElem hlt]
   simp [Array.getD,hlt] at h1;simp [h1]
  ·intro j hj
   have ho:ops[i]?=some ops[i]:=Array.getElem?_eq_getElem hi
   unfold preds at hj
   rw [ho] at hj h2
   simp only [List.mem_map,List.mem_filter] at hj
   obtain ⟨e,⟨he,hb⟩,rfl⟩:=hj
   simp only [Option.map_some,Option.getD_some] at h2
   have:=Array.all_eq_true_iff_forall_mem.1 h2 e (Array.mem_toList_iff.1 he)
   rw [hb] at this
   simp at this
   cases hd:D[e.on]? with
   |none=>simp [hd] at this
   |some b=>simp [hd] at this;rw [this]
 ·rintro ⟨h1,h2⟩
  have hlt:i<D.size:=(Array.getElem?_eq_some_iff.1 h1).1
  have hi:i<ops.size:=by omega
  refine ⟨hi,?_,?_⟩
  ·simp [Array.getD,hlt,(Array.getElem?_eq_some_iff.1 h1).2]
  ·have ho:ops[i]?=some ops[i]:=Array.getElem?_eq_getElem hi
   unfold preds at h2
   rw [ho] at h2 ⊢
   simp only [Option.map_some,Option.getD_some]
   refine Array.all_eq_true_iff_forall_mem.2 fun e he=>?_
   cases hb:Region.binds .any e with
   |false=>simp
   |true=>
    have:=h2 e.on (List.mem_map.2 ⟨e,List.mem_filter.2 ⟨Array.mem_toList_iff.2 he,hb⟩,rfl⟩)
    simp [this]
def acyc (ops:Array Oper):Bool:=(List.range ops.size).all fun i=>(preds ops i).all fun j=>Nat.blt j i
theorem acyc.ready {ops:Array Oper} {D:Array Bool} (h:acyc ops=true) (hD:D.size=ops.size) (hr:Region.ready .any ops D=[]):∀i,i<ops.size→D[i]?=some true:=by
 intro i
 induction i using Nat.strongRecOn with
 |_ i ih=>
  intro hi
  have hlt:i<D.size:=by omega
  cases hb:D[i]? with
  |none=>simp at hb;omega
  |some b=>
   cases b with
   |true=>rfl
   |false=>
    exfalso
    have:i∈Region.ready .any ops D:=(ready_iff hD).2 ⟨hb,fun j hj=>by
     have h1:=List.all_eq_true.1 (List.all_eq_true.1 h i (List.mem_range.2 hi)) j hj
     have hji:j<i:=by simp [Nat.blt] at h1;omega
     exact ih j hji (by omega)⟩
    rw [hr] at this
    cases this
theorem left_pos {D:Array Bool} {i:Nat} (h:D[i]?=some false):0<left D:=by
 unfold left
 have hm:false∈D.toList:=by
  rw [Array.getElem?_eq_some_iff] at h
  obtain ⟨hi,hv⟩:=h
  exact Array.mem_toList_iff.2 (hv▸Array.getElem_mem hi)
 exact List.length_pos_of_mem (List.mem_filter.2 ⟨hm,rfl⟩)
theorem left_list:∀(l:List Bool) (i:Nat),l[i]?=some false→((l.set i true).filter (· ==false)).length+1=(l.filter (· ==false)).length
 |[],_,h=>by simp at h
 |b::l,0,h=>by simp at h;subst h;simp
 |b::l,i+1,h=>by
  have ih:=left_list l i (by simpa using h)
  cases b<;>simp_all
theorem left_set {D:Array Bool} {i:Nat} (h:D[i]?=some false):left (D.setIfInBounds i true)+1=left D:=by
 unfold left
 rw [Array.toList_setIfInBounds]
 exact left_list _ _ (by simpa using h)
theorem set_get {D:Array Bool} {i:Nat} (h:D[i]?=some false) (j:Nat):(D.setIfInBounds i true)[j]?=if i=j then some true else D[j]?:=by
 have hlt:i<D.size:=(Array.getElem?_eq_some_iff.1 h).1
 rw [Array.getElem?_setIfInBounds]
 by_cases e:i=j
 ·simp [e];omega
 ·simp [e]
theorem Closed.set {D:Array Bool} (hc:Closed ops D) {i:Nat} (hi:D[i]?=some false) (hp:∀j∈preds ops i,D[j]?=some true):Closed ops (D.setIfInBounds i true):=by
 intro m hm j hj
 rw [set_get hi] at hm ⊢
 by_cases e:i=j
 ·rw [if_pos e]
 ·rw [if_neg e]
  by_cases e':i=m
  ·subst e';exact hp j hj
  ·rw [if_neg e'] at hm;exact hc m hm j hj
theorem PF.put {f0 f:Fr} {D:Array Bool} {a:Act} (h:PF ops n f0 f D a) {i d:Nat} {v:Value} (hi:D[i]?=some false) (hw:wr ops i d=true) (hd:d<n) (hu:∀m,wr ops m d=true→m=i) (hv:∀u,look f d=some u→u=v)
  (hone:∀t,wr ops i t=true→t=d):PF ops n f0 f (D.setIfInBounds i true) (a.put (some d) v):=by
 refine ⟨h.dfr,by simp [Act.put,h.size],fun t u e hm=>?_,fun t u e hm=>?_⟩
 ·have hne:d≠t:=by
   intro e';subst e'
   have:=hm i hw
   rw [set_get hi,if_pos rfl] at this;cases this
  simp only [Act.put]
  rw [Array.getElem?_setIfInBounds_ne hne]
  refine h.old t u e fun m hm'=>?_
  have:=hm m hm'
  rw [set_get hi] at this
  by_cases e':i=m
  ·rw [if_pos e'] at this;cases this
  ·rw [if_neg e'] at this;exact this
 ·by_cases e':d=t
  ·subst e'
   rw [hv u e]
   simp [Act.put,h.size,hd]
  ·simp only [Act.put]
   rw [Array.getElem?_setIfInBounds_ne e']
   obtain ⟨m,hm1,hm2⟩:=hm
   refine h.new t u e ⟨m,hm1,?_⟩
   rw [set_get hi] at hm2
   by_cases e2:i=m
   ·subst e2;exact absurd (hone t hm1).symm e'
   ·rw [if_neg e2] at hm2;exact hm2
theorem PF.putN {f0 f:Fr} {D:Array Bool} {a:Act} (h:PF ops n f0 f D a) {i:Nat} {v:Value} (hi:D[i]?=some false) (hw:∀t,wr ops i t=false):PF ops n f0 f (D.setIfInBounds i true) (a.put none v):=by
 refine ⟨h.dfr,h.size,fun t u e hm=>h.old t u e fun m hm'=>?_,fun t u e hm=>?_⟩
 ·have:=hm m hm'
  rw [set_get hi] at this
  by_cases e':i=m
  ·rw [if_pos e'] at this;cases this
  ·rw [if_neg e'] at this;exact this
 ·obtain ⟨m,hm1,hm2⟩:=hm
  refine h.new t u e ⟨m,hm1,?_⟩
  rw [set_get hi] at hm2
  by_cases e2:i=m
  ·subst e2;rw [hw t] at hm1;cases hm1
  ·rw [if_neg e2] at hm2;exact hm2
theorem wr_iff {o:Oper} {i t:Nat} (ho:ops[i]?=some o):wr ops i t=true↔o.dst=some t:=by
 unfold wr
 rw [ho]
 cases hd:o.dst with
 |none=>simp [hd]
 |some d=>
  simp only [hd,Option.some.injEq]
  exact ⟨Nat.eq_of_beq_eq_true,fun e=>by subst e;simp⟩
def RdOk (P:Program) (ops:Array Oper) (n:Nat) (f0 f:Fr) (Wd:World→Prop) (i:Nat):Prop:=
 ∃o v g d,ops[i]?=some o∧o.dst=some d∧readsOk ops i f0 f g∧Reads P ops n Wd g o v∧look f d=some v∧Nat.ble (d+1) n=true∧(writers ops d).all (Nat.beq · i)=true
theorem RdOk.step {f0 f:Fr} {Wd:World→Prop} {i:Nat} (h:RdOk P ops n f0 f Wd i) {D:Array Bool} {a:Act} {w:World} (hD:D.size=ops.size) (hc:Closed ops D) (hi:D[i]?=some false) (hp:∀j∈preds ops i,D[j]?=some true) (hf:PF ops n f0 f D a) (hw:Wd w)
  {K:Act→World→Prop} (hK:∀a',PF ops n f0 f (D.setIfInBounds i true) a'→K a' w):wpOp P ops Q i K a w:=by
 obtain ⟨o,v,g,d,ho,hd,hr,hv,hl,hdn,hu⟩:=h
 have hfit:=hf.fits hD hc hi hp hr
 have hput:PF ops n f0 f (D.setIfInBounds i true) (a.put o.dst v):=by
  rw [hd]
  refine hf.put hi ((wr_iff ho).2 hd) (Nat.le_of_ble_eq_true hdn) (fun m hm=>?_) (fun u e=>?_) (fun t ht=>?_)
  ·exact Nat.eq_of_beq_eq_true (List.all_eq_true.1 hu m (mem_writers.2 hm))
  ·rw [hl] at e;exact (Option.some.inj e).symm
  ·have:=(wr_iff ho).1 ht;rw [hd] at this;exact (Option.some.inj this).symm
 unfold wpOp
 rw [ho]
 simp only
 cases hv with
 |run hg h=>
  rw [if_pos (by simp [Region.wanted,hg])]
  refine .inl ?_
  unfold Oper.wp
  rw [h w hw a hfit,Oper.upon_value]
  exact hK _ hput
 |want j b t hg hj e h=>
  rw [if_pos (by simp [Region.wanted,hg,yielded_of hfit hj e])]
  refine .inl ?_
  unfold Oper.wp
  rw [h w hw a hfit,Oper.upon_value]
  exact hK _ hput
 |passU j b t hg hj e hv=>
  rw [if_neg (by simp [Region.wanted,hg,yielded_undef hfit hj e])]
  subst hv
  exact hK _ hput
 |pass j b b' t hg hj e hb hv=>
  have hne:¬(b'=b):=by simpa using hb
  rw [if_neg (by simp [Region.wanted,hg,yielded_of hfit hj e,hne])]
  subst hv
  exact hK _ hput
def AllRd (P:Program) (ops:Array Oper) (n:Nat) (f0 f:Fr) (Wd:World→Prop):List Nat→Prop
 |[]=>True
 |i::r=>RdOk P ops n f0 f Wd i∧AllRd P ops n f0 f Wd r
theorem AllRd.mem {f0 f:Fr} {Wd:World→Prop}:∀{l:List Nat},AllRd P ops n f0 f Wd l→∀i∈l,RdOk P ops n f0 f Wd i
 |_::_,⟨h,_⟩,_,.head _=>h
 |_::_,⟨_,h⟩,i,.tail _ hi=>h.mem i hi
def restOf (ops:Array Oper) (dn es bl:List Nat):List Nat:=(List.range ops.size).filter fun i=>!(hasN dn i||(hasN es i||hasN bl i))
def waitOk (ops:Array Oper) (es bl:List Nat):Bool:=(bl++es.tail).all fun i=>(preds ops i).any fun j=>hasN es j||hasN bl j
def leaves (ops:Array Oper) (f0 f:Fr):Fr→Prop
 |[]=>True
 |(t,v)::r=>(((writers ops t).isEmpty=true∧look f0 t=some v)∨((writers ops t).isEmpty=false∧look f t=some v))∧leaves ops f0 f r
theorem PF.done {f0 f:Fr} {D:Array Bool} {a:Act} (h:PF ops n f0 f D a) (hd:∀i,i<ops.size→D[i]?=some true):∀{g:Fr},leaves ops f0 f g→Fits n a g
 |[],_=>⟨h.dfr,h.size,fun t v e=>by simp [look] at e⟩
 |(t,v)::r,⟨h1,hr⟩=>by
  have ih:=PF.done h hd hr
  refine ⟨h.dfr,h.size,fun s u e=>?_⟩
  simp only [look] at e
  cases hb:Nat.beq t s with
  |false=>rw [hb] at e;exact ih.holds s u e
  |true=>
   rw [hb] at e
   have:t=s:=Nat.eq_of_beq_eq_true hb
   subst this
   simp at e;subst e
   rcases h1 with ⟨ha,hl⟩|⟨ha,hl⟩
   ·refine h.old t v hl fun m hm=>?_
    have:=mem_writers.2 hm
    rw [List.isEmpty_iff.1 ha] at this;cases this
   ·obtain ⟨m,hm⟩:∃m,m∈writers ops t:=by
     cases hw:writers ops t with
     |nil=>rw [hw] at ha;simp at ha
     |cons m _=>exact ⟨m,.head _⟩
    refine h.new t v hl ⟨m,mem_writers.1 hm,hd m ?_⟩
    unfold writers at hm
    exact List.mem_range.1 (List.mem_filter.1 hm).1
theorem T.core {dn es bl:List Nat} {f0 f:Fr} {Wd:World→Prop} (hac:acyc ops=true) (hwt:waitOk ops es bl=true) (hrd:AllRd P ops n f0 f Wd (restOf ops dn es bl))
  (hfin:es=[]→∀D a w,(∀i,i<ops.size→D[i]?=some true)→PF ops n f0 f D a→Wd w→Q .normal a w)
  (hev:∀e rest,es=e::rest→∀(fuel:Nat) (D:Array Bool) (a:Act) (w:World),D.size=ops.size→Closed ops D→(∀i∈dn,D[i]?=some true)→(∀i∈es++bl,D[i]?=some false)→PF ops n f0 f D a→Wd w→left D≤fuel+1→D[e]?=some false→(∀j∈preds ops e,D[j]?=some true)→
   wpOp P ops Q e (wpAny P .any ops Q fuel (D.setIfInBounds e true)) a w):T P ops n Q dn es bl f0 f Wd:=by
 intro fuel
 induction fuel with
 |zero=>
  intro D a w hD hc hdn hp hf hw hl
  have hdone:∀i,i<ops.size→D[i]?=some true:=by
   intro i hi
   have hlt:i<D.size:=by omega
   cases hb:D[i]? with
   |none=>simp at hb;omega
   |some b=>
    cases b with
    |true=>rfl
    |false=>have:=left_pos hb;omega
  have hes:es=[]:=by
   cases es with
   |nil=>rfl
   |cons e r=>
    have:=hp e (by simp)
    have hlt:e<ops.size:=by rw [←hD];exact (Array.getElem?_eq_some_iff.1 this).1
    rw [hdone e hlt] at this;cases this
  refine ⟨?_,hfin hes D a w hdone hf hw⟩
  cases hr:Region.ready .any ops D with
  |nil=>rfl
  |cons i r=>
   have:=(ready_iff hD).1 (hr▸List.Mem.head _:i∈Region.ready .any ops D)
   have hlt:i<ops.size:=by rw [←hD];exact (Array.getElem?_eq_some_iff.1 this.1).1
   rw [hdone i hlt] at this;cases this.1
 |succ fuel ih=>
  intro D a w hD hc hdn hp hf hw hl
  refine ⟨fun hr=>?_,fun i hi=>?_⟩
  ·have hdone:=acyc.ready hac hD hr
   have hes:es=[]:=by
    cases es with
    |nil=>rfl
    |cons e r=>
     have:=hp e (by simp)
     have hlt:e<ops.size:=by rw [←hD];exact (Array.getElem?_eq_some_iff.1 this).1
     rw [hdone e hlt] at this;cases this
   exact hfin hes D a w hdone hf hw
  ·obtain ⟨hi1,hi2⟩:=(ready_iff hD).1 hi
   have hlt:i<ops.size:=by rw [←hD];exact (Array.getElem?_eq_some_iff.1 hi1).1
   -- none of those that wait
   have hnw:i∉bl++es.tail:=by
    intro hm
    obtain ⟨j,hj,hj'⟩:=List.any_eq_true.1 (List.all_eq_true.1 hwt i hm)
    have:j∈es++bl:=by
     rcases Bool.or_eq_true_iff.1 hj' with h|h
     ·exact List.mem_append.2 (.inl (hasN_iff.1 h))
     ·exact List.mem_append.2 (.inr (hasN_iff.1 h))
    have h1:=hp j this
    rw [hi2 j hj] at h1;cases h1
   by_cases hie:∃rest,es=i::rest
   ·obtain ⟨rest,he⟩:=hie
    exact hev i rest he fuel D a w hD hc hdn hp hf hw (by omega) hi1 hi2
   ·have hne:i∉es:=by
     intro hm
     cases es with
     |nil=>cases hm
     |cons e r=>
      rcases List.mem_cons.1 hm with h|h
      ·subst h;exact hie ⟨r,rfl⟩
      ·exact hnw (List.mem_append.2 (.inr h))
    have hnb:i∉bl:=fun h=>hnw (List.mem_append.2 (.inl h))
    have hmem:i∈restOf ops dn es bl:=by
     unfold restOf
     refine List.mem_filter.2 ⟨List.mem_range.2 hlt,?_⟩
     have h1:hasN es i=false:=by
      cases h:hasN es i with
      |false=>rfl
      |true=>exact absurd (hasN_iff.1 h) hne
     have h2:hasN bl i=false:=by
      cases h:hasN bl i with
      |false=>rfl
      |true=>exact absurd (hasN_iff.1 h) hnb
     have h3:hasN dn i=false:=by
      cases h:hasN dn i with
      |false=>rfl
      |true=>have:=hdn i (hasN_iff.1 h);rw [hi1] at this;cases this
     simp [h1,h2,h3]
    refine (hrd.mem i hmem).step hD hc hi1 hi2 hf hw fun a' hf'=>?_
    refine ih _ a' w (by simpa using hD) (hc.set hi1 hi2) (fun j hj=>by rw [set_get hi1,hdn j hj,ite_self]) (fun j hj=>?_) hf' hw ?_
    ·rw [set_get hi1,if_neg]
     ·exact hp j hj
     ·intro e;subst e
      rcases List.mem_append.1 hj with h|h
      ·exact hne h
      ·exact hnb h
    ·have:=left_set hi1;omega
theorem T.fin {dn:List Nat} {f0 f:Fr} {Wd:World→Prop} (g:Fr) (hac:acyc ops=true) (hrd:AllRd P ops n f0 f Wd (restOf ops dn [] [])) (hg:leaves ops f0 f g) (h:∀w,Wd w→At n Q .normal g w):T P ops n Q dn [] [] f0 f Wd:=
 T.core hac rfl hrd (fun _ _ a w hd hf hw=>h w hw a (hf.done hd hg)) (fun _ _ e=>by cases e)
def newOk (ops:Array Oper) (bl:List Nat) (dst:Option Nat) (v:Value):Fr→Prop
 |[]=>True
 |(t,u)::r=>((dst=some t∧u=v)∨(dst≠some t∧(writers ops t).all (hasN bl)=true))∧newOk ops bl dst v r
theorem look_append:∀(x f:Fr) (t:Nat) (v:Value),look (x++f) t=some v→look x t=some v∨look f t=some v
 |[],_,_,_,h=>.inr h
 |(i,u)::r,f,t,v,h=>by
  simp only [List.cons_append,look] at h ⊢
  cases hb:Nat.beq i t with
  |true=>rw [hb] at h;exact .inl h
  |false=>rw [hb] at h;exact look_append r f t v h
theorem newOk.look {bl:List Nat} {dst:Option Nat} {v:Value}:∀{x:Fr},newOk ops bl dst v x→∀t u,look x t=some u→(dst=some t∧u=v)∨(dst≠some t∧∀m,wr ops m t=true→m∈bl)
 |[],_,t,u,e=>by simp [Walk.look] at e
 |(i,z)::r,⟨h,hr⟩,t,u,e=>by
  simp only [Walk.look] at e
  cases hb:Nat.beq i t with
  |false=>rw [hb] at e;exact hr.look t u e
  |true=>
   rw [hb] at e
   have:i=t:=Nat.eq_of_beq_eq_true hb
   subst this
   simp at e;subst e
   rcases h with h|⟨h1,h2⟩
   ·exact .inl h
   ·exact .inr ⟨h1,fun m hm=>hasN_iff.1 (List.all_eq_true.1 h2 m (mem_writers.2 hm))⟩
theorem T.drop {dn es bl es' bl':List Nat} {f0 f:Fr} {Wd:World→Prop} (x:Fr) (hsub:(es'++bl').all (hasN (es++bl))=true) (hx:newOk ops (es++bl) none undef x) (h:T P ops n Q dn es' bl' f0 (x++f) Wd):T P ops n Q dn es bl f0 f Wd:=by
 intro fuel D a w hD hc hdn hp hf hw hl
 refine h fuel D a w hD hc hdn (fun i hi=>hp i (hasN_iff.1 (List.all_eq_true.1 hsub i hi))) ⟨hf.dfr,hf.size,hf.old,fun t v e hm=>?_⟩ hw hl
 rcases look_append x f t v e with e|e
 ·rcases hx.look t v e with ⟨h1,_⟩|⟨_,h2⟩
  ·cases h1
  ·obtain ⟨m,hm1,hm2⟩:=hm
   rw [hp m (h2 m hm1)] at hm2;cases hm2
 ·exact hf.new t v e hm
def anOk (ops:Array Oper) (e:Nat) (an:List Nat):Bool:=an.all fun j=>hasN (preds ops e) j||an.any fun k=>Nat.blt j k&&hasN (preds ops k) j
theorem anOk.done {e:Nat} {an:List Nat} (h:anOk ops e an=true) {D:Array Bool} (hc:Closed ops D) (he:∀j∈preds ops e,D[j]?=some true) (M:Nat) (hM:∀j∈an,j<M):∀d j,M-j≤d→j∈an→D[j]?=some true:=by
 intro d
 induction d with
 |zero=>intro j hj hm;have:=hM j hm;omega
 |succ d ih=>
  intro j hj hm
  rcases Bool.or_eq_true_iff.1 (List.all_eq_true.1 h j hm) with h1|h1
  ·exact he j (hasN_iff.1 h1)
  ·obtain ⟨k,hk,hk'⟩:=List.any_eq_true.1 h1
   obtain ⟨h2,h3⟩:=Bool.and_eq_true_iff.1 hk'
   have hlt:j<k:=by simp [Nat.blt] at h2;omega
   have:=hM k hk
   exact hc k (ih k (by omega) hk) j (hasN_iff.1 h3)
theorem T.event {e:Nat} {dn es bl:List Nat} {f0 f:Fr} {Wd:World→Prop} (o:Oper) (g:Fr) (hac:acyc ops=true) (hwt:waitOk ops (e::es) bl=true) (hrd:AllRd P ops n f0 f Wd (restOf ops dn (e::es) bl)) (ho:ops[e]?=some o) (hg:readsOk ops e f0 f g)
  (hgd:o.guard=none∨∃j b t,o.guard=some (j,b)∧(ops[j]?).bind (·.dst)=some t∧look g t=some (.bool b)) (hd:∀d,o.dst=some d→d<n∧(writers ops d).all (Nat.beq · e)=true∧look f d=none)
  (bl' an:List Nat) (hbl:bl'.all (hasN bl)=true) (han:anOk ops e an=true)
  (h:∀w,Wd w→∃Φ:Value→World→Prop,Turns P Q n g w o Φ∧∀v w',Φ v w'→∃(x:Fr) (Wd':World→Prop),newOk ops bl o.dst v x∧T P ops n Q (e::an++dn) es bl' f0 (x++f) Wd'∧Wd' w'):T P ops n Q dn (e::es) bl f0 f Wd:=by
 refine T.core hac hwt hrd (fun e=>by cases e) ?_
 intro e' rest he fuel D a w hD hc hdn hp hf hw hl hi1 hi2
 obtain ⟨rfl,rfl⟩:e=e'∧es=rest:=by simpa using he
 have hfit:=hf.fits hD hc hi1 hi2 hg
 obtain ⟨Φ,ht,hk⟩:=h w hw
 have hcont:∀v w',Φ v w'→wpAny P .any ops Q fuel (D.setIfInBounds e true) (a.put o.dst v) w':=by
  intro v w' hv
  obtain ⟨x,Wd',hx,hT,hw'⟩:=hk v w' hv
  have hc':=hc.set hi1 hi2
  have hme:(D.setIfInBounds e true)[e]?=some true:=by rw [set_get hi1,if_pos rfl]
  refine hT fuel _ _ w' (by simpa using hD) hc' (fun j hj=>?_) (fun j hj=>?_) ?_ hw' (by have:=left_set hi1;omega)
  ·rcases List.mem_append.1 hj with h|h
   ·rcases List.mem_cons.1 h with h|h
    ·subst h;exact hme
    ·obtain ⟨M,hM⟩:∃M,∀j∈an,j<M:=⟨an.foldr max 0+1,fun j hj=>by
      have:∀(l:List Nat),j∈l→j≤l.foldr max 0:=by
       intro l
       induction l with
       |nil=>intro h;cases h
       |cons x r ih=>
        intro h
        simp only [List.foldr_cons]
        rcases List.mem_cons.1 h with h|h
        ·subst h;exact Nat.le_max_left _ _
        ·exact Nat.le_trans (ih h) (Nat.le_max_right _ _)
      have:=this an hj;omega⟩
     exact anOk.done han hc' (fun j hj=>hc' e hme j hj) M hM (M-j) j (Nat.le_refl _) h
   ·rw [set_get hi1,hdn j h,ite_self]
  ·have hj':j∈es++bl:=by
    rcases List.mem_append.1 hj with h|h
    ·exact List.mem_append.2 (.inl h)
    ·exact List.mem_append.2 (.inr (hasN_iff.1 (List.all_eq_true.1 hbl j h)))
   have hpj:=hp j (by simp at hj' ⊢;rcases hj' with h|h<;>simp [h])
   rw [set_get hi1,if_neg]
   ·exact hpj
   ·intro ej;subst ej
    -- an event that comes later, or one that waits, is not this one
    have hmem:e∈bl++(e::es).tail:=by
     rcases List.mem_append.1 hj' with h|h
     ·exact List.mem_append.2 (.inr h)
     ·exact List.mem_append.2 (.inl h)
    obtain ⟨j,hj,hjj⟩:=List.any_eq_true.1 (List.all_eq_true.1 hwt e hmem)
    have hjm:j∈e::es++bl:=by
     rcases Bool.or_eq_true_iff.1 hjj with h|h
     ·exact List.mem_append.2 (.inl (hasN_iff.1 h))
     ·exact List.mem_append.2 (.inr (hasN_iff.1 h))
    have h1:=hp j hjm
    rw [hi2 j hj] at h1;cases h1
  ·-- the frame behind
   have hold:PF ops n f0 f (D.setIfInBounds e true) (a.put o.dst v):=by
    cases hdd:o.dst with
    |none=>
     have hnw:∀t,wr ops e t=false:=by
      intro t
      cases hwt':wr ops e t with
      |false=>rfl
      |true=>
       have:=(wr_iff ho).1 hwt'
       rw [hdd] at this;cases this
     exact hf.putN hi1 hnw
    |some d=>
     obtain ⟨h1,h2,h3⟩:=hd d hdd
     refine hf.put hi1 ((wr_iff ho).2 hdd) h1 (fun m hm=>?_) (fun u hu=>by rw [h3] at hu;cases hu) (fun t ht=>?_)
     ·exact Nat.eq_of_beq_eq_true (List.all_eq_true.1 h2 m (mem_writers.2 hm))
     ·have:=(wr_iff ho).1 ht;rw [hdd] at this;exact (Option.some.inj this).symm
   refine ⟨hold.dfr,hold.size,hold.old,fun t u hu hm=>?_⟩
   rcases look_append x f t u hu with hu|hu
   ·rcases hx.look t u hu with ⟨h1,rfl⟩|⟨h1,h2⟩
    ·obtain ⟨hlt,_,_⟩:=hd t h1
     rw [h1]
     simp [Act.put,hf.size,hlt]
    ·obtain ⟨m,hm1,hm2⟩:=hm
     have hmb:=h2 m hm1
     rw [set_get hi1] at hm2
     by_cases e2:e=m
     ·subst e2
      exact absurd ((wr_iff ho).1 hm1) h1
     ·rw [if_neg e2,hp m (by simp [hmb])] at hm2;cases hm2
   ·exact hold.new t u hu hm
 unfold wpOp
 rw [ho]
 simp only
 rw [if_pos]
 ·exact .inl (ht a hfit _ hcont)
 ·rcases hgd with hgd|⟨j,b,t,h1,h2,h3⟩
  ·simp [Region.wanted,hgd]
  ·simp [Region.wanted,h1,yielded_of hfit h2 h3]
theorem V.draw {i:Nat} {l:List Oper} {es bl:List Nat} {f0 f:Fr} {w:World} (Wd:World→Prop) (hm:P.follows .mixedOrders=true) (hw:Wd w.drew) (hlt:(es++bl).all (Nat.blt · l.length)=true) (h:T P l.toArray n Q [] es bl f0 f Wd):V P n Q (.region i l.toArray true) f0 w:=fun a ha=>by
 refine wp_region_any hm (h _ _ a _ (by simp) ?_ (fun _ h=>nomatch h) ?_ ⟨ha.dfr,ha.size,fun t v e _=>ha.holds t v e,?_⟩ hw ?_)
 ·intro m hm
  simp [Array.getElem?_replicate] at hm
 ·intro j hj
  have:=List.all_eq_true.1 hlt j hj
  have hj':j<l.length:=by simp [Nat.blt] at this;omega
  simp [Array.getElem?_replicate,hj']
 ·rintro t v _ ⟨m,_,hm⟩
  simp [Array.getElem?_replicate] at hm
 ·simp [left]
end draw
end Go.Proofs.YtaejcbpijdacmaaGreat.Walk

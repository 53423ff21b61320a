/- A base for the walks of this seat: maps from whole numbers to things. It speaks of no program. -/
import Derived.Test.YtaejcbpijdacmaaGreatMore
import Derived.MapKept
set_option linter.all false
namespace Go.Proofs.YtaejcbpijdacmaaGreat.Walk
open Go.RowKit Go.MapKept Go.Proofs.YtaejcbpijdacmaaGreat.Sep
section models
variable {α:Type}
def mget:List (Int × α)→Int→α→α
 |[],_,d=>d
 |p::m,k,d=>if p.1=k then p.2 else mget m k d
def mhas:List (Int × α)→Int→Bool
 |[],_=>false
 |p::m,k=>if p.1=k then true else mhas m k
def mput:List (Int × α)→Int→α→List (Int × α)
 |[],k,x=>[(k,x)]
 |p::m,k,x=>if p.1=k then (k,x)::m else p::mput m k x
def mdel:List (Int × α)→Int→List (Int × α)
 |[],_=>[]
 |p::m,k=>if p.1=k then m else p::mdel m k
end models
def mpos {α:Type}:List (Int × α)→Int→Nat
 |[],_=>0
 |p::m,k=>if p.1=k then 0 else mpos m k+1
theorem mpos_lt {α:Type}:∀{m:List (Int × α)} {k:Int},mhas m k=true→mpos m k<m.length
 |[],_,h=>by simp [mhas] at h
 |p::m,k,h=>by
  unfold mpos
  by_cases hk:p.1=k
  ·simp [hk]
  ·simp only [hk,if_false,List.length_cons]
   have:=mpos_lt (m:=m) (k:=k) (by simpa [mhas,hk] using h)
   omega
def ent (p:Int × Value):Value × Value:=(.int .i64 p.1,p.2)
def Ents (es:List MapEntry) (kv:List (Int × Value)):Prop:=es.map (fun e=>(e.key,e.val))=kv.map ent
theorem Ents.find (k:Int) (z:Value):∀{es:List MapEntry} {kv:List (Int × Value)} (j:Nat),Ents es kv→Instr.findNow (.int .i64) (.int .i64 k) es j=some (if mhas kv k=true then some (j+mpos kv k,mget kv k z) else none)
 |[],[],j,_=>rfl
 |[],_::_,_,h=>by simp [Ents] at h
 |_::_,[],_,h=>by simp [Ents] at h
 |e::es,p::kv,j,h=>by
  simp only [Ents,List.map_cons,List.cons.injEq,ent,Prod.mk.injEq] at h
  obtain ⟨⟨h1,h2⟩,h3⟩:=h
  have hs:Instr.sameNow (.int .i64) (.int .i64 k) e.key=some (k==p.1):=by rw [h1];rfl
  by_cases hk:p.1=k
  ·have hb:(k==p.1)=true:=by simp [hk]
   simp only [Instr.findNow,hs,hb]
   simp [mhas,mpos,mget,hk,h2]
  ·have hb:(k==p.1)=false:=by simpa using fun e=>hk (Eq.symm e)
   simp only [Instr.findNow,hs,hb]
   rw [Ents.find k z (j+1) (kv:=kv) h3]
   simp only [mhas,mpos,mget,hk,if_false]
   congr 2;rw [show j+1+mpos kv k=j+(mpos kv k+1) by omega]
theorem Ents.modify {k:Int} {v:Value}:∀{es:List MapEntry} {kv:List (Int × Value)},Ents es kv→mhas kv k=true→Ents (es.modify (mpos kv k) fun e=>{e with key:=.int .i64 k,val:=v}) (mput kv k v)
 |[],[],_,h=>by simp [mhas] at h
 |[],_::_,h,_=>by simp [Ents] at h
 |_::_,[],h,_=>by simp [Ents] at h
 |e::es,p::kv,h,hm=>by
  have h0:=h
  simp only [Ents,List.map_cons,List.cons.injEq] at h
  by_cases hk:p.1=k
  ·simp only [mpos,mput,hk,if_true]
   simp only [Ents,List.modify_zero_cons,List.map_cons,ent]
   rw [h.2]
  ·simp only [mpos,mput,hk,if_false]
   have ih:=Ents.modify (k:=k) (v:=v) (es:=es) (kv:=kv) h.2 (by simpa [mhas,hk] using hm)
   simp only [Ents,List.modify_succ_cons,List.map_cons]
   rw [h.1,show List.map (fun e:MapEntry=>(e.key,e.val)) _=_ from ih]
theorem Ents.push {k:Int} {v:Value} {c:Nat}:∀{es:List MapEntry} {kv:List (Int × Value)},Ents es kv→mhas kv k=false→Ents (es++[{key:=.int .i64 k,val:=v,born:=c}]) (mput kv k v)
 |[],[],_,_=>rfl
 |[],_::_,h,_=>by simp [Ents] at h
 |_::_,[],h,_=>by simp [Ents] at h
 |e::es,p::kv,h,hm=>by
  simp only [Ents,List.map_cons,List.cons.injEq] at h
  have hk:¬p.1=k:=fun e=>by simp [mhas,e] at hm
  have ih:=Ents.push (k:=k) (v:=v) (c:=c) (es:=es) (kv:=kv) h.2 (by simpa [mhas,hk] using hm)
  simp only [mput,hk,if_false,Ents,List.cons_append,List.map_cons]
  rw [h.1,show List.map (fun e:MapEntry=>(e.key,e.val)) _=_ from ih]
theorem Ents.erase {k:Int}:∀{es:List MapEntry} {kv:List (Int × Value)},Ents es kv→mhas kv k=true→Ents (es.eraseIdx (mpos kv k)) (mdel kv k)
 |[],[],_,h=>by simp [mhas] at h
 |[],_::_,h,_=>by simp [Ents] at h
 |_::_,[],h,_=>by simp [Ents] at h
 |e::es,p::kv,h,hm=>by
  simp only [Ents,List.map_cons,List.cons.injEq] at h
  by_cases hk:p.1=k
  ·simp only [mpos,mdel,hk,if_true,List.eraseIdx_cons_zero];exact h.2
  ·have ih:=Ents.erase (k:=k) (es:=es) (kv:=kv) h.2 (by simpa [mhas,hk] using hm)
   simp only [mpos,mdel,hk,if_false,List.eraseIdx_cons_succ,Ents,List.map_cons]
   rw [h.1,show List.map (fun e:MapEntry=>(e.key,e.val)) _=_ from ih]
theorem mdel_none {α:Type}:∀{m:List (Int × α)} {k:Int},mhas m k=false→mdel m k=m
 |[],_,_=>rfl
 |p::m,k,h=>by
  have hk:¬p.1=k:=fun e=>by simp [mhas,e] at h
  rw [mdel,if_neg hk,mdel_none (by simpa [mhas,hk] using h)]
def mblk (b:Nat) (kv:List (Int × Value)):As:=fun h=>∃es clock,h b=some (false,.map es clock)∧Ents es.toList kv
def tieM {α:Type} (E:El α):List (Int × Value)→List (Int × α)→As
 |[],[],_=>True
 |e::es,p::m,h=>e.1=p.1∧E.p [e.2] p.2 h∧tieM E es m h
 |_,_,_=>False
section
variable {α:Type} {E:El α}
theorem tieM.mono:∀{es:List (Int × Value)} {m:List (Int × α)} {h k:Hp},tieM E es m h→h.le k→tieM E es m k
 |[],[],_,_,_,_=>trivial
 |[],_::_,_,_,h,_=>h.elim
 |_::_,[],_,_,h,_=>h.elim
 |_::_,_::_,_,_,⟨h1,h2,h3⟩,l=>⟨h1,E.mono h2 l,tieM.mono h3 l⟩
theorem tieM.pers:∀{es:List (Int × Value)} {m:List (Int × α)} {h:Hp},tieM E es m h→tieM E es m h.fz
 |[],[],_,_=>trivial
 |[],_::_,_,h=>h.elim
 |_::_,[],_,h=>h.elim
 |_::_,_::_,_,⟨h1,h2,h3⟩=>⟨h1,E.pers h2,tieM.pers h3⟩
theorem tieM.len:∀{es:List (Int × Value)} {m:List (Int × α)} {h:Hp},tieM E es m h→es.length=m.length
 |[],[],_,_=>rfl
 |[],_::_,_,h=>h.elim
 |_::_,[],_,h=>h.elim
 |_::_,_::_,_,⟨_,_,h3⟩=>by simp [tieM.len h3]
theorem tieM.has (k:Int):∀{es:List (Int × Value)} {m:List (Int × α)} {h:Hp},tieM E es m h→mhas es k=mhas m k
 |[],[],_,_=>rfl
 |[],_::_,_,h=>h.elim
 |_::_,[],_,h=>h.elim
 |e::_,p::_,_,⟨h1,_,h3⟩=>by simp only [mhas,h1,tieM.has k h3]
theorem tieM.get (k:Int) {z:Value} {d:α}:∀{es:List (Int × Value)} {m:List (Int × α)} {h:Hp},E.p [z] d h→tieM E es m h→E.p [mget es k z] (mget m k d) h
 |[],[],_,hz,_=>hz
 |[],_::_,_,_,h=>h.elim
 |_::_,[],_,_,h=>h.elim
 |e::_,p::_,_,hz,⟨h1,h2,h3⟩=>by
  by_cases hk:p.1=k
  ·simp only [mget,h1,hk,if_true];exact h2
  ·simp only [mget,h1,hk,if_false];exact tieM.get k hz h3
theorem tieM.put (k:Int) {v:Value} {x:α}:∀{es:List (Int × Value)} {m:List (Int × α)} {h:Hp},E.p [v] x h→tieM E es m h→tieM E (mput es k v) (mput m k x) h
 |[],[],_,hv,_=>⟨rfl,hv,trivial⟩
 |[],_::_,_,_,h=>h.elim
 |_::_,[],_,_,h=>h.elim
 |e::_,p::_,_,hv,⟨h1,h2,h3⟩=>by
  by_cases hk:p.1=k
  ·simp only [mput,h1,hk,if_true];exact ⟨rfl,hv,h3⟩
  ·simp only [mput,h1,hk,if_false];exact ⟨h1,h2,tieM.put k hv h3⟩
theorem tieM.del (k:Int):∀{es:List (Int × Value)} {m:List (Int × α)} {h:Hp},tieM E es m h→tieM E (mdel es k) (mdel m k) h
 |[],[],_,_=>trivial
 |[],_::_,_,h=>h.elim
 |_::_,[],_,h=>h.elim
 |e::_,p::_,_,⟨h1,h2,h3⟩=>by
  by_cases hk:p.1=k
  ·simp only [mdel,h1,hk,if_true];exact h3
  ·simp only [mdel,h1,hk,if_false];exact ⟨h1,h2,tieM.del k h3⟩
variable {P:Program} {ops:Array Oper} {n:Nat} {Q:Exit→Act→World→Prop} {l:List Oper} {f:Fr} {w w0:World} {L:List As} {A B:As}
variable {dst:Option Tmp} {gd:Option (Nat × Bool)} {ty:TypeId} {pos:String} {af:Array Edge}
theorem _root_.Go.Proofs.YtaejcbpijdacmaaGreat.Sep.St.turnO {b:Nat} {o o':Obj} {w':World} (hs:St ((fun h=>h b=some (false,o))::L) w0 w) (hos:w'.os=w.os) (htape:w'.tape=w.tape) (hout:w'.output=w.output)
  (hb:w'.heap[b]?=some o') (ho:∀r,r≠b→r<w.heap.size→w'.heap[r]?=w.heap[r]?):St ((fun h=>h b=some (false,o'))::L) w0 w':=by
 obtain ⟨h,hon,h1,h2,hd,e1,e2,hA,hl⟩:=hs.sp
 have hn:h2 b=none:=by
  rcases hd b with e|e|⟨o,e,_⟩
  ·rw [hA] at e;cases e
  ·exact e
  ·rw [hA] at e;cases e
 refine ⟨hos.trans hs.os,htape.trans hs.tape,hout.trans hs.output,fun r=>if r=b then some (false,o') else h2 r,fun r f o' e=>?_,fun r=>if r=b then some (false,o') else none,h2,fun r=>?_,fun r x e=>?_,fun r x e=>?_,by simp,hl⟩
 ·dsimp only at e
  split at e
  ·rename_i er;subst er;cases e;exact hb
  ·rename_i er
   have:=hon r f o' (e2 r _ e)
   rw [ho r er (lt_of_block this)];exact this
 ·by_cases er:r=b
  ·subst er;exact .inr (.inl hn)
  ·exact .inl (if_neg er)
 ·dsimp only at e ⊢
  split at e
  ·rename_i er;rw [if_pos er];exact e
  ·cases e
 ·dsimp only
  rw [if_neg]
  ·exact e
  ·intro er;subst er;rw [hn] at e;cases e
theorem mblkAt {b:Nat} {kv:List (Int × Value)} (k:Nat) (hs:St L w0 w) (hL:L[k]?=some (mblk b kv)):∃es clock,w.heap[b]?=some (.map es clock)∧Ents es.toList kv:=
 hs.tells k hL fun h ⟨es,c,h1,h2⟩ ho=>⟨es,c,ho _ _ _ h1,h2⟩
theorem isKeyI {x:Int}:IsKey (.int .i64) (.int .i64 x):=by simp [IsKey]
theorem Ents.len {es:List MapEntry} {kv:List (Int × Value)} (h:Ents es kv):es.length=kv.length:=by
 have:=congrArg List.length h;simpa using this
theorem X.lookup (k:Nat) {t kt et:TypeId} {x y:Operand} {b:Nat} {i:Int} {z u:Value} {kv:List (Int × Value)} (ht:P.underlying t=some (.map kt et)) (hk:P.underlying kt=some (.int .i64)) (hz:(P.info? et).bind (·.zero)=some z) (hs:St L w0 w) (hL:L[k]?=some (mblk b kv))
  (ex:ev f x=some (.map (some b))) (ey:ev f y=some (.int .i64 i)) (hu:[mget kv i z]=[u]) {c:Bool} (hc:mhas kv i=c):Runs P n f w {dst,op:=.lookup t x y true,type:=ty,pos,after:=af,guard:=gd} (.tuple #[u,.bool c]):=fun a ha=>by
 obtain ⟨es,clock,hb,hE⟩:=mblkAt k hs hL
 simp at hu
 subst hc
 cases hi:P.info? et with
 |none=>simp [hi] at hz
 |some j=>
  have hz':j.zero=some z:=by simpa [hi] using hz
  have hf:=run_findKey (P:=P) (w:=w) hk (hE.find i z 0)
  have hck:=run_checkKey (P:=P) (w:=w) hk (isKeyI (x:=i)) es.isEmpty 9999
  have hr:(Instr.lookup t (.map (some b)) (.int .i64 i) true).run P w=.ok (.tuple #[u,.bool (mhas kv i)]) w:=by
   unfold Instr.lookup
   simp only [Sem.run_bind,run_underlying ht,Result.andThen_ok,Go.MapKept.run_getObj_map hb,Sem.run_pure,hck,hf]
   cases hm:mhas kv i with
   |true=>simp [hu]
   |false=>
    have hg:mget kv i z=z:=by
     clear hu hf hE hL
     induction kv with
     |nil=>rfl
     |cons p kv ih=>
      have hkk:¬p.1=i:=fun e=>by simp [mhas,e] at hm
      simp only [mget,hkk,if_false]
      exact ih (by simpa [mhas,hkk] using hm)
    rw [hg] at hu
    simp [zeroValue,typeInfo,hi,hz',hu]
  simp [execOp,ha.ev ex,ha.ev ey,hr]
theorem X.lenMap (k:Nat) {t kt et:TypeId} {x:Operand} {b:Nat} {kv:List (Int × Value)} {m:List (Int × α)} (ht:P.underlying t=some (.map kt et)) (hs:St L w0 w) (hL:L[k]?=some (mblk b kv)) (hl:kv.length=m.length) (ex:ev f x=some (.map (some b))):
  Runs P n f w {dst,op:=.call {callee:=.builtin .len,args:=#[x],argTypes:=#[t]},type:=ty,pos,after:=af,guard:=gd} (.int .i64 (m.length:Int)):=fun a ha=>by
 obtain ⟨es,clock,hb,hE⟩:=mblkAt k hs hL
 have h1:=hE.len
 simp [execOp,resolve,invoke,builtin,ha.ev ex,Builtin.len_,run_underlying ht,Go.MapKept.run_getObj_map hb,goInt]
 simp at h1;omega
theorem St.mapTurn {b:Nat} {kv kv':List (Int × Value)} {es es':Array MapEntry} {c c':Nat} (k:Nat) (hs:St L w0 w) (hL:L[k]?=some (mblk b kv)) (hb:w.heap[b]?=some (.map es c)) (hE:Ents es'.toList kv'):
  St (L.set k (mblk b kv')) w0 {w with heap:=w.heap.setIfInBounds b (.map es' c')}:=by
 have hf:=hs.front k hL
 have h2:St ((fun h=>∃e1:Array MapEntry,∃c1:Nat,h b=some (false,.map e1 c1)∧Ents e1.toList kv)::L.eraseIdx k) w0 w:=hf
 obtain ⟨e1,h3⟩:=St.ex.1 h2
 obtain ⟨c1,h4⟩:=St.ex.1 h3
 have h5:St ((fun h=>h b=some (false,.map e1 c1))::L.eraseIdx k) w0 w:=h4.mono fun h t=>t.1
 have hlt:b<w.heap.size:=lt_of_block hb
 have h6:=h5.turnO (w':={w with heap:=w.heap.setIfInBounds b (.map es' c')}) (o':=.map es' c') rfl rfl rfl (by simp [hlt]) (fun r hr _=>by
  show (w.heap.setIfInBounds b _)[r]?=_
  rw [Array.getElem?_setIfInBounds_ne (fun e=>hr e.symm)])
 exact St.back k hL (h6.mono fun h t=>⟨es',c',t,hE⟩)
theorem Y.mapUpdate (k:Nat) {t kt et:TypeId} {x y u:Operand} {b:Nat} {i:Int} {v:Value} {kv:List (Int × Value)} (ht:P.underlying t=some (.map kt et)) (hk:P.underlying kt=some (.int .i64)) (hs:St L w0 w) (hL:L[k]?=some (mblk b kv))
  (ex:ev f x=some (.map (some b))) (ey:ev f y=some (.int .i64 i)) (eu:ev f u=some v):Turns P Q n f w {dst,op:=.mapUpdate t x y u,type:=ty,pos,after:=af,guard:=gd} (fun _ w'=>St (L.set k (mblk b (mput kv i v))) w0 w'):=by
 obtain ⟨es,clock,hb,hE⟩:=mblkAt k hs hL
 have hf:=run_findKey (P:=P) (w:=w) hk (hE.find i .nilIface 0)
 have hck:=run_checkKey (P:=P) (w:=w) hk (isKeyI (x:=i)) false 9999
 intro a ha K hK
 cases hm:mhas kv i with
 |true=>
  have hlt:=mpos_lt hm
  have hkey:(((es[mpos kv i]?).map (·.key)).getD (.int .i64 i))=.int .i64 i:=by
   have hl:=hE.len
   have h0:mpos kv i<es.size:=by simp at hl;omega
   have hx:(es.toList.map fun e=>(e.key,e.val))[mpos kv i]?=(kv.map ent)[mpos kv i]?:=by rw [hE]
   simp [h0,hlt,ent] at hx
   have hp:∀(kv:List (Int × Value)) (h:mpos kv i<kv.length),mhas kv i=true→kv[mpos kv i].1=i:=by
    intro kv
    induction kv with
    |nil=>intro h;simp at h
    |cons p kv ih=>
     intro h hh
     by_cases hq:p.1=i
     ·simp [mpos,hq]
     ·simp only [mpos,hq,if_false,List.getElem_cons_succ]
      exact ih _ (by simpa [mhas,hq] using hh)
   simp [h0,hx.1,hp kv hlt hm]
  have hr:(Instr.mapUpdate t (.map (some b)) (.int .i64 i) v).run P w=.ok () {w with heap:=w.heap.setIfInBounds b (.map (es.modify (mpos kv i) fun e=>{e with key:=.int .i64 i,val:=v}) clock)}:=by
   unfold Instr.mapUpdate
   simp only [Sem.run_bind,run_underlying ht,Result.andThen_ok,Go.MapKept.run_getObj_map hb,hck,hf,hm,if_true,Nat.zero_add,hkey]
   simp [Instr.keyThatStays,Instr.sameBits,Go.MapKept.run_setObj_map _ hb]
  unfold Oper.wp
  have hx:(execOp a.eval {dst,op:=.mapUpdate t x y u,type:=ty,pos,after:=af,guard:=gd}).run P w=.ok .skip {w with heap:=w.heap.setIfInBounds b (.map (es.modify (mpos kv i) fun e=>{e with key:=.int .i64 i,val:=v}) clock)}:=by
   simp [execOp,ha.ev ex,ha.ev ey,ha.ev eu,hr]
  rw [hx,Oper.upon_skip]
  exact hK undef _ (St.mapTurn (es':=es.modify (mpos kv i) fun e=>{e with key:=.int .i64 i,val:=v}) (c':=clock) k hs hL hb (by have:=hE.modify (v:=v) hm;simpa using this))
 |false=>
  have hr:(Instr.mapUpdate t (.map (some b)) (.int .i64 i) v).run P w=.ok () {w with heap:=w.heap.setIfInBounds b (.map (es.push {key:=.int .i64 i,val:=v,born:=clock}) (clock+1))}:=by
   unfold Instr.mapUpdate
   simp only [Sem.run_bind,run_underlying ht,Result.andThen_ok,Go.MapKept.run_getObj_map hb,hck,hf,hm]
   simp [Go.MapKept.run_setObj_map _ hb]
  unfold Oper.wp
  have hx:(execOp a.eval {dst,op:=.mapUpdate t x y u,type:=ty,pos,after:=af,guard:=gd}).run P w=.ok .skip {w with heap:=w.heap.setIfInBounds b (.map (es.push {key:=.int .i64 i,val:=v,born:=clock}) (clock+1))}:=by
   simp [execOp,ha.ev ex,ha.ev ey,ha.ev eu,hr]
  rw [hx,Oper.upon_skip]
  exact hK undef _ (St.mapTurn (es':=es.push {key:=.int .i64 i,val:=v,born:=clock}) (c':=clock+1) k hs hL hb (by have:=hE.push (v:=v) (c:=clock) hm;simpa using this))
theorem Y.delete (k:Nat) {t kt et:TypeId} {ts:TypeId} {x y:Operand} {b:Nat} {i:Int} {kv:List (Int × Value)} (ht:P.underlying t=some (.map kt et)) (hk:P.underlying kt=some (.int .i64)) (hs:St L w0 w) (hL:L[k]?=some (mblk b kv))
  (ex:ev f x=some (.map (some b))) (ey:ev f y=some (.int .i64 i)):Turns P Q n f w {dst,op:=.call {callee:=.builtin .delete,args:=#[x,y],argTypes:=#[t,ts]},type:=ty,pos,after:=af,guard:=gd} (fun _ w'=>St (L.set k (mblk b (mdel kv i))) w0 w'):=by
 obtain ⟨es,clock,hb,hE⟩:=mblkAt k hs hL
 have hf:=run_findKey (P:=P) (w:=w) hk (hE.find i .nilIface 0)
 have hck:=run_checkKey (P:=P) (w:=w) hk (isKeyI (x:=i)) es.isEmpty 9999
 cases hm:mhas kv i with
 |true=>
  have hlt:=mpos_lt hm
  have hr:(Builtin.delete_ #[t,ts] ty #[.map (some b),.int .i64 i]).run P w=.ok (.tuple #[]) {w with heap:=w.heap.setIfInBounds b (.map (es.eraseIdxIfInBounds (mpos kv i)) clock)}:=by
   unfold Builtin.delete_
   simp [Sem.run_bind,run_underlying ht,Result.andThen_ok,Go.MapKept.run_getObj_map hb,hck,hf,hm,Go.MapKept.run_setObj_map _ hb]
  refine Y.run (fun a ha=>by simp [execOp,resolve,invoke,builtin,ha.ev ex,ha.ev ey,hr];exact ⟨rfl,rfl⟩) (St.mapTurn k hs hL hb ?_)
  have hl:=hE.len
  have h0:mpos kv i<es.size:=by simp at hl;omega
  have:=hE.erase hm
  simpa [Array.eraseIdxIfInBounds,h0] using this
 |false=>
  have hr:(Builtin.delete_ #[t,ts] ty #[.map (some b),.int .i64 i]).run P w=.ok (.tuple #[]) {w with heap:=w.heap.setIfInBounds b (.map es clock)}:=by
   unfold Builtin.delete_
   simp [Sem.run_bind,run_underlying ht,Result.andThen_ok,Go.MapKept.run_getObj_map hb,hck,hf,hm,Go.MapKept.run_setObj_map _ hb]
  refine Y.run (fun a ha=>by simp [execOp,resolve,invoke,builtin,ha.ev ex,ha.ev ey,hr];exact ⟨rfl,rfl⟩) (St.mapTurn k hs hL hb ?_)
  rw [mdel_none hm];exact hE
theorem Y.clearMap (k:Nat) {t kt et:TypeId} {x:Operand} {b:Nat} {kv:List (Int × Value)} (ht:P.underlying t=some (.map kt et)) (hs:St L w0 w) (hL:L[k]?=some (mblk b kv)) (ex:ev f x=some (.map (some b))):
  Turns P Q n f w {dst,op:=.call {callee:=.builtin .clear,args:=#[x],argTypes:=#[t]},type:=ty,pos,after:=af,guard:=gd} (fun _ w'=>St (L.set k (mblk b [])) w0 w'):=by
 obtain ⟨es,clock,hb,hE⟩:=mblkAt k hs hL
 have hr:(Builtin.clear_ #[t] ty #[.map (some b)]).run P w=.ok (.tuple #[]) {w with heap:=w.heap.setIfInBounds b (.map #[] clock)}:=by
  unfold Builtin.clear_
  simp [Sem.run_bind,run_underlying ht,Go.MapKept.run_getObj_map hb,Go.MapKept.run_setObj_map _ hb]
 exact Y.run (v:=.tuple #[]) (fun a ha=>by simp [execOp,resolve,invoke,builtin,ha.ev ex,hr]) (St.mapTurn (es':=#[]) (c':=clock) k hs hL hb rfl)
theorem Y.makeMap {t:TypeId} (hs:St L w0 w):Turns P Q n f w {dst,op:=.makeMap t none,type:=ty,pos,after:=af,guard:=gd} (fun u w'=>∃b,u=.map (some b)∧St (mblk b []::L) w0 w'):=
 Y.run (w':=w.alloc (.map #[] 0)) (fun b ha=>by simp [execOp,Instr.makeMap,newObj,Sem.run]) ⟨w.heap.size,rfl,(hs.allocO (.map #[] 0)).mono fun h t=>⟨_,_,t,rfl⟩⟩
theorem St.tieM_put {kv:List (Int × Value)} {m:List (Int × α)} {v:Value} {x:α} (k:Int) (hs:St (E.p [v] x::tieM E kv m::L) w0 w):St (tieM E (mput kv k v) (mput m k x)::L) w0 w:=by
 have h1:St (Sp [E.p [v] x,tieM E kv m]::L) w0 w:=St.join (m:=[_,_]) hs
 refine h1.mono fun h ⟨h1,h2,_,e1,e2,hf,h3,h4,_,e3,_,ht,_⟩=>?_
 exact tieM.put k (E.mono hf e1) (tieM.mono ht (e3.trans e2))
theorem St.tieM_del {kv:List (Int × Value)} {m:List (Int × α)} (k:Int) (hs:St (tieM E kv m::L) w0 w):St (tieM E (mdel kv k) (mdel m k)::L) w0 w:=hs.mono fun h t=>tieM.del k t
theorem St.tieM_get {kv:List (Int × Value)} {m:List (Int × α)} (j:Nat) (k:Int) {z:Value} {d:α} (hz:∀h,E.p [z] d h) (hs:St L w0 w) (hL:L[j]?=some (tieM E kv m)):St (E.p [mget kv k z] (mget m k d)::L) w0 w:=hs.more j hL (fun h t=>tieM.get k (hz h) t) E.pers
theorem St.tieM_has {kv:List (Int × Value)} {m:List (Int × α)} (j:Nat) (k:Int) (hs:St L w0 w) (hL:L[j]?=some (tieM E kv m)):mhas kv k=mhas m k:=hs.tells j hL fun h t _=>tieM.has k t
theorem St.tieM_len {kv:List (Int × Value)} {m:List (Int × α)} (j:Nat) (hs:St L w0 w) (hL:L[j]?=some (tieM E kv m)):kv.length=m.length:=hs.tells j hL fun h t _=>tieM.len t
theorem sl_zero {E:El α}:∀h,(El.sl E).p [.slice none 0 0] [] h:=fun h=>⟨_,[],rfl,⟨none,0,rfl,by simp,fun _=>⟨rfl,rfl⟩,Nat.le_refl _,fun _ h=>nomatch h⟩,tie.nil⟩
end
section
variable {P:Program} {ops:Array Oper} {n:Nat} {Q:Exit→Act→World→Prop} {l:List Oper} {f:Fr} {w w0:World} {L:List As}
variable {dst:Option Tmp} {gd:Option (Nat × Bool)} {ty:TypeId} {pos:String} {af:Array Edge} {e:TypeId}
theorem Y.makeSl {α:Type} (d:α) {g:α→Value} {t:TypeId} {x y:Operand} {N:Int} {z:Value} {bytes:Nat} (ht:P.underlying t=some (.slice e)) (hinf:(P.info? e).map (fun i=>(i.zero,i.size,i.bytes))=some (some z,1,bytes)) (hz:z.cells=#[g d]) (hs:St L w0 w)
  (ex:ev f x=some (.int .i64 N)) (ey:ev f y=some (.int .i64 N)) (h0:0≤N∧N≤1099511627776) (hb:bytes≤100):Turns P Q n f w {dst,op:=.makeSlice t x y,type:=ty,pos,after:=af,guard:=gd}
   (fun u w'=>∃a c,u=.slice a (List.replicate N.toNat d).length c∧St (row e 1 (.slice a (List.replicate N.toNat d).length c) (List.replicate N.toNat d).length ((List.replicate N.toNat d).map g)::L) w0 w'):=by
 obtain ⟨i,hi,h1,h2,h3⟩:=info_parts' hinf
 have hw:IntKind.i64.wrap N=N:=w64_in ⟨by omega,by omega⟩
 have hbN:(bytes:Int)*N≤281474976710656:=by
  have:(bytes:Int)*N≤100*N:=Int.mul_le_mul_of_nonneg_right (by omega) h0.1
  omega
 have n1:¬N<0:=by omega
 have n2:¬(281474976710656<(i.bytes:Int)*N):=by rw [h3];omega
 have hA:∀A:Array Value,(if N.toNat=0 then (#[]:Array Value) else z.cells)=A→(Array.range N.toNat).map (fun j=>A[j%A.size]!)=((List.replicate N.toNat d).map g).toArray:=by
  intro A hA
  by_cases hN:N.toNat=0
  ·rw [hN];simp
  ·rw [if_neg hN,hz] at hA
   subst hA
   apply Array.ext'
   simp only [Array.toList_map,Array.toList_range,List.map_replicate]
   apply List.ext_getElem
   ·simp
   ·intro j hj1 hj2
    simp [Nat.mod_one]
 have hrun:(Instr.makeSlice t (.int .i64 N) (.int .i64 N)).run P w=.ok (.slice (some ⟨w.heap.size,0,none⟩) N.toNat N.toNat) (w.alloc (.cells ((List.replicate N.toNat d).map g).toArray e)):=by
  unfold Instr.makeSlice
  by_cases hN:N.toNat=0
  ·have hA':=hA #[] (by simp [hN])
   simp [Sem.run_bind,run_underlying ht,asInt,asIntOf,typeInfo,hi,hw,n1,n2,sizeOf,h2,hN,newRow,newObj,Sem.run]
   rw [show Array.map (fun _=>(default:Value)) (Array.range 0)=#[] by simp]
  ·have hA':=hA z.cells (by simp [hN])
   simp [Sem.run_bind,run_underlying ht,asInt,asIntOf,typeInfo,hi,hw,n1,n2,sizeOf,h2,hN,zeroValue,h1,newRow,newObj,Sem.run]
   rw [hA'];simp
 refine Y.run (fun a ha=>by simp [execOp,ha.ev ex,ha.ev ey,hrun];exact ⟨rfl,rfl⟩) ⟨_,N.toNat,by rw [List.length_replicate],?_⟩
 have:=(hs.alloc ((List.replicate N.toNat d).map g).toArray e).row_of_blk (size:=1) (n:=N.toNat) (cap:=N.toNat) (off:=0) (xs:=(List.replicate N.toNat d).map g) (by simp) (Nat.le_refl _) (by unfold maxLen;omega) (by simp) (by simp only [List.drop_zero];exact List.take_of_length_le (by simp))
 simpa using this
end
end Go.Proofs.YtaejcbpijdacmaaGreat.Walk

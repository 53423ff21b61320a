/- A base for the walks of this seat: equality of structs, rows of things that lie elsewhere, deletion in place. It speaks of no program. -/
import Derived.Test.YtaejcbpijdacmaaGreatOps
import Derived.Laws.StructEq
set_option linter.all false
namespace Go.Proofs.YtaejcbpijdacmaaGreat.Walk
open Go.RowKit Go.Proofs.YtaejcbpijdacmaaGreat.Sep
section
variable {α:Type} {P:Program} {ops:Array Oper} {n:Nat} {Q:Exit→Act→World→Prop} {l:List Oper} {f:Fr} {w w0:World} {L:List As} {A B:As}
variable {dst:Option Tmp} {gd:Option (Nat × Bool)} {ty:TypeId} {pos:String} {af:Array Edge} {e:TypeId} {kd:IntKind}
theorem W.again (t:Nat) {v:Value} (h:look f t=some v) (k:W P ops n Q l ((t,v)::f) w):W P ops n Q l f w:=fun a ha=>k a ⟨ha.dfr,ha.size,fun s u e=>by
 simp only [look] at e
 cases hb:Nat.beq t s with
 |false=>rw [hb] at e;exact ha.holds s u e
 |true=>
  rw [hb] at e
  have:t=s:=Nat.eq_of_beq_eq_true hb
  subst this
  simp at e;subst e;exact ha.holds t v h⟩
theorem St.tie_cons {α:Type} {E:El α} {c cs:List Value} {x:α} {xs:List α} (hs:St (E.p c x::tie E cs xs::L) w0 w):St (tie E (c++cs) (x::xs)::L) w0 w:=by
 have h1:St (Sp [E.p c x,tie E cs xs]::L) w0 w:=St.join (m:=[_,_]) hs
 refine h1.mono fun h ⟨h1,h2,_,e1,e2,hf,h3,h4,_,e3,_,ht,_⟩=>?_
 exact tie.append (tie.one1 (E.mono hf e1)) (tie.mono ht (e3.trans e2))
theorem St.tie_app {α:Type} {E:El α} {cs ds:List Value} {xs ys:List α} (k:Nat) (hs:St (tie E cs xs::L) w0 w) (hk:(tie E cs xs::L)[k]?=some (tie E ds ys)):St (tie E (cs++ds) (xs++ys)::L) w0 w:=by
 have h1:=hs.more k hk (fun h t=>t) tie.pers
 have h2:St (tie E cs xs::tie E ds ys::L) w0 w:=St.swap h1
 have h3:St (Sp [tie E cs xs,tie E ds ys]::L) w0 w:=St.join (m:=[_,_]) h2
 refine h3.mono fun h ⟨h1,h2,_,e1,e2,hf,h3,h4,_,e3,_,ht,_⟩=>?_
 exact tie.append (tie.mono hf e1) (tie.mono ht (e3.trans e2))
theorem St.tie_cut {α:Type} {E:El α} {cs:List Value} {xs:List α} (i j:Int) (hs:St (tie E cs xs::L) w0 w):St (tie E (cutC E.n cs i j) (cut xs i j)::L) w0 w:=hs.mono fun h t=>tie.cut i j t
theorem St.tie_cut2 {α:Type} {E:El α} {cs:List Value} {xs:List α} (k:Nat) (i j:Int) (hs:St L w0 w) (hk:L[k]?=some (tie E cs xs)):St (tie E (cutC E.n cs i j) (cut xs i j)::L) w0 w:=hs.more k hk (fun h t=>tie.cut i j t) tie.pers
theorem fsl.cut {α:Type} {sz c:Nat} {a:Option Addr} {cs:List Value} {xs:List α} {i j:Int} {h:Hp} (hf:fsl sz (.slice a xs.length c) xs.length cs h) (hb:0≤i∧i≤j∧j≤(xs.length:Int)):
  fsl sz (.slice (vaddr a c i.toNat sz) (Walk.cut xs i j).length (c-i.toNat)) (Walk.cut xs i j).length (cutC sz cs i j) h:=
 rdC.sub (A:=fun k=>k=h.fz) (fun k e=>by subst e;exact hf) hb _ rfl
theorem St.tie_one {α:Type} {E:El α} {cs:List Value} {xs:List α} (k:Nat) (hs:St L w0 w) (hk:L[k]?=some (tie E cs xs)):∀u∈cs,u.oneCell'=true:=hs.tells k hk fun h t _=>tie.one t
theorem Y.storeRowN {α:Type} (g:α→Value) (hg:∀x,(g x).oneCell'=true) (k:Nat) {t:TypeId} {x y:Operand} {b o c:Nat} {i:Int} {v:α} {xs:List α} (hs:St L w0 w) (hL:L[k]?=some (row e 1 (.slice (some ⟨b,o,none⟩) xs.length c) xs.length (xs.map g))) (hz:(P.info? t).map (·.size)=some 1) (ex:ev f x=some (.pointer (some ⟨b,o+i.toNat*1,none⟩))) (ey:ev f y=some (g v))
  (h0:0≤i) (h1:i<(xs.length:Int)):Turns P Q n f w {dst,op:=.store t x y,type:=ty,pos,after:=af,guard:=gd} (fun _ w'=>St (L.set k (row e 1 (.slice (some ⟨b,o,none⟩) xs.length c) xs.length ((xs.set i.toNat v).map g))) w0 w'):=by
 have h:=Y.storeRow (P:=P) (Q:=Q) (n:=n) (f:=f) (dst:=dst) (gd:=gd) (ty:=ty) (pos:=pos) (af:=af) k hs hL hz ex ey (hg v) h0 h1
 rw [set_map] at h
 exact h
theorem At.again {ex:Exit} (t:Nat) {v:Value} (h:look f t=some v) (k:At n Q ex ((t,v)::f) w):At n Q ex f w:=fun a ha=>k a ⟨ha.dfr,ha.size,fun s u e=>by
 simp only [look] at e
 cases hb:Nat.beq t s with
 |false=>rw [hb] at e;exact ha.holds s u e
 |true=>
  rw [hb] at e
  have:t=s:=Nat.eq_of_beq_eq_true hb
  subst this
  simp at e;subst e;exact ha.holds t v h⟩
theorem X.slC {t et:TypeId} {x lx hx:Operand} {k k':IntKind} {i j:Int} {a:Option Addr} {m c sz:Nat} (ht:P.underlying t=some (.slice et)) (hz:(P.info? et).map (·.size)=some sz) (ex:ev f x=some (.slice a m c)) (el:ev f lx=some (.int k i)) (eh:ev f hx=some (.int k' j))
  (h:0≤i∧i≤j) (hc:j≤(c:Int)):Runs P n f w {dst,op:=.slice t x (some lx) (some hx) none,type:=ty,pos,after:=af,guard:=gd} (.slice (vaddr a c i.toNat sz) (j.toNat-i.toNat) (c-i.toNat)):=fun b ha=>by
 cases hi:P.info? et with
 |none=>simp [hi] at hz
 |some inf=>
  have hsz:inf.size=sz:=by simpa [hi] using hz
  subst hsz
  have ht':P.underlying t=some (.slice (P.elem t)):=by rw [elem_of ht];exact ht
  simp [execOp,ha.ev ex,ha.ev el,ha.ev eh,Instr.sliceAt,run_underlying ht,run_slice_lh (P:=P) (w:=w) (t:=t) (a:=a) (len:=m) (cap:=c) ht' k k' i j h.1 h.2 hc,elem_of ht,sizeOf,typeInfo,hi,sliced,vaddr]
theorem X.sl3 {t et:TypeId} {x lx hx mx:Operand} {k k' k'':IntKind} {i j m:Int} {a:Option Addr} {l c sz:Nat} (ht:P.underlying t=some (.slice et)) (hz:(P.info? et).map (·.size)=some sz) (ex:ev f x=some (.slice a l c)) (el:ev f lx=some (.int k i)) (eh:ev f hx=some (.int k' j)) (em:ev f mx=some (.int k'' m))
  (h:0≤i∧i≤j∧j≤m) (hc:m≤(c:Int)):Runs P n f w {dst,op:=.slice t x (some lx) (some hx) (some mx),type:=ty,pos,after:=af,guard:=gd} (.slice (vaddr a m.toNat i.toNat sz) (j.toNat-i.toNat) (m.toNat-i.toNat)):=fun b ha=>by
 cases hi:P.info? et with
 |none=>simp [hi] at hz
 |some inf=>
  have hsz:inf.size=sz:=by simpa [hi] using hz
  subst hsz
  obtain ⟨h1,h2,h3⟩:=h
  have e1:(j.toNat:Int)=j:=by omega
  have e2:(m.toNat:Int)=m:=by omega
  simp [execOp,ha.ev ex,ha.ev el,ha.ev eh,ha.ev em,Instr.sliceAt,run_underlying ht,Instr.slice,Instr.sliceBounds,run_sliceBound,h1,h2,h3,hc,e1,e2,(by omega:0≤j),(by omega:0≤m),sizeOf,typeInfo,hi,vaddr]
theorem vaddr0 {g o c sz:Nat}:vaddr (some ⟨g,o,none⟩) c (0:Int).toNat sz=some ⟨g,o,none⟩:=by
 unfold vaddr
 split
 ·rfl
 ·simp [Addr.add]
theorem Y.appDel {α:Type} (k:Nat) {s x:Operand} {t:TypeId} {z:Value} {sz bytes:Nat} (ht:P.underlying t=some (.slice e)) (hinf:(P.info? e).map (fun i=>(i.zero,i.size,i.bytes))=some (some z,sz,bytes)) (hsz:0<sz)
  {xs:List α} {cs:List Value} {a:Option Addr} {c:Nat} (hs:St L w0 w) (hL:L[k]?=some (row e sz (.slice a xs.length c) xs.length cs)) {i j:Int} (hij:0≤i∧i<j∧j≤(xs.length:Int))
  (ev1:ev f s=some (.slice (vaddr a c (0:Int).toNat sz) (cut xs 0 i).length (c-(0:Int).toNat))) (ev2:ev f x=some (.slice (vaddr a c j.toNat sz) (cut xs j (xs.length:Int)).length (c-j.toNat))) (h1:∀u∈cs,u.oneCell'=true):
  Turns P Q n f w {dst,op:=.call {callee:=.builtin .append,args:=#[s,x],argTypes:=#[t,t]},type:=ty,pos,after:=af,guard:=gd} (fun u w'=>u=.slice a (cut xs 0 i++cut xs j (xs.length:Int)).length c∧St (L.set k (row e sz (.slice a (cut xs 0 i++cut xs j (xs.length:Int)).length c) (cut xs 0 i++cut xs j (xs.length:Int)).length (cutC sz cs 0 i++cutC sz cs j (xs.length:Int)))) w0 w'):=by
 obtain ⟨inf,hi,hz',h2',h3'⟩:=info_parts' hinf
 subst h2'
 have hf:=hs.front k hL
 obtain ⟨hx,⟨a',hv,hn,hc⟩|⟨g,off,cap,cur,hv,hc,hm,hb,hs',htk⟩⟩:=hf.row_cases
 ·omega
 simp only [Value.slice.injEq,true_and] at hv
 obtain ⟨rfl,rfl⟩:=hv
 obtain ⟨i0,i1,i2⟩:=hij
 have hcl:cur.toList.length=cur.size:=Array.length_toList
 have hl1:(cut xs 0 i).length=i.toNat:=by rw [cut_len ⟨Int.le_refl 0,i0,by omega⟩];simp
 have hl2:(cut xs j (xs.length:Int)).length=xs.length-j.toNat:=by rw [cut_len ⟨by omega,i2,Int.le_refl _⟩];simp
 rw [vaddr0] at ev1
 have hj:c-(0:Int).toNat=c:=by simp
 rw [hj] at ev1
 -- what is moved
 have hnl:(cutC inf.size cs j (xs.length:Int)).length=(xs.length-j.toNat)*inf.size:=by
  unfold cutC
  have h3:j.toNat*inf.size+(xs.length-j.toNat)*inf.size=xs.length*inf.size:=by rw [←Nat.add_mul];congr 1;omega
  rw [List.length_take,List.length_drop,hx];simp only [Int.toNat_natCast];omega
 obtain ⟨sa,hsa⟩:∃sa,vaddr (some ⟨g,off,none⟩) c j.toNat inf.size=some sa:=by
  unfold vaddr;split<;>exact ⟨_,rfl⟩
 have hrd:rdC (row e inf.size (.slice (some ⟨g,off,none⟩) xs.length c) xs.length cs) inf.size _ _ _:=rdC.sub (row_rd (e:=e)) (i:=j) (j:=(xs.length:Int)) ⟨by omega,i2,Int.le_refl _⟩
 have hrc:=rdC.at k hrd hs hL
 have hroom:i.toNat+(xs.length-j.toNat)≤c:=by omega
 have hfit:off+i.toNat*inf.size+(cutC inf.size cs j (xs.length:Int)).length≤cur.size:=by
  have:(i.toNat+(xs.length-j.toNat))*inf.size≤c*inf.size:=Nat.mul_le_mul_right _ hroom
  rw [Nat.add_mul] at this;omega
 have hone:∀u∈cutC inf.size cs j (xs.length:Int),u.oneCell'=true:=fun u hu=>h1 u (List.mem_of_mem_drop (List.mem_of_mem_take hu))
 have hsrc:∀j' u,(cutC inf.size cs j (xs.length:Int))[j']?=some u→w.cell? (sa.add j')=some u:=hrc.src sa hsa
 have hr:=run_append_room_cells (P:=P) w t ty e inf ht hi g off i.toNat c sa (xs.length-j.toNat) (c-j.toNat) (cutC inf.size cs j (xs.length:Int)) hnl hsrc hone hroom (fun j' hj'=>by rw [hb.cell];simp;omega) (fun j' _=>hb.free _)
 rw [hl1] at ev1
 rw [hl2,hsa] at ev2
 refine Y.run (fun a ha=>by simp [execOp,resolve,invoke,builtin,ha.ev ev1,ha.ev ev2,hr];exact ⟨rfl,rfl⟩) ?_
 have hlen:(cut xs 0 i++cut xs j (xs.length:Int)).length=i.toNat+(xs.length-j.toNat):=by rw [List.length_append,hl1,hl2]
 rw [hlen]
 refine ⟨rfl,St.back k hL ?_⟩
 have hcut0:(cutC inf.size cs 0 i)=cs.take (i.toNat*inf.size):=by unfold cutC;simp
 refine (St.setCells _ (off+i.toNat*inf.size) cur w hb).row_of_blk (by
  rw [List.length_append,hnl,hcut0,List.length_take,hx,Nat.add_mul]
  have:i.toNat*inf.size≤xs.length*inf.size:=Nat.mul_le_mul_right _ (by omega)
  omega) hroom hm (by rw [size_setMany];exact hs') ?_
 rw [toList_setMany _ _ _ hfit]
 have e1:(cur.toList.take (off+i.toNat*inf.size)).length=off+i.toNat*inf.size:=by rw [List.length_take];omega
 rw [List.append_assoc,List.drop_append,show off-(cur.toList.take (off+i.toNat*inf.size)).length=0 by omega,List.drop_zero,←List.append_assoc]
 have e2:(cur.toList.take (off+i.toNat*inf.size)).drop off=cs.take (i.toNat*inf.size):=by
  rw [List.drop_take,show off+i.toNat*inf.size-off=i.toNat*inf.size by omega,←htk,List.take_take]
  congr 1
  have:i.toNat*inf.size≤xs.length*inf.size:=Nat.mul_le_mul_right _ (by omega)
  omega
 rw [e2,hcut0]
 have e3:(i.toNat+(xs.length-j.toNat))*inf.size=(cs.take (i.toNat*inf.size)++cutC inf.size cs j (xs.length:Int)).length:=by
  rw [List.length_append,hnl,List.length_take,hx,Nat.add_mul]
  have:i.toNat*inf.size≤xs.length*inf.size:=Nat.mul_le_mul_right _ (by omega)
  omega
 rw [e3]
 exact List.take_left
theorem Y.appDelF {α:Type} (g:α→Value) (hg:∀x,(g x).oneCell'=true) (k:Nat) {s x:Operand} {t:TypeId} {z:Value} {bytes:Nat} (ht:P.underlying t=some (.slice e)) (hinf:(P.info? e).map (fun i=>(i.zero,i.size,i.bytes))=some (some z,1,bytes))
  {xs:List α} {a:Option Addr} {c:Nat} (hs:St L w0 w) (hL:L[k]?=some (row e 1 (.slice a xs.length c) xs.length (xs.map g))) {i j:Int} (hij:0≤i∧i<j∧j≤(xs.length:Int))
  (ev1:ev f s=some (.slice (vaddr a c (0:Int).toNat 1) (cut xs 0 i).length (c-(0:Int).toNat))) (ev2:ev f x=some (.slice (vaddr a c j.toNat 1) (cut xs j (xs.length:Int)).length (c-j.toNat))):
  Turns P Q n f w {dst,op:=.call {callee:=.builtin .append,args:=#[s,x],argTypes:=#[t,t]},type:=ty,pos,after:=af,guard:=gd} (fun u w'=>u=.slice a (cut xs 0 i++cut xs j (xs.length:Int)).length c∧St (L.set k (row e 1 (.slice a (cut xs 0 i++cut xs j (xs.length:Int)).length c) (cut xs 0 i++cut xs j (xs.length:Int)).length ((cut xs 0 i++cut xs j (xs.length:Int)).map g))) w0 w'):=by
 have h:=Y.appDel (P:=P) (Q:=Q) (n:=n) (f:=f) (dst:=dst) (gd:=gd) (ty:=ty) (pos:=pos) (af:=af) k ht hinf (by decide) hs hL hij ev1 ev2 (fun u hu=>by obtain ⟨x,_,rfl⟩:=List.mem_map.1 hu;exact hg x)
 rw [cutC_map,cutC_map,←List.map_append] at h
 exact h
theorem zeroCells_one {z:Value} (hz:z.cells.toList.all (·.oneCell')=true) (n:Nat):∀u∈(Builtin.zeroCells z.cells n).toList,u.oneCell'=true:=by
 intro u hu
 unfold Builtin.zeroCells at hu
 have hz':∀u∈z.cells,u.oneCell'=true:=fun u hu=>List.all_eq_true.1 hz u (Array.mem_toList_iff.2 hu)
 simp at hu
 obtain ⟨i,hi,rfl⟩:=hu
 by_cases h0:z.cells.size=0
 ·simp [h0] at hi
 ·have:i%z.cells.size<z.cells.size:=Nat.mod_lt _ (by omega)
  simp [this]
  exact hz' _ (Array.getElem_mem this)
theorem Y.clearTail (k:Nat) {x:Operand} {t:TypeId} {z:Value} {sz bytes:Nat} (ht:P.underlying t=some (.slice e)) (hinf:(P.info? e).map (fun i=>(i.zero,i.size,i.bytes))=some (some z,sz,bytes)) (hzs:z.cells.size=sz) (hz1:z.cells.toList.all (·.oneCell')=true)
  {m c n0:Nat} {cs:List Value} {a:Option Addr} (hs:St L w0 w) (hL:L[k]?=some (row e sz (.slice a m c) m cs)) (hmn:m≤n0) (hn:n0≤c) (ex:ev f x=some (.slice (vaddr a c m sz) (n0-m) (c-m))):
  Turns P Q n f w {dst,op:=.call {callee:=.builtin .clear,args:=#[x],argTypes:=#[t]},type:=ty,pos,after:=af,guard:=gd} (fun _ w'=>St L w0 w'):=by
 obtain ⟨inf,hi,hz',h2',h3'⟩:=info_parts' hinf
 subst h2'
 by_cases h0:n0-m=0
 ·rw [h0] at ex
  exact Y.run (v:=.tuple #[]) (fun a' ha=>by
   cases hva:vaddr a c m inf.size with
   |none=>rw [hva] at ex;simp [execOp,resolve,invoke,builtin,ha.ev ex,Builtin.clear_,run_underlying ht]
   |some b=>rw [hva] at ex;simp [execOp,resolve,invoke,builtin,ha.ev ex,Builtin.clear_,run_underlying ht]) hs
 ·have hf:=hs.front k hL
  obtain ⟨hx,⟨a',hv,hn',hc'⟩|⟨g,off,cap,cur,hv,hc,hm,hb,hs',htk⟩⟩:=hf.row_cases
  ·simp only [Value.slice.injEq] at hv;omega
  simp only [Value.slice.injEq,true_and] at hv
  obtain ⟨rfl,rfl⟩:=hv
  have hva:vaddr (some ⟨g,off,none⟩) c m inf.size=some ⟨g,off+m*inf.size,none⟩:=by
   unfold vaddr;rw [if_neg (by omega)];simp [Addr.add_lit]
  rw [hva] at ex
  have hzl:(Builtin.zeroCells z.cells (n0-m)).toList.length=(n0-m)*inf.size:=by
   rw [Array.length_toList,size_zeroCells,hzs]
  have hsum:m*inf.size+(n0-m)*inf.size=n0*inf.size:=by rw [←Nat.add_mul];congr 1;omega
  have hle:n0*inf.size≤c*inf.size:=Nat.mul_le_mul_right _ hn
  have hst:=run_storeCells_cells (P:=P) g (off+m*inf.size) (Builtin.zeroCells z.cells (n0-m)).toList 0 w (fun j hj=>by rw [hb.cell];simp;rw [hzl] at hj;omega) (fun j _=>hb.free _) (zeroCells_one hz1 _)
  simp only [Nat.add_zero] at hst
  have hne:n0-m=(n0-m-1)+1:=by omega
  refine Y.run (w':=w.setCells g (off+m*inf.size) (Builtin.zeroCells z.cells (n0-m)).toList) (v:=.tuple #[]) (fun a' ha=>?_) ?_
  ·have ha':=ha.ev ex
   have hrun:(Builtin.clear_ #[t] ty #[.slice (some ⟨g,off+m*inf.size,none⟩) (n0-m) (c-m)]).run P w=.ok (.tuple #[]) (w.setCells g (off+m*inf.size) (Builtin.zeroCells z.cells (n0-m)).toList):=by
    rw [hne] at hst ⊢
    simp [Builtin.clear_,run_underlying ht,zeroValue,typeInfo,hi,hz',hst]
   simp [execOp,resolve,invoke,builtin,ha',hrun]
  ·have h2:=St.setCells (Builtin.zeroCells z.cells (n0-m)).toList (off+m*inf.size) cur w hb
   have hfit:off+m*inf.size+(Builtin.zeroCells z.cells (n0-m)).toList.length≤cur.size:=by rw [hzl];omega
   have h3:=h2.row_of_blk (size:=inf.size) (n:=m) (off:=off) (cap:=c) (xs:=cs) hx hc hm (by rw [size_setMany];exact hs') (by
    rw [toList_setMany _ _ _ hfit]
    have e1:(cur.toList.take (off+m*inf.size)).length=off+m*inf.size:=by rw [List.length_take,Array.length_toList];omega
    rw [List.append_assoc,List.drop_append,show off-(cur.toList.take (off+m*inf.size)).length=0 by omega,List.drop_zero]
    have e2:(cur.toList.take (off+m*inf.size)).drop off=cs:=by
     rw [List.drop_take,show off+m*inf.size-off=m*inf.size by omega];exact htk
    rw [e2,←hx]
    exact List.take_left)
   have h4:=St.back k hL h3
   have h5:L.set k (row e inf.size (.slice (some ⟨g,off,none⟩) m c) m cs)=L:=by
    apply List.ext_getElem?
    intro i
    by_cases hik:k=i
    ·subst hik
     have hk:k<L.length:=(List.getElem?_eq_some_iff.1 hL).1
     rw [List.getElem?_set_self hk,hL]
    ·rw [List.getElem?_set_ne hik]
   rw [h5] at h4
   exact h4
end
end Go.Proofs.YtaejcbpijdacmaaGreat.Walk

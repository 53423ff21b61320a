/- A base for the walks of this seat: rows that are laid open, with the room behind them. It speaks of no program. -/
import Derived.Test.YtaejcbpijdacmaaGreatMaps
import Derived.Laws.IdiomCopy
import Derived.Laws.Externs
import Derived.Lib.Overlaps
import Derived.Lib.AppendZerosOnto
set_option linter.all false
namespace Go.Proofs.YtaejcbpijdacmaaGreat.Walk
open Go.RowKit Go.Lib Go.Proofs.YtaejcbpijdacmaaGreat.Sep
section
variable {P:Program} {ops:Array Oper} {n:Nat} {Q:Exit→Act→World→Prop} {l:List Oper} {f:Fr} {w w0:World} {L:List As}
variable {dst:Option Tmp} {gd:Option (Nat × Bool)} {ty:TypeId} {pos:String} {af:Array Edge} {e:TypeId}
theorem _root_.Go.Proofs.YtaejcbpijdacmaaGreat.Sep.St.row_open {a:Option Addr} {c m:Nat} {cs:List Value} (hs:St (row e 1 (.slice a m c) m cs::L) w0 w) (h0:0<m):
  ∃g off cur,a=some ⟨g,off,none⟩∧m≤c∧c≤maxLen∧off+c≤cur.size∧(cur.toList.drop off).take m=cs∧St (blk g cur e::L) w0 w:=by
 obtain ⟨hx,⟨a',hv,hn',hc'⟩|⟨g,off,cap,cur,hv,hc,hm,hb,hs',htk⟩⟩:=hs.row_cases
 ·omega
 ·simp only [Value.slice.injEq,true_and] at hv
  obtain ⟨rfl,rfl⟩:=hv
  exact ⟨g,off,cur,rfl,hc,hm,by omega,by simpa using htk,hb⟩
theorem _root_.Go.Proofs.YtaejcbpijdacmaaGreat.Sep.St.row_shut {g off c m:Nat} {cur:Array Value} {cs:List Value} (hs:St (blk g cur e::L) w0 w) (h1:m≤c) (h2:c≤maxLen) (h3:off+c≤cur.size) (h4:(cur.toList.drop off).take m=cs) (h5:cs.length=m):St (row e 1 (.slice (some ⟨g,off,none⟩) m c) m cs::L) w0 w:=
 hs.row_of_blk (by omega) h1 h2 (by omega) (by simpa using h4)
theorem X.cap {t et:TypeId} {x:Operand} {a:Option Addr} {m c:Nat} (ht:P.underlying t=some (.slice et)) (ex:ev f x=some (.slice a m c)):
  Runs P n f w {dst,op:=.call {callee:=.builtin .cap,args:=#[x],argTypes:=#[t]},type:=ty,pos,after:=af,guard:=gd} (.int .i64 (c:Int)):=fun b ha=>by
 simp [execOp,resolve,invoke,builtin,ha.ev ex,Builtin.cap_,run_underlying ht,goInt]
theorem X.rawL {t et:TypeId} {x lx:Operand} {k:IntKind} {i:Int} {b o m c:Nat} (ht:P.underlying t=some (.slice et)) (hz:(P.info? et).map (·.size)=some 1) (ex:ev f x=some (.slice (some ⟨b,o,none⟩) m c)) (el:ev f lx=some (.int k i))
  (h:0≤i∧i≤(m:Int)) (hc:i<(c:Int)):Runs P n f w {dst,op:=.slice t x (some lx) none none,type:=ty,pos,after:=af,guard:=gd} (.slice (some ⟨b,o+i.toNat,none⟩) (m-i.toNat) (c-i.toNat)):=fun a ha=>by
 cases hi:P.info? et with
 |none=>simp [hi] at hz
 |some inf=>
  have hsz:inf.size=1:=by simpa [hi] using hz
  have ht':P.underlying t=some (.slice (P.elem t)):=by rw [elem_of ht];exact ht
  have hne:¬(c=i.toNat):=by omega
  simp [execOp,ha.ev ex,ha.ev el,Instr.sliceAt,run_underlying ht,run_slice_l (P:=P) (w:=w) (t:=t) (a:=some ⟨b,o,none⟩) (len:=m) (cap:=c) ht' k i h.1 h.2,elem_of ht,sizeOf,typeInfo,hi,sliced,hsz,hne,Addr.add]
theorem X.rawH {t et:TypeId} {x hx:Operand} {k':IntKind} {j:Int} {b o m c:Nat} (ht:P.underlying t=some (.slice et)) (hz:(P.info? et).map (·.size)=some 1) (ex:ev f x=some (.slice (some ⟨b,o,none⟩) m c)) (eh:ev f hx=some (.int k' j))
  (h:0≤j∧j≤(c:Int)):Runs P n f w {dst,op:=.slice t x none (some hx) none,type:=ty,pos,after:=af,guard:=gd} (.slice (some ⟨b,o,none⟩) j.toNat c):=fun a ha=>by
 cases hi:P.info? et with
 |none=>simp [hi] at hz
 |some inf=>
  have hsz:inf.size=1:=by simpa [hi] using hz
  have ht':P.underlying t=some (.slice (P.elem t)):=by rw [elem_of ht];exact ht
  by_cases hc0:c=0
  ·subst hc0
   simp [execOp,ha.ev ex,ha.ev eh,Instr.sliceAt,run_underlying ht,run_slice_h (P:=P) (w:=w) (t:=t) (a:=some ⟨b,o,none⟩) (len:=m) (cap:=0) ht' k' j h.1 h.2,elem_of ht,sizeOf,typeInfo,hi,sliced,hsz]
  ·simp [execOp,ha.ev ex,ha.ev eh,Instr.sliceAt,run_underlying ht,run_slice_h (P:=P) (w:=w) (t:=t) (a:=some ⟨b,o,none⟩) (len:=m) (cap:=c) ht' k' j h.1 h.2,elem_of ht,sizeOf,typeInfo,hi,sliced,hsz,hc0,Addr.add]
theorem readO (k:Nat) {b off i m:Nat} {cur:Array Value} {cs:List Value} (hs:St L w0 w) (hL:L[k]?=some (blk b cur e)) (h4:(cur.toList.drop off).take m=cs) (hm:off+m≤cur.size) (hi:i≤m) (j:Nat) (u:Value) (hu:(cs.drop i)[j]?=some u):w.cell? ⟨b,off+i+j,none⟩=some u:=by
 rw [(hs.at k hL).cell]
 rw [←h4,List.getElem?_drop,List.getElem?_take] at hu
 split at hu
 ·rw [List.getElem?_drop] at hu
  rw [←Array.getElem?_toList,Nat.add_assoc];exact hu
 ·cases hu
theorem readO0 (k:Nat) {b off m:Nat} {cur:Array Value} {cs:List Value} (hs:St L w0 w) (hL:L[k]?=some (blk b cur e)) (h4:(cur.toList.drop off).take m=cs) (hm:off+m≤cur.size) (j:Nat) (u:Value) (hu:cs[j]?=some u):w.cell? ⟨b,off+j,none⟩=some u:=
 readO k (i:=0) hs hL h4 hm (Nat.zero_le _) j u hu
theorem Y.copyB (k:Nat) {d x:Operand} {t:TypeId} {b o m c sm sc b2 o2:Nat} {cur:Array Value} {ds:List Value} (ht:P.underlying t=some (.slice e)) (hz:(P.info? e).map (·.size)=some 1) (hs:St L w0 w) (hL:L[k]?=some (blk b cur e))
  (ed:ev f d=some (.slice (some ⟨b,o,none⟩) m c)) (ex:ev f x=some (.slice (some ⟨b2,o2,none⟩) sm sc)) (hr:∀j u,ds[j]?=some u→w.cell? ⟨b2,o2+j,none⟩=some u) (h1:∀u∈ds,u.oneCell'=true) (hlen:ds.length=sm∧sm≤m∨ds.length=m∧m≤sm) (hfit:o+ds.length≤cur.size):
  Turns P Q n f w {dst,op:=.call {callee:=.builtin .copy,args:=#[d,x],argTypes:=#[t,t]},type:=ty,pos,after:=af,guard:=gd} (fun u w'=>u=.int .i64 (ds.length:Int)∧St (L.set k (blk b (setMany cur o ds) e)) w0 w'):=by
 have hb:=hs.at k hL
 have hrun:(Builtin.copy_ #[t,t] ty #[.slice (some ⟨b,o,none⟩) m c,.slice (some ⟨b2,o2,none⟩) sm sc]).run P w=.ok (goInt ds.length) (w.setCells b o ds):=
  run_copy_cells w t t ty e b o m c ⟨b2,o2,none⟩ sm sc ds ht hz (by simp only [Nat.min_def];split<;>omega)
   (fun j v hj=>by rw [Addr.add_lit];exact hr j v hj)
   (fun j hj=>by rw [hb.cell];rw [Array.getElem?_eq_getElem (by omega)];rfl)
   (fun j _=>hb.free _) h1
 refine Y.run (fun a ha=>by simp [execOp,resolve,invoke,builtin,ha.ev ed,ha.ev ex,hrun];exact ⟨rfl,rfl⟩) ⟨rfl,?_⟩
 exact St.back k hL (St.setCells ds o cur w hb)
theorem Y.appZ (k:Nat) {s x:Operand} {t tn:TypeId} {z:Value} {bytes b o m c kk:Nat} {cur:Array Value} (ht:P.underlying t=some (.slice e)) (htn:P.underlying tn=some (.int .i64)) (hinf:(P.info? e).map (fun i=>(i.zero,i.size,i.bytes))=some (some z,1,bytes)) (hzs:z.cells.size=1) (hs:St L w0 w)
  (hL:L[k]?=some (blk b cur e)) (es:ev f s=some (.slice (some ⟨b,o,none⟩) m c)) {kI:Int} (ex:ev f x=some (.int .i64 kI)) (hI:kI=(kk:Int)) (hg:c<m+kk) (hfit:o+m≤cur.size) (h0:0<kk) (h63:m+kk≤1099511627776) (hby:bytes≤100):
  Turns P Q n f w {dst,op:=.call {callee:=.builtin .append,args:=#[s,x],argTypes:=#[t,tn]},type:=ty,pos,after:=af,guard:=gd}
   (fun u w'=>∃g c2 ROW,u=.slice (some ⟨g,0,none⟩) (m+kk) c2∧m+kk≤c2∧c2≤maxLen∧c2≤ROW.size∧ROW.toList.take m=(cur.toList.drop o).take m∧St (blk g ROW e::L) w0 w'):=by
 subst hI
 obtain ⟨i,hi,h1,h2,h3⟩:=info_parts' hinf
 have hb:=hs.at k hL
 have hl:((cur.toList.drop o).take m).length=m:=by rw [List.length_take,List.length_drop,Array.length_toList];omega
 have hmul:∀a:Nat,a≤2000000000000→a*i.bytes≤200000000000000:=by
  intro a ha
  have h4:a*i.bytes≤a*100:=Nat.mul_le_mul_left a (by omega)
  omega
 have hb2:(m+kk)*i.bytes≤140737488355328:=by
  have h4:(m+kk)*i.bytes≤(m+kk)*100:=Nat.mul_le_mul_left _ (by omega)
  omega
 have hb3:kk*i.bytes≤281474976710656:=Nat.le_trans (Nat.mul_le_mul_right _ (by omega:kk≤m+kk)) (by omega)
 have hold:(Builtin.firstCells i.size m (.slice (some ⟨b,o,none⟩) m c)).run P w.drew=.ok ((cur.toList.drop o).take m).toArray w.drew:=by
  rw [h2]
  exact run_firstCells_some (P:=P) w.drew 1 m ⟨b,o,none⟩ m c ((cur.toList.drop o).take m) (by omega) (fun j u hu=>by
   rw [Addr.add_lit]
   show w.cell? _=_
   rw [hb.cell]
   rw [List.getElem?_take] at hu
   split at hu
   ·rw [List.getElem?_drop] at hu
    rw [←Array.getElem?_toList];exact hu
   ·cases hu)
 have hr:=run_append_grow_zeros (P:=P) w t tn ty e i z .i64 .i64 ht htn hi h1 (some ⟨b,o,none⟩) m c ((cur.toList.drop o).take m) hold kk h0 (by omega) hg (by omega) hb3 (growslice_fits hg hb2)
 have hge:=grownCap_ge w (m+kk) c e
 have hle:=grownCap_le_maxLen w (m+kk) c e (by unfold maxLen;omega)
 generalize grownCap w (m+kk) c e=G at *
 refine Y.run (fun a ha=>by simp [execOp,resolve,invoke,builtin,ha.ev es,ha.ev ex,hr];first|exact ⟨rfl,rfl⟩|rfl) ⟨w.heap.size,G,_,rfl,hge,hle,?_,?_,hs.drew.alloc _ e⟩
 ·simp only [Array.size_append,List.size_toArray,size_zeroCells,hzs,hl];omega
 ·simp only [Array.toList_append,List.append_assoc]
  exact (List.take_append_of_le_length (by omega)).trans (List.take_of_length_le (by omega))
theorem Y.appN {s x:Operand} {t tn:TypeId} {z:Value} {bytes kk:Nat} (ht:P.underlying t=some (.slice e)) (htn:P.underlying tn=some (.int .i64)) (hinf:(P.info? e).map (fun i=>(i.zero,i.size,i.bytes))=some (some z,1,bytes)) (hzs:z.cells.size=1) (hs:St L w0 w)
  (es:ev f s=some (.slice none 0 0)) {kI:Int} (ex:ev f x=some (.int .i64 kI)) (hI:kI=(kk:Int)) (h0:0<kk) (h63:kk≤1099511627776) (hby:bytes≤100):
  Turns P Q n f w {dst,op:=.call {callee:=.builtin .append,args:=#[s,x],argTypes:=#[t,tn]},type:=ty,pos,after:=af,guard:=gd}
   (fun u w'=>∃g c2 ROW,u=.slice (some ⟨g,0,none⟩) kk c2∧kk≤c2∧c2≤maxLen∧c2≤ROW.size∧St (blk g ROW e::L) w0 w'):=by
 subst hI
 obtain ⟨i,hi,h1,h2,h3⟩:=info_parts' hinf
 have hb3:kk*i.bytes≤281474976710656:=by
  have h4:kk*i.bytes≤kk*100:=Nat.mul_le_mul_left _ (by omega)
  omega
 have hr:=run_append_nil_zeros (P:=P) w t tn ty e i z .i64 .i64 ht htn hi h1 kk h0 (by omega) (by omega) hb3
 have hge:=grownCap_ge w kk 0 e
 have hle:=grownCap_le_maxLen w kk 0 e (by unfold maxLen;omega)
 generalize grownCap w kk 0 e=G at *
 refine Y.run (fun a ha=>by simp [execOp,resolve,invoke,builtin,ha.ev es,ha.ev ex,hr];first|exact ⟨rfl,rfl⟩|rfl) ⟨w.heap.size,G,_,rfl,hge,hle,?_,hs.drew.alloc _ e⟩
 simp only [Array.size_append,size_zeroCells,hzs];omega
theorem X.nilH {t et:TypeId} {x hx:Operand} {k':IntKind} (ht:P.underlying t=some (.slice et)) (hz:(P.info? et).map (·.size)=some 1) (ex:ev f x=some (.slice none 0 0)) (eh:ev f hx=some (.int k' 0)):
  Runs P n f w {dst,op:=.slice t x none (some hx) none,type:=ty,pos,after:=af,guard:=gd} (.slice none 0 0):=fun a ha=>by
 cases hi:P.info? et with
 |none=>simp [hi] at hz
 |some inf=>
  have hsz:inf.size=1:=by simpa [hi] using hz
  have ht':P.underlying t=some (.slice (P.elem t)):=by rw [elem_of ht];exact ht
  simp [execOp,ha.ev ex,ha.ev eh,Instr.sliceAt,run_underlying ht,run_slice_h (P:=P) (w:=w) (t:=t) (a:=none) (len:=0) (cap:=0) ht' k' 0 (Int.le_refl _) (by simp),elem_of ht,sizeOf,typeInfo,hi,sliced,hsz]
theorem X.overlaps (k1 k2:Nat) {F:FuncId} {fn:Func} {x y:Operand} {ts:Array TypeId} {tS tR:TypeId} {b1 o1 m1 c1 b2 o2 m2 c2:Nat} {cur1 cur2:Array Value} (hF:P.funcs[F]?=some fn) (hn:(fn.name=="runtime.NumGoroutine")=false) (hb:fn.body.isNone=true) (hx:Extern.findNext fn=none) (hfe:Extern.find fn=some (Extern.SlicesOverlaps.overlaps #[tS,tS] #[tR]))
  (ht:P.underlying tS=some (.slice e)) (hz:(P.info? e).map (·.size)=some 1) (hs:St L w0 w) (hL1:L[k1]?=some (blk b1 cur1 e)) (hL2:L[k2]?=some (blk b2 cur2 e)) (hne:b1≠b2) (h2:0<cur2.size)
  (ex:ev f x=some (.slice (some ⟨b1,o1,none⟩) m1 c1)) (ey:ev f y=some (.slice (some ⟨b2,o2,none⟩) m2 c2)):
  Runs P n f w {dst,op:=.call {callee:=.value (.func F),args:=#[x,y],argTypes:=ts},type:=ty,pos,after:=af,guard:=gd} (.bool false):=fun a ha=>by
 have hA:=hs.at k1 hL1
 have hB:=hs.at k2 hL2
 have hsh:∀{b:Nat} {cur:Array Value} {L':List As},St (blk b cur e::L') w0 w→w.shape? b=some (e,cur.size):=by
  intro b cur L' h
  simp [World.shape?,h.blkAt]
 have hsz:∀w',(Go.sizeOf e).run P w'=.ok 1 w':=by
  intro w'
  cases hi:P.info? e with
  |none=>simp [hi] at hz
  |some i=>
   have:i.size=1:=by simpa [hi] using hz
   simp [sizeOf,typeInfo,hi,this]
 have hr:(callFunc F #[.slice (some ⟨b1,o1,none⟩) m1 c1,.slice (some ⟨b2,o2,none⟩) m2 c2]).run P w=.ok (.value (.bool false)) w:=by
  rw [run_callFunc_extern hF hn hb hx hfe,run_overlaps_apart w tS tR e ht 1 hsz ⟨b1,o1,none⟩ ⟨b2,o2,none⟩ m1 c1 m2 c2 hne e e cur1.size cur2.size (hsh hA) (hsh hB) (by omega) (hA.free _) (hA.free _)]
  rfl
 have hf:a.eval (.func F)=.func (.func F) #[] #[]:=rfl
 simp [execOp,resolve,invoke,Deferred.ofValue,hf,ha.ev ex,ha.ev ey,hr]
theorem St.blk_ne {b1 b2:Nat} {c1 c2:Array Value} (hs:St (blk b1 c1 e::blk b2 c2 e::L) w0 w):b1≠b2:=by
 intro h
 subst h
 obtain ⟨hh,hon,h1,h2,hd,e1,e2,hA,h3,h4,hd2,e3,e4,hB,hl⟩:=hs.sp
 rcases hd b1 with hx|hx|⟨o,hx,_⟩
 ·rw [hA] at hx;cases hx
 ·have:=e3 _ _ hB;rw [hx] at this;cases this
 ·rw [hA] at hx;cases hx
theorem ins_list (C c v:List Value) (off n m i:Nat) (hC:(C.drop off).take n=c) (hn:c.length=n) (hv:v.length=m) (hi:i<n) (hfit:off+n+m≤C.length):
  let C1:=C.take (off+(i+m))++c.drop i++C.drop (off+(i+m)+(c.drop i).length)
  ((C1.take (off+i)++v++C1.drop (off+i+v.length)).drop off).take (n+m)=c.take i++v++c.drop i:=by
 intro C1
 have hd:(c.drop i).length=n-i:=by rw [List.length_drop,hn]
 have e1:C1.take (off+i)=C.take (off+i):=by
  show (C.take (off+(i+m))++_++_).take _=_
  rw [List.append_assoc,List.take_append_of_le_length (by rw [List.length_take];omega),List.take_take]
  congr 1;omega
 have e2:C1.drop (off+i+v.length)=c.drop i++C.drop (off+(i+m)+(c.drop i).length):=by
  show (C.take (off+(i+m))++_++_).drop _=_
  rw [List.append_assoc,List.drop_append,List.drop_of_length_le (by rw [List.length_take];omega),List.nil_append,List.length_take,show off+i+v.length-min (off+(i+m)) C.length=0 by omega,List.drop_zero]
 rw [e1,e2]
 have e3:(C.take (off+i)).drop off=c.take i:=by
  rw [←hC,List.take_take,List.drop_take];congr 1;omega
 rw [List.append_assoc,List.drop_append_of_le_length (by rw [List.length_take];omega),e3]
 have e4:(c.take i).length=i:=by rw [List.length_take];omega
 rw [←List.append_assoc,←List.append_assoc,List.take_append_of_le_length (by simp only [List.length_append,e4,hd];omega)]
 exact List.take_of_length_le (by simp only [List.length_append,e4,hd];omega)
theorem oneM {α:Type} {g:α→Value} (h:∀x,(g x).oneCell'=true) {xs:List α}:∀u∈xs.map g,u.oneCell'=true:=by
 intro u hu
 obtain ⟨x,_,rfl⟩:=List.mem_map.1 hu
 exact h x
theorem ins_here {α:Type} {g:α→Value} {cur:Array Value} {off n m i o1 o2 t:Nat} {xs vs:List α} (h4:(cur.toList.drop off).take n=xs.map g) (hxs:xs.length=n) (hvs:vs.length=m) (hi:i<n) (hfit:off+n+m≤cur.size) (h1:o1=off+(i+m)) (h2:o2=off+i) (ht:t=n+m):
  ((setMany (setMany cur o1 ((xs.map g).drop i)) o2 (vs.map g)).toList.drop off).take t=((xs.take i++vs)++xs.drop i).map g:=by
 subst h1 h2 ht
 have hd:((xs.map g).drop i).length=n-i:=by rw [List.length_drop,List.length_map,hxs]
 rw [toList_setMany _ _ _ (by rw [size_setMany,List.length_map];omega),toList_setMany _ _ _ (by omega)]
 have:=ins_list cur.toList (xs.map g) (vs.map g) off n m i h4 (by rw [List.length_map,hxs]) (by rw [List.length_map,hvs]) hi (by rw [Array.length_toList];omega)
 rw [List.map_append,List.map_append,List.map_take,List.map_drop]
 exact this
theorem ins_new {α:Type} {g:α→Value} {ROW:Array Value} {n m i o1 o2 t:Nat} {xs vs:List α} (hR:ROW.toList.take i=((xs.map g)).take i) (hxs:xs.length=n) (hvs:vs.length=m) (hi:i<n) (hfit:n+m≤ROW.size) (h1:o1=i) (h2:o2=i+m) (ht:t=n+m):
  ((setMany (setMany ROW o1 (vs.map g)) o2 ((xs.map g).drop i)).toList.drop 0).take t=((xs.take i++vs)++xs.drop i).map g:=by
 subst h1 h2 ht
 have hd:((xs.map g).drop o1).length=n-o1:=by rw [List.length_drop,List.length_map,hxs]
 have hv:(vs.map g).length=m:=by rw [List.length_map,hvs]
 have hl:(ROW.toList.take o1).length=o1:=by rw [List.length_take,Array.length_toList];omega
 rw [toList_setMany _ _ _ (by rw [size_setMany];omega),toList_setMany _ _ _ (by omega)]
 have e1:(ROW.toList.take o1++vs.map g++ROW.toList.drop (o1+(vs.map g).length)).take (o1+m)=ROW.toList.take o1++vs.map g:=by
  rw [List.take_append_of_le_length (by rw [List.length_append,hl,hv];omega)]
  exact List.take_of_length_le (by rw [List.length_append,hl,hv];omega)
 rw [e1,List.drop_zero,List.take_append_of_le_length (by simp only [List.length_append,hl,hv,hd];omega),List.take_of_length_le (by simp only [List.length_append,hl,hv,hd];omega),hR]
 rw [List.map_append,List.map_append,List.map_take,List.map_drop]
end
section
variable {P:Program} {ops:Array Oper} {n:Nat} {Q:Exit→Act→World→Prop}
def waitOk2 (ops:Array Oper) (e1 e2:Nat) (es bl:List Nat):Bool:=(bl++es).all fun i=>(preds ops i).any fun j=>hasN (e1::e2::es) j||hasN bl j
theorem T.core2 {e1 e2:Nat} {dn es bl:List Nat} {f0 f:Fr} {Wd:World→Prop} (hac:acyc ops=true) (hwt:waitOk2 ops e1 e2 es bl=true) (hrd:AllRd P ops n f0 f Wd (restOf ops dn (e1::e2::es) bl))
  (hev:∀e,e=e1∨e=e2→∀(fuel:Nat) (D:Array Bool) (a:Act) (w:World),D.size=ops.size→Closed ops D→(∀i∈dn,D[i]?=some true)→(∀i∈(e1::e2::es)++bl,D[i]?=some false)→PF ops n f0 f D a→Wd w→left D≤fuel+1→D[e]?=some false→(∀j∈preds ops e,D[j]?=some true)→
   wpOp P ops Q e (wpAny P .any ops Q fuel (D.setIfInBounds e true)) a w):T P ops n Q dn (e1::e2::es) bl f0 f Wd:=by
 intro fuel
 induction fuel with
 |zero=>
  intro D a w hD hc hdn hp hf hw hl
  have hdone:∀i,i<ops.size→D[i]?=some true:=by
   intro i hi
   have hlt:i<D.size:=by omega
   cases hb:D[i]? with
   |none=>simp at hb;omega
   |some b=>
    cases b with
    |true=>rfl
    |false=>have:=left_pos hb;omega
  have:=hp e1 (by simp)
  have hlt:e1<ops.size:=by rw [←hD];exact (Array.getElem?_eq_some_iff.1 this).1
  rw [hdone e1 hlt] at this;cases this
 |succ fuel ih=>
  intro D a w hD hc hdn hp hf hw hl
  refine ⟨fun hr=>?_,fun i hi=>?_⟩
  ·have hdone:=acyc.ready hac hD hr
   have:=hp e1 (by simp)
   have hlt:e1<ops.size:=by rw [←hD];exact (Array.getElem?_eq_some_iff.1 this).1
   rw [hdone e1 hlt] at this;cases this
  ·obtain ⟨hi1,hi2⟩:=(ready_iff hD).1 hi
   have hlt:i<ops.size:=by rw [←hD];exact (Array.getElem?_eq_some_iff.1 hi1).1
   -- none of those that wait
   have hnw:i∉bl++es:=by
    intro hm
    obtain ⟨j,hj,hj'⟩:=List.any_eq_true.1 (List.all_eq_true.1 hwt i hm)
    have:j∈(e1::e2::es)++bl:=by
     rcases Bool.or_eq_true_iff.1 hj' with h|h
     ·exact List.mem_append.2 (.inl (hasN_iff.1 h))
     ·exact List.mem_append.2 (.inr (hasN_iff.1 h))
    have h1:=hp j this
    rw [hi2 j hj] at h1;cases h1
   by_cases hie:i=e1∨i=e2
   ·exact hev i hie fuel D a w hD hc hdn hp hf hw (by omega) hi1 hi2
   ·have hne:i∉e1::e2::es:=by
     intro hm
     rcases List.mem_cons.1 hm with h|h
     ·exact hie (.inl h)
     ·rcases List.mem_cons.1 h with h|h
      ·exact hie (.inr h)
      ·exact hnw (List.mem_append.2 (.inr h))
    have hnb:i∉bl:=fun h=>hnw (List.mem_append.2 (.inl h))
    have hmem:i∈restOf ops dn (e1::e2::es) bl:=by
     unfold restOf
     refine List.mem_filter.2 ⟨List.mem_range.2 hlt,?_⟩
     have h1:hasN (e1::e2::es) i=false:=by
      cases h:hasN (e1::e2::es) i with
      |false=>rfl
      |true=>exact absurd (hasN_iff.1 h) hne
     have h2:hasN bl i=false:=by
      cases h:hasN bl i with
      |false=>rfl
      |true=>exact absurd (hasN_iff.1 h) hnb
     have h3:hasN dn i=false:=by
      cases h:hasN dn i with
      |false=>rfl
      |true=>have:=hdn i (hasN_iff.1 h);rw [hi1] at this;cases this
     simp [h1,h2,h3]
    refine (hrd.mem i hmem).step hD hc hi1 hi2 hf hw fun a' hf'=>?_
    refine ih _ a' w (by simpa using hD) (hc.set hi1 hi2) (fun j hj=>by rw [set_get hi1,hdn j hj,ite_self]) (fun j hj=>?_) hf' hw ?_
    ·rw [set_get hi1,if_neg]
     ·exact hp j hj
     ·intro e;subst e
      rcases List.mem_append.1 hj with h|h
      ·exact hne h
      ·exact hnb h
    ·have:=left_set hi1;omega
theorem T.step {e:Nat} {dn es0 es bl:List Nat} {f0 f:Fr} {Wd:World→Prop} (o:Oper) (g:Fr) (ho:ops[e]?=some o) (hg:readsOk ops e f0 f g)
  (hgd:o.guard=none∨∃j b t,o.guard=some (j,b)∧(ops[j]?).bind (·.dst)=some t∧look g t=some (.bool b)) (hd:∀d,o.dst=some d→d<n∧(writers ops d).all (Nat.beq · e)=true∧look f d=none)
  (bl' an:List Nat) (hbl:bl'.all (hasN bl)=true) (hes:es.all (hasN es0)=true) (hnot:hasN (es++bl') e=false) (hnb:hasN bl e=false) (han:anOk ops e an=true)
  (h:∀w,Wd w→∃Φ:Value→World→Prop,Turns P Q n g w o Φ∧∀v w',Φ v w'→∃(x:Fr) (Wd':World→Prop),newOk ops bl o.dst v x∧T P ops n Q (e::an++dn) es bl' f0 (x++f) Wd'∧Wd' w')
  (fuel:Nat) (D:Array Bool) (a:Act) (w:World) (hD:D.size=ops.size) (hc:Closed ops D) (hdn:∀i∈dn,D[i]?=some true) (hp:∀i∈es0++bl,D[i]?=some false) (hf:PF ops n f0 f D a) (hw:Wd w) (hl:left D≤fuel+1) (hi1:D[e]?=some false) (hi2:∀j∈preds ops e,D[j]?=some true):
  wpOp P ops Q e (wpAny P .any ops Q fuel (D.setIfInBounds e true)) a w:=by
 have hfit:=hf.fits hD hc hi1 hi2 hg
 obtain ⟨Φ,ht,hk⟩:=h w hw
 have hcont:∀v w',Φ v w'→wpAny P .any ops Q fuel (D.setIfInBounds e true) (a.put o.dst v) w':=by
  intro v w' hv
  obtain ⟨x,Wd',hx,hT,hw'⟩:=hk v w' hv
  have hc':=hc.set hi1 hi2
  have hme:(D.setIfInBounds e true)[e]?=some true:=by rw [set_get hi1,if_pos rfl]
  refine hT fuel _ _ w' (by simpa using hD) hc' (fun j hj=>?_) (fun j hj=>?_) ?_ hw' (by have:=left_set hi1;omega)
  ·rcases List.mem_append.1 hj with h|h
   ·rcases List.mem_cons.1 h with h|h
    ·subst h;exact hme
    ·obtain ⟨M,hM⟩:∃M,∀j∈an,j<M:=⟨an.foldr max 0+1,fun j hj=>by
      have:∀(l:List Nat),j∈l→j≤l.foldr max 0:=by
       intro l
       induction l with
       |nil=>intro h;cases h
       |cons x r ih=>
        intro h
        simp only [List.foldr_cons]
        rcases List.mem_cons.1 h with h|h
        ·subst h;exact Nat.le_max_left _ _
        ·exact Nat.le_trans (ih h) (Nat.le_max_right _ _)
      have:=this an hj;omega⟩
     exact anOk.done han hc' (fun j hj=>hc' e hme j hj) M hM (M-j) j (Nat.le_refl _) h
   ·rw [set_get hi1,hdn j h,ite_self]
  ·have hj':j∈es0++bl:=by
    rcases List.mem_append.1 hj with h|h
    ·exact List.mem_append.2 (.inl (hasN_iff.1 (List.all_eq_true.1 hes j h)))
    ·exact List.mem_append.2 (.inr (hasN_iff.1 (List.all_eq_true.1 hbl j h)))
   rw [set_get hi1,if_neg]
   ·exact hp j hj'
   ·intro ej;subst ej
    rw [hasN_iff.2 hj] at hnot;cases hnot
  ·-- the frame behind
   have hold:PF ops n f0 f (D.setIfInBounds e true) (a.put o.dst v):=by
    cases hdd:o.dst with
    |none=>
     have hnw:∀t,wr ops e t=false:=by
      intro t
      cases hwt':wr ops e t with
      |false=>rfl
      |true=>
       have:=(wr_iff ho).1 hwt'
       rw [hdd] at this;cases this
     exact hf.putN hi1 hnw
    |some d=>
     obtain ⟨h1,h2,h3⟩:=hd d hdd
     refine hf.put hi1 ((wr_iff ho).2 hdd) h1 (fun m hm=>?_) (fun u hu=>by rw [h3] at hu;cases hu) (fun t ht=>?_)
     ·exact Nat.eq_of_beq_eq_true (List.all_eq_true.1 h2 m (mem_writers.2 hm))
     ·have:=(wr_iff ho).1 ht;rw [hdd] at this;exact (Option.some.inj this).symm
   refine ⟨hold.dfr,hold.size,hold.old,fun t u hu hm=>?_⟩
   rcases look_append x f t u hu with hu|hu
   ·rcases hx.look t u hu with ⟨h1,rfl⟩|⟨h1,h2⟩
    ·obtain ⟨hlt,_,_⟩:=hd t h1
     rw [h1]
     simp [Act.put,hf.size,hlt]
    ·obtain ⟨m,hm1,hm2⟩:=hm
     have hmb:=h2 m hm1
     rw [set_get hi1] at hm2
     by_cases e2:e=m
     ·subst e2
      exact absurd ((wr_iff ho).1 hm1) h1
     ·rw [if_neg e2,hp m (List.mem_append.2 (.inr hmb))] at hm2;cases hm2
   ·exact hold.new t u hu hm
 unfold wpOp
 rw [ho]
 simp only
 rw [if_pos]
 ·exact .inl (ht a hfit _ hcont)
 ·rcases hgd with hgd|⟨j,b,t,h1,h2,h3⟩
  ·simp [Region.wanted,hgd]
  ·simp [Region.wanted,h1,yielded_of hfit h2 h3]
theorem T.pm {dn es es' bl:List Nat} {f0 f:Fr} {Wd:World→Prop} (he:es'.all (hasN es)=true) (h:T P ops n Q dn es' bl f0 f Wd):T P ops n Q dn es bl f0 f Wd:=
 fun fuel D a w hD hc hdn hp hf hw hl=>h fuel D a w hD hc hdn (fun i hi=>hp i (by
  rcases List.mem_append.1 hi with q|q
  ·exact List.mem_append.2 (.inl (hasN_iff.1 (List.all_eq_true.1 he i q)))
  ·exact List.mem_append.2 (.inr q))) hf hw hl
theorem T.two {e1 e2:Nat} {dn es bl:List Nat} {f0 f:Fr} {Wd:World→Prop} (hac:acyc ops=true) (hwt:waitOk2 ops e1 e2 es bl=true) (hrd:AllRd P ops n f0 f Wd (restOf ops dn (e1::e2::es) bl))
  (h1:∀(fuel:Nat) (D:Array Bool) (a:Act) (w:World),D.size=ops.size→Closed ops D→(∀i∈dn,D[i]?=some true)→(∀i∈(e1::e2::es)++bl,D[i]?=some false)→PF ops n f0 f D a→Wd w→left D≤fuel+1→D[e1]?=some false→(∀j∈preds ops e1,D[j]?=some true)→
   wpOp P ops Q e1 (wpAny P .any ops Q fuel (D.setIfInBounds e1 true)) a w)
  (h2:∀(fuel:Nat) (D:Array Bool) (a:Act) (w:World),D.size=ops.size→Closed ops D→(∀i∈dn,D[i]?=some true)→(∀i∈(e1::e2::es)++bl,D[i]?=some false)→PF ops n f0 f D a→Wd w→left D≤fuel+1→D[e2]?=some false→(∀j∈preds ops e2,D[j]?=some true)→
   wpOp P ops Q e2 (wpAny P .any ops Q fuel (D.setIfInBounds e2 true)) a w):T P ops n Q dn (e1::e2::es) bl f0 f Wd:=
 T.core2 hac hwt hrd fun e he=>by
  rcases he with rfl|rfl
  ·exact h1
  ·exact h2
end
section
variable {P:Program} {ops:Array Oper} {n:Nat}
def seen (ops:Array Oper) (f0 f:Fr) (i a:Nat) (v:Value):Prop:=((writers ops a).all (fun m=>hasN (preds ops m) i)=true∧look f0 a=some v)∨((writers ops a).any (fun m=>hasN (preds ops i) m)=true∧look f a=some v)
theorem seen.l {f0 f:Fr} {i a:Nat} {v:Value} (h:(writers ops a).all (fun m=>hasN (preds ops m) i)=true) (e:look f0 a=some v):seen ops f0 f i a v:=.inl ⟨h,e⟩
theorem seen.r {f0 f:Fr} {i a:Nat} {v:Value} (h:(writers ops a).any (fun m=>hasN (preds ops i) m)=true) (e:look f a=some v):seen ops f0 f i a v:=.inr ⟨h,e⟩
theorem RdOk.m0 {f0 f:Fr} {Wd:World→Prop} {i d:Nat} {v:Value} {o:Oper} (ho:ops[i]?=some o) (h:∀w,Wd w→Runs P n [] w o v) (hg:o.guard=none) (hd:o.dst=some d) (hl:look f d=some v) (h1:Nat.ble (d+1) n=true) (hu:(writers ops d).all (Nat.beq · i)=true):RdOk P ops n f0 f Wd i:=
 ⟨o,v,[],d,ho,hd,trivial,.run hg h,hl,h1,hu⟩
theorem RdOk.m1 {f0 f:Fr} {Wd:World→Prop} {i d:Nat} (a:Nat) {v0 v:Value} {o:Oper} (ho:ops[i]?=some o) (hr:seen ops f0 f i a v0) (h:∀w,Wd w→Runs P n [(a,v0)] w o v) (hg:o.guard=none) (hd:o.dst=some d) (hl:look f d=some v) (h1:Nat.ble (d+1) n=true) (hu:(writers ops d).all (Nat.beq · i)=true):RdOk P ops n f0 f Wd i:=
 ⟨o,v,[(a,v0)],d,ho,hd,⟨hr,trivial⟩,.run hg h,hl,h1,hu⟩
theorem RdOk.m2 {f0 f:Fr} {Wd:World→Prop} {i d:Nat} (a b:Nat) {v0 v1 v:Value} {o:Oper} (ho:ops[i]?=some o) (hr:seen ops f0 f i a v0) (hr1:seen ops f0 f i b v1) (h:∀w,Wd w→Runs P n [(a,v0),(b,v1)] w o v) (hg:o.guard=none) (hd:o.dst=some d) (hl:look f d=some v) (h1:Nat.ble (d+1) n=true) (hu:(writers ops d).all (Nat.beq · i)=true):RdOk P ops n f0 f Wd i:=
 ⟨o,v,[(a,v0),(b,v1)],d,ho,hd,⟨hr,hr1,trivial⟩,.run hg h,hl,h1,hu⟩
end
end Go.Proofs.YtaejcbpijdacmaaGreat.Walk

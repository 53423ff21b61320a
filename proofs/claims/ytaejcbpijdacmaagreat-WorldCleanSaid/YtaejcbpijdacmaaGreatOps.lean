/- A base for the walks of this seat: more operations: structs by value, results that lie in memory, rows of truths and strings. It speaks of no program. -/
import Derived.Test.YtaejcbpijdacmaaGreatEls
set_option linter.all false
namespace Go.Proofs.YtaejcbpijdacmaaGreat.Walk
open Go.RowKit Go.Proofs.YtaejcbpijdacmaaGreat.Sep
section
variable {P:Program} {ops:Array Oper} {n:Nat} {Q:Exit→Act→World→Prop} {l:List Oper} {f:Fr} {w w0:World} {L:List As} {A B:As}
variable {dst:Option Tmp} {gd:Option (Nat × Bool)} {ty:TypeId} {pos:String} {af:Array Edge} {e:TypeId} {kd:IntKind}
theorem readC.cellB {b o c:Nat} {xs:List Bool} (h:readC w 1 (.some ⟨b,o,.none⟩) xs.length c (xs.map Value.bool)) {i:Int} (h0:0≤i) (h1:i<(xs.length:Int)):w.cell? ⟨b,o+i.toNat*1,.none⟩=.some (.bool (xs.getD i.toNat false)):=by
 rw [Nat.mul_one]
 refine h.cellAt ?_
 have hj:i.toNat<xs.length:=by omega
 simp [hj,List.getD]
theorem readC.cellEl {sz m c b o i j:Nat} {u:Value} {cs:List Value} (h:readC w sz (.some ⟨b,o,.none⟩) m c cs) (hu:cs[i*sz+j]?=.some u):w.cell? ⟨b,o+i*sz+j,.none⟩=.some u:=by
 rw [Nat.add_assoc];exact h.cellAt hu
theorem readC.cellEl0 {sz m c b o i:Nat} {u:Value} {cs:List Value} (h:readC w sz (.some ⟨b,o,.none⟩) m c cs) (hu:cs[i*sz+0]?=.some u):w.cell? ⟨b,o+i*sz,.none⟩=.some u:=h.cellEl hu
theorem Y.appF {α:Type} (g:α→Value) (hg:∀x,(g x).oneCell'=true) (k:Nat) {s x:Operand} {t:TypeId} {z:Value} {bytes:Nat} (ht:P.underlying t=some (.slice e)) (hinf:(P.info? e).map (fun i=>(i.zero,i.size,i.bytes))=some (some z,1,bytes)) (hzs:z.cells.size=1)
  {v:Value} {xs ys:List α} (hs:St L w0 w) (hL:L[k]?=some (row e 1 v xs.length (xs.map g))) (ev1:ev f s=some v) {ad:Option Addr} {c:Nat} (ev2:ev f x=some (.slice ad ys.length c)) (hr:readC w 1 ad ys.length c (ys.map g))
  (hb:xs.length+ys.length≤4611686018427387904) (hbytes:(xs.length+ys.length)*bytes≤140737488355328):
  Turns P Q n f w {dst,op:=.call {callee:=.builtin .append,args:=#[s,x],argTypes:=#[t,t]},type:=ty,pos,after:=af,guard:=gd} (fun u w'=>∃a c,u=.slice a (xs++ys).length c∧St (L.set k (row e 1 (.slice a (xs++ys).length c) (xs++ys).length ((xs++ys).map g))) w0 w'):=by
 have h:=Y.app (Q:=Q) (n:=n) (f:=f) (dst:=dst) (gd:=gd) (ty:=ty) (pos:=pos) (af:=af) k ht hinf hzs (by decide) hs hL ev1 ev2 hr (fun u hu=>by obtain ⟨x,_,rfl⟩:=List.mem_map.1 hu;exact hg x) hb hbytes
 rw [←List.map_append] at h
 exact h
theorem Y.litB {t:TypeId} {len sz:Nat} {parts:Array (Nat × Operand)} {vs:Array (Nat × Value)} (cs:List Value) (hs:St L w0 w) (hp:∀a,Fits n a f→(parts.map fun (i,x)=>(i,a.eval x))=vs) (hl:cs.length=len*sz) (hm:len≤4611686018427387904)
  (h:∀w,(Instr.buildSlice t len vs).run P w=.ok (.slice (some ⟨w.heap.size,0,none⟩) len len) (w.alloc (.cells cs.toArray e))):
  Turns P Q n f w {dst,op:=.buildSlice t len parts,type:=ty,pos,after:=af,guard:=gd} (fun u w'=>∃b,u=.slice (some ⟨b,0,none⟩) len len∧St (row e sz (.slice (some ⟨b,0,none⟩) len len) len cs::L) w0 w'):=
 Y.run (fun a ha=>by simp only [execOp,hp a ha,Sem.run_bind,h];rfl) ⟨_,rfl,(hs.alloc cs.toArray e).row_of_blk (by simpa using hl) (Nat.le_refl _) (by unfold maxLen;omega) (by simp [hl]) (by simp only [List.drop_zero];exact List.take_of_length_le (by simp [hl]))⟩
theorem run_loadSt (k:Nat) {t:TypeId} {b p:Nat} {c:Array Value} {ds:TypeDesc} (vs:List Value) (hs:St L w0 w) (hL:L[k]?=some (blk b c e)) (hu:P.underlying t=some ds) (hg:aggD ds=true) (hz:(P.info? t).map (·.size)=some vs.length) (hv:(c.toList.drop p).take vs.length=vs):(loadVar t ⟨b,p,none⟩).run P w=.ok (.agg vs.toArray) w:=by
 have hl:=run_loadCells_list (P:=P) w ⟨b,p,none⟩ vs (fun j v hj=>by
  rw [Addr.add_lit,(hs.at k hL).cell]
  have hlt:j<vs.length:=(List.getElem?_eq_some_iff.1 hj).1
  rw [←hv,List.getElem?_take,if_pos hlt,List.getElem?_drop] at hj
  rw [←Array.getElem?_toList];exact hj)
 cases hi:P.info? t with
 |none=>simp [hi] at hz
 |some j=>
  have hsz:j.size=vs.length:=by simpa [hi] using hz
  simp [loadVar,run_isAgg hu,hg,sizeOf,typeInfo,hi,hsz,hl]
theorem X.loadSt (k:Nat) {t:TypeId} {x:Operand} {b p:Nat} {c:Array Value} {ds:TypeDesc} (vs:List Value) (hs:St L w0 w) (hL:L[k]?=some (blk b c e)) (hu:P.underlying t=some ds) (hg:aggD ds=true) (hz:(P.info? t).map (·.size)=some vs.length) (hv:(c.toList.drop p).take vs.length=vs) (ex:ev f x=some (.pointer (some ⟨b,p,none⟩))):
  Runs P n f w {dst,op:=.load t x,type:=ty,pos,after:=af,guard:=gd} (.agg vs.toArray):=fun a ha=>by
 simp [execOp,ha.ev ex,Instr.loadAt,Instr.sureAddr,run_loadSt k vs hs hL hu hg hz hv]
theorem Y.storeSt (k:Nat) {t:TypeId} {x y:Operand} {b p:Nat} {c c':Array Value} {L':List As} (vs:List Value) (hs:St L w0 w) (hL:L[k]?=some (blk b c e)) (hz:(P.info? t).map (·.size)=some vs.length) (ex:ev f x=some (.pointer (some ⟨b,p,none⟩))) (ey:ev f y=some (.agg vs.toArray)) (h1:vs.all (·.oneCell')=true) (hfit:Nat.ble (p+vs.length) c.toList.length=true)
  (hc':(c.toList.take p)++vs++c.toList.drop (p+vs.length)=c'.toList) (hL':L.set k (blk b c' e)=L'):Turns P Q n f w {dst,op:=.store t x y,type:=ty,pos,after:=af,guard:=gd} (fun _ w'=>St L' w0 w'):=fun a ha K hK=>by
 have hb:=hs.at k hL
 have hfit':p+vs.length≤c.size:=by have:=Nat.le_of_ble_eq_true hfit;simpa using this
 have hst:=run_storeCells_cells (P:=P) b p vs 0 w (fun j hj=>by rw [hb.cell];simp;omega) (fun j _=>hb.free _) (fun q hq=>List.all_eq_true.1 h1 q hq)
 simp only [Nat.add_zero] at hst
 cases hi:P.info? t with
 |none=>simp [hi] at hz
 |some j=>
  have hsz:j.size=vs.length:=by simpa [hi] using hz
  have hr:(execOp a.eval {dst,op:=.store t x y,type:=ty,pos,after:=af,guard:=gd}).run P w=.ok .skip (w.setCells b p vs):=by
   simp [execOp,ha.ev ex,ha.ev ey,Instr.storeAt,Instr.sureAddr,storeVar,sizeOf,typeInfo,hi,hsz,Value.cells,hst]
  unfold Oper.wp
  rw [hr,Oper.upon_skip]
  refine hK _ _ ?_
  subst hL'
  refine St.back k hL ?_
  have h2:=St.setCells vs p c w hb
  have h3:setMany c p vs=c':=by
   apply Array.toList_inj.1
   rw [toList_setMany _ _ _ hfit',←hc']
  rw [h3] at h2
  exact h2
def Rv (P:Program) (f:Fr) (w:World):ResultVar→Value→Prop
 | .tmp t,v=>look f t=some v
 | .cell p ty,v=>∃a,look f p=some (.pointer (some a))∧(loadVar ty a).run P w=.ok v w
def rvS (a:Act):ResultVar→Sem Value
 | .tmp t=>pure (a.tmps.getD t undef)
 | .cell p ty=>do loadVar ty (←asAddr (a.tmps.getD p undef))
theorem results_rvS (fn:Func) (a:Act):results fn a.tmps=(do let vs ←fn.results.mapM (rvS a);pure (if h:vs.size=1 then vs[0] else .tuple vs)):=by
 unfold results
 congr 1
theorem Rv.run {a:Act} (ha:Fits n a f):∀{s:ResultVar} {v:Value},Rv P f w s v→(rvS a s).run P w=.ok v w
 | .tmp t,v,h=>by simp only [rvS,ha.getD h,Sem.run_pure]
 | .cell p ty,v,⟨q,h1,h2⟩=>by simp [rvS,ha.getD h1,h2,asAddr]
theorem At.retv1 {fn:Func} {R:Ending→World→Prop} {s:ResultVar} {v:Value} (hr:fn.results=#[s]) (e:Rv P f w s v) (h:R (.returned v) w):At n (bodyPost P fn R) .ret f w:=fun a ha=>
 ⟨ha.dfr,v,by simp [results_rvS,hr,e.run ha],h⟩
theorem At.retv3 {fn:Func} {R:Ending→World→Prop} {s t u:ResultVar} {v x y:Value} (hr:fn.results=#[s,t,u]) (e:Rv P f w s v) (e':Rv P f w t x) (e'':Rv P f w u y) (h:R (.returned (.tuple #[v,x,y])) w):At n (bodyPost P fn R) .ret f w:=fun a ha=>
 ⟨ha.dfr,.tuple #[v,x,y],by simp [results_rvS,hr,e.run ha,e'.run ha,e''.run ha],h⟩
theorem rdC.subM {α:Type} {g:α→Value} {c:Nat} {a:Option Addr} {xs:List α} {i j:Int} (hr:rdC A 1 (.slice a xs.length c) xs.length (xs.map g)) (h:0≤i∧i≤j∧j≤(xs.length:Int)):
  rdC A 1 (.slice (vaddr a c i.toNat 1) (cut xs i j).length (c-i.toNat)) (cut xs i j).length ((cut xs i j).map g):=by
 rw [←cutC_map];exact rdC.sub hr h
theorem St.row_subM {α:Type} {g:α→Value} {c:Nat} {a:Option Addr} {xs:List α} {i j:Int} (hs:St (row e 1 (.slice a xs.length c) xs.length (xs.map g)::L) w0 w) (h:0≤i∧i≤j∧j≤(xs.length:Int)):
  St (row e 1 (.slice (vaddr a c i.toNat 1) (cut xs i j).length (c-i.toNat)) (cut xs i j).length ((cut xs i j).map g)::L) w0 w:=by
 rw [←cutC_map];exact St.row_sub hs h
theorem St.put (h:∀h,A h) (hs:St L w0 w):St (A::L) w0 w:=hs.mk' fun hp hl=>⟨fun _=>none,hp,fun _=>.inl rfl,(fun _ _ e=>by cases e),Hp.le.refl _,h _,hl⟩
theorem St.sl_openF {α:Type} {E:El α} {c:List Value} {xs:List α} (g:α→Value) (hg:∀{cs xs h},tie E cs xs h→cs=xs.map g) (hs:St ((El.sl E).p c xs::L) w0 w):∃a m,c=[.slice a xs.length m]∧St (fsl E.n (.slice a xs.length m) xs.length (xs.map g)::L) w0 w:=by
 obtain ⟨a,m,ds,e,hs⟩:=St.sl_open hs
 have hd:ds=xs.map g:=hs.tells 1 rfl fun h t _=>hg t
 subst hd
 have h2:St (tie E (xs.map g) xs::fsl E.n (.slice a xs.length m) xs.length (xs.map g)::L) w0 w:=hs.swap
 exact ⟨a,m,e,h2.tail⟩
theorem Y.storeRowF {α:Type} (g:α→Value) (hg:∀x,(g x).oneCell'=true) (k:Nat) {t:TypeId} {x y:Operand} {b o c:Nat} {i:Int} {v:α} {xs:List α} (hs:St L w0 w) (hL:L[k]?=some (row e 1 (.slice (some ⟨b,o,none⟩) xs.length c) xs.length (xs.map g))) (hz:(P.info? t).map (·.size)=some 1) (ex:ev f x=some (.pointer (some ⟨b,o+i.toNat*1,none⟩))) (ey:ev f y=some (g v))
  (h0:0≤i) (h1:i<(xs.length:Int)):Turns P Q n f w {dst,op:=.store t x y,type:=ty,pos,after:=af,guard:=gd} (fun _ w'=>St (L.set k (row e 1 (.slice (some ⟨b,o,none⟩) (xs.set i.toNat v).length c) (xs.set i.toNat v).length ((xs.set i.toNat v).map g))) w0 w'):=by
 have h:=Y.storeRow (P:=P) (Q:=Q) (n:=n) (f:=f) (dst:=dst) (gd:=gd) (ty:=ty) (pos:=pos) (af:=af) k hs hL hz ex ey (hg v) h0 h1
 rw [set_map] at h
 rw [List.length_set]
 exact h
theorem Sp.fsl {h:Hp} (k:Nat) {sz m:Nat} {v:Value} {cs:List Value} (hs:Sp L h) (hL:L[k]?=some (Walk.fsl sz v m cs)):Walk.fsl sz v m cs h:=
 let ⟨_,l,t⟩:=Sp.has k hs hL;seesC.mono t (Hp.fz_mono l)
theorem Sp.tie {h:Hp} (k:Nat) {α:Type} {E:El α} {cs:List Value} {xs:List α} (hs:Sp L h) (hL:L[k]?=some (Walk.tie E cs xs)):Walk.tie E cs xs h:=
 let ⟨_,l,t⟩:=Sp.has k hs hL;tie.mono t l
end
end Go.Proofs.YtaejcbpijdacmaaGreat.Walk

/- A base for the walks of this seat: what values mean that lie in cells; slices that are owned, frozen or only read. It speaks of no program. -/
import Derived.Test.YtaejcbpijdacmaaGreatDraw
import Derived.Laws.BytesString
set_option linter.all false
namespace Go.Proofs.YtaejcbpijdacmaaGreat.Walk
open Go.RowKit Go.Proofs.YtaejcbpijdacmaaGreat.Sep
theorem ite_t {α:Type} {p:Prop} [Decidable p] {x y:Option α} {r:α} (h:p) (H:(if p then x else y)=some r):x=some r:=by rw [if_pos h] at H;exact H
theorem ite_f {α:Type} {p:Prop} [Decidable p] {x y:Option α} {r:α} (h:¬p) (H:(if p then x else y)=some r):y=some r:=by rw [if_neg h] at H;exact H
theorem ite_n {α:Type} {p:Prop} [Decidable p] {x:Option α} {r:α} (H:(if p then x else none)=some r):p∧x=some r:=by
 by_cases h:p
 ·exact ⟨h,ite_t h H⟩
 ·rw [if_neg h] at H;cases H
theorem bind_s {α β:Type} {x:Option α} {g:α→Option β} {r:β} (H:x.bind g=some r):∃t,x=some t∧g t=some r:=Option.bind_eq_some_iff.1 H
theorem n_t {x:Bool} (h:x=true):(!x)=false:=by rw [h];rfl
theorem n_f {x:Bool} (h:x=false):(!x)=true:=by rw [h];rfl
theorem b_f {x:Bool} (h:¬x=true):x=false:=by cases x with|true=>exact absurd rfl h|false=>rfl
theorem sb {x y:Bool} (h:x=y):some (Value.bool x)=some (Value.bool y):=by rw [h]
def strOf (l:List Int):ByteArray:=⟨(l.map fun c=>UInt8.ofNat c.toNat).toArray⟩
def seesC (sz:Nat) (v:Value) (n:Nat) (cs:List Value) (h:Hp):Prop:=
 ∃a c,v=.slice a n c∧cs.length=n*sz∧(a=none→n=0∧c=0)∧n≤c∧∀b,a=some b→∀j u,cs[j]?=some u→b.spot=none∧∃f cur t fr,h b.block=some (f,.cells cur t fr)∧cur[b.off+j]?=some u
theorem seesC.mono {sz n:Nat} {v:Value} {cs:List Value} {h k:Hp} (s:seesC sz v n cs h) (l:h.le k):seesC sz v n cs k:=by
 obtain ⟨a,c,hv,hl,hn,hc,hr⟩:=s
 exact ⟨a,c,hv,hl,hn,hc,fun b hb j u hu=>let ⟨hs,f,cur,t,fr,e,e2⟩:=hr b hb j u hu;⟨hs,f,cur,t,fr,l _ _ e,e2⟩⟩
def rdC (A:As) (sz:Nat) (v:Value) (n:Nat) (cs:List Value):Prop:=∀h,A h→seesC sz v n cs h
def fsl (sz:Nat) (v:Value) (n:Nat) (cs:List Value):As:=fun h=>seesC sz v n cs h.fz
theorem fsl.pers {sz n:Nat} {v:Value} {cs:List Value} {h:Hp} (s:fsl sz v n cs h):fsl sz v n cs h.fz:=by unfold fsl;rw [Hp.fz_fz];exact s
theorem fsl.rd {sz n:Nat} {v:Value} {cs:List Value}:rdC (fsl sz v n cs) sz v n cs:=fun h s=>seesC.mono s (Hp.fz_le h)
theorem Sp.has:∀{L:List As} {h:Hp} (k:Nat) {A:As},Sp L h→L[k]?=some A→∃h',h'.le h∧A h'
 |[],_,_,_,_,e=>by simp at e
 |B::L,h,0,A,⟨h1,h2,hd,e1,e2,hA,hl⟩,e=>by simp at e;subst e;exact ⟨h1,e1,hA⟩
 |B::L,h,k+1,A,⟨h1,h2,hd,e1,e2,hA,hl⟩,e=>
  let ⟨h',hle,hA'⟩:=Sp.has k hl (by simpa using e)
  ⟨h',hle.trans e2,hA'⟩
theorem rdC.part {L:List As} (k:Nat) {A:As} {sz n:Nat} {v:Value} {cs:List Value} (hr:rdC A sz v n cs) (hL:L[k]?=some A):rdC (Sp L) sz v n cs:=fun h hs=>
 let ⟨_,hle,hA⟩:=Sp.has k hs hL;(hr _ hA).mono hle
theorem rdC.nil {A:As} {sz c:Nat} (hc:c=0):rdC A sz (.slice none 0 c) 0 []:=fun _ _=>⟨none,c,rfl,by simp,fun _=>⟨rfl,hc⟩,Nat.zero_le _,fun _ h=>nomatch h⟩
theorem row_rd {e sz n:Nat} {v:Value} {cs:List Value}:rdC (row e sz v n cs) sz v n cs:=by
 intro h hr
 obtain ⟨hx,⟨a,hv,hn⟩|⟨g,off,cap,cur,hv,hc,hm,hg,hs',ht⟩⟩:=hr
 ·subst hn
  have hcs:cs=[]:=List.eq_nil_of_length_eq_zero (by simpa using hx)
  subst hcs
  exact ⟨a,0,hv,hx,fun _=>⟨rfl,rfl⟩,Nat.le_refl _,fun b _ j u hu=>by simp at hu⟩
 ·refine ⟨_,cap,hv,hx,(fun h=>nomatch h),hc,fun b hb=>?_⟩
  obtain rfl:({block:=g,off:=off,spot:=none}:Addr)=b:=Option.some.inj hb
  refine fun j u hu=>⟨rfl,false,cur,e,(0,0),hg,?_⟩
  have hj:j<n*sz:=by have:=(List.getElem?_eq_some_iff.1 hu).1;omega
  rw [←ht,List.getElem?_take,if_pos hj,List.getElem?_drop] at hu
  rw [←Array.getElem?_toList];exact hu
structure readC (w:World) (sz:Nat) (a:Option Addr) (n c:Nat) (cs:List Value):Prop where
 len:cs.length=n*sz
 nil:a=none→n=0∧c=0
 cap:n≤c
 cell:∀b,a=some b→∀j u,cs[j]?=some u→b.spot=none∧w.cell? ⟨b.block,b.off+j,none⟩=some u
section
variable {P:Program} {ops:Array Oper} {n:Nat} {Q:Exit→Act→World→Prop} {l:List Oper} {f:Fr} {w w0:World} {L:List As} {A B:As}
variable {dst:Option Tmp} {gd:Option (Nat × Bool)} {ty:TypeId} {pos:String} {af:Array Edge} {e:TypeId} {kd:IntKind}
theorem rdC.at (k:Nat) {sz m c:Nat} {a:Option Addr} {cs:List Value} (hr:rdC A sz (.slice a m c) m cs) (hs:St L w0 w) (hL:L[k]?=some A):readC w sz a m c cs:=by
 refine hs.tells k hL fun h hA ho=>?_
 obtain ⟨a',c',hv,hl,hn,hc,hc'⟩:=hr h hA
 simp only [Value.slice.injEq,true_and] at hv
 obtain ⟨rfl,rfl⟩:=hv
 refine ⟨hl,hn,hc,fun b hb j u hu=>?_⟩
 obtain ⟨h1,fl,cur,t,fr,e1,e2⟩:=hc' b hb j u hu
 have:=ho _ _ _ e1
 exact ⟨h1,by simp [World.cell?,this,e2]⟩
theorem rdC.isSlice (k:Nat) {sz m:Nat} {v:Value} {cs:List Value} (hr:rdC A sz v m cs) (hs:St L w0 w) (hL:L[k]?=some A):∃a c,v=.slice a m c:=
 hs.tells k hL fun h hA _=>let ⟨a,c,hv,_⟩:=hr h hA;⟨a,c,hv⟩
theorem readC.some {sz m c:Nat} {a:Option Addr} {cs:List Value} (h:readC w sz a m c cs) (hsz:0<sz) {i:Int} (h0:0≤i) (h1:i<(m:Int)):∃b o,a=.some ⟨b,o,.none⟩:=by
 cases a with
 |none=>have:=(h.nil rfl).1;omega
 |some b=>
  have hlt:i.toNat*sz<cs.length:=by
   rw [h.len];exact Nat.mul_lt_mul_of_pos_right (by omega) hsz
  have:=(h.cell b rfl (i.toNat*sz) _ (List.getElem?_eq_getElem hlt)).1
  obtain ⟨b,o,s⟩:=b
  simp at this
  subst this
  exact ⟨b,o,rfl⟩
theorem readC.cellAt {sz m c b o j:Nat} {u:Value} {cs:List Value} (h:readC w sz (.some ⟨b,o,.none⟩) m c cs) (hu:cs[j]?=.some u):w.cell? ⟨b,o+j,.none⟩=.some u:=(h.cell _ rfl j u hu).2
theorem readC.cellI {b o c:Nat} {xs:List Int} (h:readC w 1 (.some ⟨b,o,.none⟩) xs.length c (xs.map (Value.int kd))) {i:Int} (h0:0≤i) (h1:i<(xs.length:Int)):w.cell? ⟨b,o+i.toNat*1,.none⟩=.some (.int kd (xs.getD i.toNat 0)):=by
 rw [Nat.mul_one]
 refine h.cellAt ?_
 have hj:i.toNat<xs.length:=by omega
 simp [hj,List.getD]
theorem readC.src {sz m c:Nat} {a:Option Addr} {cs:List Value} (h:readC w sz a m c cs):∀b,a=.some b→∀j u,cs[j]?=.some u→w.cell? (b.add j)=.some u:=by
 intro b hb j u hu
 obtain ⟨e2,e1⟩:=h.cell b hb j u hu
 have hb':b.add j=⟨b.block,b.off+j,.none⟩:=by
  unfold Addr.add
  split
  ·rename_i hz;subst hz;obtain ⟨_,_,s⟩:=b;simp at e2;subst e2;simp
  ·rfl
 rw [hb',e1]
def vaddr (a:Option Addr) (c lo sz:Nat):Option Addr:=if c=lo then a else a.map (·.add (lo*sz))
def cut {α:Type} (xs:List α) (i j:Int):List α:=(xs.drop i.toNat).take (j.toNat-i.toNat)
theorem cut_len {α:Type} {xs:List α} {i j:Int} (h:0≤i∧i≤j∧j≤(xs.length:Int)):(cut xs i j).length=j.toNat-i.toNat:=by
 unfold cut;rw [List.length_take,List.length_drop];omega
theorem cut_map {α β:Type} (g:α→β) (xs:List α) (i j:Int):(cut xs i j).map g=cut (xs.map g) i j:=by
 unfold cut;rw [List.map_take,List.map_drop]
def cutC (sz:Nat) (cs:List Value) (i j:Int):List Value:=(cs.drop (i.toNat*sz)).take ((j.toNat-i.toNat)*sz)
theorem cutC_one (cs:List Value) (i j:Int):cutC 1 cs i j=cut cs i j:=by unfold cutC cut;simp
theorem cutC_map {α:Type} (g:α→Value) (xs:List α) (i j:Int):cutC 1 (xs.map g) i j=(cut xs i j).map g:=by rw [cutC_one,cut_map]
theorem rdC.sub {α:Type} {sz c:Nat} {a:Option Addr} {cs:List Value} {xs:List α} {i j:Int} (hr:rdC A sz (.slice a xs.length c) xs.length cs) (h:0≤i∧i≤j∧j≤(xs.length:Int)):
  rdC A sz (.slice (vaddr a c i.toNat sz) (cut xs i j).length (c-i.toNat)) (cut xs i j).length (cutC sz cs i j):=by
 intro hp hA
 obtain ⟨a',c',hv,hl,hn,hc,hr'⟩:=hr hp hA
 simp only [Value.slice.injEq,true_and] at hv
 obtain ⟨rfl,rfl⟩:=hv
 have hlen:=cut_len h
 have h1:i.toNat+(j.toNat-i.toNat)≤xs.length:=by omega
 have h2:i.toNat*sz+(j.toNat-i.toNat)*sz≤xs.length*sz:=by rw [←Nat.add_mul];exact Nat.mul_le_mul_right _ h1
 refine ⟨_,_,rfl,?_,?_,?_,?_⟩
 ·unfold cutC;rw [List.length_take,List.length_drop,hl,hlen];omega
 ·intro hnone
  unfold vaddr at hnone
  split at hnone
  ·have:=hn hnone;omega
  ·rw [Option.map_eq_none_iff] at hnone
   have:=hn hnone;omega
 ·omega
 ·intro b hb k u hu
  have hk:k<(j.toNat-i.toNat)*sz:=by
   have:=(List.getElem?_eq_some_iff.1 hu).1
   unfold cutC at this;rw [List.length_take] at this;omega
  have hu':cs[i.toNat*sz+k]?=.some u:=by
   unfold cutC at hu
   rw [List.getElem?_take,if_pos hk,List.getElem?_drop] at hu;exact hu
  unfold vaddr at hb
  split at hb
  ·rename_i hci
   exfalso
   have:j.toNat-i.toNat=0:=by omega
   rw [this] at hk;omega
  ·obtain ⟨b0,hb0,rfl⟩:=Option.map_eq_some_iff.1 hb
   obtain ⟨hs,fl,cur,t,fr,e1,e2⟩:=hr' b0 hb0 _ u hu'
   unfold Addr.add
   split
   ·rename_i hz
    refine ⟨hs,fl,cur,t,fr,e1,?_⟩
    rw [hz] at e2;simpa using e2
   ·refine ⟨rfl,fl,cur,t,fr,e1,?_⟩
    rw [←e2];congr 1;simp;omega
theorem St.row_sub {α:Type} {sz c:Nat} {a:Option Addr} {cs:List Value} {xs:List α} {i j:Int} (hs:St (row e sz (.slice a xs.length c) xs.length cs::L) w0 w) (h:0≤i∧i≤j∧j≤(xs.length:Int)):
  St (row e sz (.slice (vaddr a c i.toNat sz) (cut xs i j).length (c-i.toNat)) (cut xs i j).length (cutC sz cs i j)::L) w0 w:=by
 have hlen:=cut_len h
 refine hs.mono fun hp hh=>?_
 obtain ⟨hx,hA⟩:=hh
 refine ⟨?_,?_⟩
 ·clear hA
  have h1:i.toNat+(j.toNat-i.toNat)≤xs.length:=by omega
  have h2:i.toNat*sz+(j.toNat-i.toNat)*sz≤xs.length*sz:=by rw [←Nat.add_mul];exact Nat.mul_le_mul_right _ h1
  unfold cutC;rw [List.length_take,List.length_drop,hx,hlen];omega
 ·rcases hA with ⟨a',hv,hn⟩|⟨g,off,cap,cur,hv,hc,hm,hg,hs',ht⟩
  ·simp only [Value.slice.injEq] at hv
   obtain ⟨rfl,_,rfl⟩:=hv
   left
   refine ⟨vaddr a 0 i.toNat sz,?_,by omega⟩
   rw [show (cut xs i j).length=0 by omega,Nat.zero_sub]
  ·simp only [Value.slice.injEq,true_and] at hv
   obtain ⟨rfl,rfl⟩:=hv
   by_cases hci:c=i.toNat
   ·left
    refine ⟨vaddr (some ⟨g,off,none⟩) c i.toNat sz,?_,?_⟩
    rotate_left
    ·obtain ⟨h1,h2,h3⟩:=h
     clear hx hs' ht hm
     omega
    have hz:j.toNat-i.toNat=0:=by
     obtain ⟨h1,h2,h3⟩:=h
     clear hlen hx hs' ht hm
     omega
    rw [hlen,hz,hci,Nat.sub_self]
   ·right
    have h3:i.toNat*sz+(c-i.toNat)*sz=c*sz:=by rw [←Nat.add_mul];congr 1;omega
    have h1:i.toNat+(j.toNat-i.toNat)≤xs.length:=by omega
    have h2:i.toNat*sz+(j.toNat-i.toNat)*sz≤xs.length*sz:=by rw [←Nat.add_mul];exact Nat.mul_le_mul_right _ h1
    refine ⟨g,off+i.toNat*sz,c-i.toNat,cur,?_,by omega,by omega,hg,by omega,?_⟩
    ·unfold vaddr
     rw [if_neg hci]
     simp only [Option.map_some,Addr.add_lit]
    ·rw [hlen]
     unfold cutC
     rw [←ht,List.drop_take,List.take_take,List.drop_drop]
     congr 1
     omega
theorem elem_of {t e:TypeId} (ht:P.underlying t=some (.slice e)):P.elem t=e:=by simp [Program.elem,ht]
theorem X.slLH {α:Type} {t et:TypeId} {x lx hx:Operand} {k k':IntKind} {i j:Int} {a:Option Addr} {c sz:Nat} {xs:List α} (ht:P.underlying t=some (.slice et)) (hz:(P.info? et).map (·.size)=some sz) (ex:ev f x=some (.slice a xs.length c)) (el:ev f lx=some (.int k i)) (eh:ev f hx=some (.int k' j))
  (h:0≤i∧i≤j∧j≤(xs.length:Int)) (hc:xs.length≤c):Runs P n f w {dst,op:=.slice t x (some lx) (some hx) none,type:=ty,pos,after:=af,guard:=gd} (.slice (vaddr a c i.toNat sz) (cut xs i j).length (c-i.toNat)):=fun b ha=>by
 cases hi:P.info? et with
 |none=>simp [hi] at hz
 |some inf=>
  have hsz:inf.size=sz:=by simpa [hi] using hz
  subst hsz
  have h1:j≤(c:Int):=by omega
  have ht':P.underlying t=some (.slice (P.elem t)):=by rw [elem_of ht];exact ht
  rw [cut_len h]
  simp [execOp,ha.ev ex,ha.ev el,ha.ev eh,Instr.sliceAt,run_underlying ht,run_slice_lh (P:=P) (w:=w) (t:=t) (a:=a) (len:=xs.length) (cap:=c) ht' k k' i j h.1 h.2.1 h1,elem_of ht,sizeOf,typeInfo,hi,sliced,vaddr]
theorem X.slL {α:Type} {t et:TypeId} {x lx:Operand} {k:IntKind} {i:Int} {a:Option Addr} {c sz:Nat} {xs:List α} (ht:P.underlying t=some (.slice et)) (hz:(P.info? et).map (·.size)=some sz) (ex:ev f x=some (.slice a xs.length c)) (el:ev f lx=some (.int k i))
  (h:0≤i∧i≤(xs.length:Int)∧(xs.length:Int)≤(xs.length:Int)):Runs P n f w {dst,op:=.slice t x (some lx) none none,type:=ty,pos,after:=af,guard:=gd} (.slice (vaddr a c i.toNat sz) (cut xs i (xs.length:Int)).length (c-i.toNat)):=fun b ha=>by
 cases hi:P.info? et with
 |none=>simp [hi] at hz
 |some inf=>
  have hsz:inf.size=sz:=by simpa [hi] using hz
  subst hsz
  have ht':P.underlying t=some (.slice (P.elem t)):=by rw [elem_of ht];exact ht
  rw [cut_len h]
  simp [execOp,ha.ev ex,ha.ev el,Instr.sliceAt,run_underlying ht,run_slice_l (P:=P) (w:=w) (t:=t) (a:=a) (len:=xs.length) (cap:=c) ht' k i h.1 h.2.1,elem_of ht,sizeOf,typeInfo,hi,sliced,vaddr]
theorem X.slH {α:Type} {t et:TypeId} {x hx:Operand} {k':IntKind} {j:Int} {a:Option Addr} {c sz:Nat} {xs:List α} (ht:P.underlying t=some (.slice et)) (hz:(P.info? et).map (·.size)=some sz) (ex:ev f x=some (.slice a xs.length c)) (eh:ev f hx=some (.int k' j))
  (h:(0:Int)≤0∧0≤j∧j≤(xs.length:Int)) (hc:xs.length≤c):Runs P n f w {dst,op:=.slice t x none (some hx) none,type:=ty,pos,after:=af,guard:=gd} (.slice (vaddr a c (0:Int).toNat sz) (cut xs 0 j).length (c-(0:Int).toNat)):=fun b ha=>by
 cases hi:P.info? et with
 |none=>simp [hi] at hz
 |some inf=>
  have hsz:inf.size=sz:=by simpa [hi] using hz
  subst hsz
  have h1:j≤(c:Int):=by omega
  have ht':P.underlying t=some (.slice (P.elem t)):=by rw [elem_of ht];exact ht
  rw [cut_len h]
  simp [execOp,ha.ev ex,ha.ev eh,Instr.sliceAt,run_underlying ht,run_slice_h (P:=P) (w:=w) (t:=t) (a:=a) (len:=xs.length) (cap:=c) ht' k' j h.2.1 h1,elem_of ht,sizeOf,typeInfo,hi,sliced,vaddr]
theorem info_parts' {e:TypeId} {z:Value} {sz by':Nat} (h:(P.info? e).map (fun i=>(i.zero,i.size,i.bytes))=some (some z,sz,by')):∃i,P.info? e=some i∧i.zero=some z∧i.size=sz∧i.bytes=by':=by
 cases hi:P.info? e with
 |none=>simp [hi] at h
 |some i=>simp [hi] at h;exact ⟨i,rfl,h.1,h.2.1,h.2.2⟩
theorem Y.app {α:Type} (k:Nat) {s x:Operand} {t:TypeId} {z:Value} {sz bytes:Nat} (ht:P.underlying t=some (.slice e)) (hinf:(P.info? e).map (fun i=>(i.zero,i.size,i.bytes))=some (some z,sz,bytes)) (hzs:z.cells.size=sz) (hsz:0<sz)
  {v:Value} {xs ys:List α} {cs ds:List Value} (hs:St L w0 w) (hL:L[k]?=some (row e sz v xs.length cs)) (ev1:ev f s=some v) {ad:Option Addr} {c:Nat} (ev2:ev f x=some (.slice ad ys.length c)) (hr:readC w sz ad ys.length c ds) (h1:∀u∈ds,u.oneCell'=true)
  (hb:xs.length+ys.length≤4611686018427387904) (hbytes:(xs.length+ys.length)*bytes≤140737488355328):
  Turns P Q n f w {dst,op:=.call {callee:=.builtin .append,args:=#[s,x],argTypes:=#[t,t]},type:=ty,pos,after:=af,guard:=gd} (fun u w'=>∃a c,u=.slice a (xs++ys).length c∧St (L.set k (row e sz (.slice a (xs++ys).length c) (xs++ys).length (cs++ds))) w0 w'):=by
 obtain ⟨i,hi,h1',h2',h3'⟩:=info_parts' hinf
 intro a ha K hK
 refine Y.append k ht hi h1' h2' h3' hzs hsz hs hL ev1 ev2 hr.len hr.nil hr.src h1 (by unfold maxLen;omega) hbytes a ha K fun u w' h=>hK _ _ ?_
 have hk:k<L.length:=(List.getElem?_eq_some_iff.1 hL).1
 rw [←List.length_append] at h
 obtain ⟨a',c',hv⟩:=rdC.isSlice k (row_rd (e:=e) (sz:=sz) (n:=(xs++ys).length) (v:=u) (cs:=cs++ds)) h (by simp [hk])
 subst hv
 exact ⟨a',c',rfl,h⟩
theorem Y.lit {t:TypeId} {len sz:Nat} {parts:Array (Nat × Operand)} {vs:Array (Nat × Value)} (cs:List Value) (hs:St L w0 w) (hp:∀a,Fits n a f→(parts.map fun (i,x)=>(i,a.eval x))=vs) (hl:cs.length=len*sz) (hm:len≤4611686018427387904)
  (h:∀w,(Instr.buildSlice t len vs).run P w=.ok (.slice (some ⟨w.heap.size,0,none⟩) len len) (w.alloc (.cells cs.toArray e))):
  Turns P Q n f w {dst,op:=.buildSlice t len parts,type:=ty,pos,after:=af,guard:=gd} (fun u w'=>∃a c,u=.slice a len c∧St (row e sz (.slice a len c) len cs::L) w0 w'):=by
 intro a ha K hK
 refine Y.buildSlice (size:=sz) (e:=e) hs hp (by unfold maxLen;omega) (by simp [hl]) h a ha K fun u w' h=>hK _ _ ?_
 obtain ⟨a',c',hv⟩:=rdC.isSlice 0 (row_rd (e:=e) (sz:=sz) (n:=len) (v:=u) (cs:=cs)) h rfl
 subst hv
 exact ⟨a',c',rfl,h⟩
theorem St.row_freeze {sz m:Nat} {v:Value} {cs:List Value} (hs:St (row e sz v m cs::L) w0 w):St (fsl sz v m cs::L) w0 w:=by
 obtain ⟨hx,⟨a,hv,hn,hc⟩|⟨g,off,cap,cur,hv,hc,hm,hb,hs',ht⟩⟩:=hs.row_cases
 ·subst hv;subst hn;subst hc
  exact hs.tail.mk' fun h hl=>⟨fun _=>none,h,fun _=>.inl rfl,(fun _ _ e=>by cases e),Hp.le.refl _,⟨a,0,rfl,by simp,fun _=>⟨rfl,rfl⟩,Nat.le_refl _,fun b _ j u hu=>by simp at hu⟩,hl⟩
 ·subst hv
  refine hb.freeze.mono fun h hg=>⟨_,cap,rfl,hx,(fun h=>nomatch h),hc,fun b hb'=>?_⟩
  obtain rfl:({block:=g,off:=off,spot:=none}:Addr)=b:=Option.some.inj hb'
  refine fun j u hu=>⟨rfl,true,cur,e,(0,0),by simp [Hp.fz,hg],?_⟩
  have hj:j<m*sz:=by have:=(List.getElem?_eq_some_iff.1 hu).1;omega
  rw [←ht,List.getElem?_take,if_pos hj,List.getElem?_drop] at hu
  rw [←Array.getElem?_toList];exact hu
theorem Y.storeRow (k:Nat) {t:TypeId} {x y:Operand} {b o c m:Nat} {i:Int} {v:Value} {cs:List Value} (hs:St L w0 w) (hL:L[k]?=some (row e 1 (.slice (some ⟨b,o,none⟩) m c) m cs)) (hz:(P.info? t).map (·.size)=some 1) (ex:ev f x=some (.pointer (some ⟨b,o+i.toNat*1,none⟩))) (ey:ev f y=some v) (hv1:v.oneCell'=true)
  (h0:0≤i) (h1:i<(m:Int)):Turns P Q n f w {dst,op:=.store t x y,type:=ty,pos,after:=af,guard:=gd} (fun _ w'=>St (L.set k (row e 1 (.slice (some ⟨b,o,none⟩) m c) m (cs.set i.toNat v))) w0 w'):=by
 intro a ha K hK
 have hf:=hs.front k hL
 obtain ⟨hx,⟨a',hv,hn,hc⟩|⟨g,off,cap,cur,hv,hc,hm,hb,hs',ht⟩⟩:=hf.row_cases
 ·omega
 ·simp only [Value.slice.injEq,Option.some.injEq,Addr.mk.injEq,and_true,true_and] at hv
  obtain ⟨⟨rfl,rfl⟩,rfl⟩:=hv
  have hi:i.toNat<m:=by omega
  have hlt:o+i.toNat<cur.size:=by omega
  refine Y.store (w:=w) (a:=⟨b,o+i.toNat*1,none⟩) (u:=cur[o+i.toNat]) hz ex ey hv1 (by rw [hb.cell,Nat.mul_one];exact Array.getElem?_eq_getElem hlt) (hb.free _) a ha K fun v' w' hw=>hK _ _ ?_
  subst hw
  refine St.back k hL ?_
  have:=hb.set (o+i.toNat*1) v
  refine this.row_of_blk (by simpa using hx) hc hm (by simpa using hs') ?_
  rw [Array.toList_setIfInBounds,List.drop_set,if_neg (by omega),show o+i.toNat*1-o=i.toNat by omega,List.take_set,ht]
theorem set_map {α:Type} (g:α→Value) (xs:List α) (i:Nat) (x:α):(xs.map g).set i (g x)=(xs.set i x).map g:=by rw [List.map_set]
theorem cellArr (k:Nat) {b m q:Nat} {pre:List Value} {xs:List Int} {i:Int} (hs:St L w0 w) (hL:L[k]?=some (blk b (pre++xs.map (Value.int kd)).toArray e)) (hq:pre.length=q) (h0:0≤i) (h1:i<(m:Int)) (hl:xs.length=m):
  w.cell? ⟨b,0+q+i.toNat*1,none⟩=some (.int kd (xs.getD i.toNat 0)):=by
 rw [(hs.at k hL).cell]
 have hj:i.toNat<xs.length:=by omega
 simp only [List.getElem?_toArray]
 rw [List.getElem?_append_right (by omega)]
 have:0+q+i.toNat*1-pre.length=i.toNat:=by omega
 rw [this]
 simp [List.getD,hj]
theorem X.loadArr (k:Nat) {t:TypeId} {x:Operand} {b m q:Nat} {pre:List Value} {xs:List Int} {ds:TypeDesc} (hs:St L w0 w) (hL:L[k]?=some (blk b (pre++xs.map (Value.int kd)).toArray e)) (hq:pre.length=q) (hu:P.underlying t=some ds) (hg:aggD ds=true) (hz:(P.info? t).map (·.size)=some m) (hl:xs.length=m) (ex:ev f x=some (.pointer (some ⟨b,0+q,none⟩))):
  Runs P n f w {dst,op:=.load t x,type:=ty,pos,after:=af,guard:=gd} (.agg (xs.map (Value.int kd)).toArray):=by
 refine X.loadAgg hu hg (by simpa [hl] using hz) ex fun j v hv=>?_
 rw [Addr.add_lit,(hs.at k hL).cell]
 simp only [List.getElem?_toArray]
 rw [List.getElem?_append_right (by omega)]
 rw [show 0+q+j-pre.length=j by omega]
 exact hv
theorem Y.storeArr (k:Nat) {t:TypeId} {x y:Operand} {b m q:Nat} {pre:List Value} {xs:List Int} {i v:Int} (hs:St L w0 w) (hL:L[k]?=some (blk b (pre++xs.map (Value.int kd)).toArray e)) (hq:pre.length=q) (hz:(P.info? t).map (·.size)=some 1) (ex:ev f x=some (.pointer (some ⟨b,0+q+i.toNat*1,none⟩))) (ey:ev f y=some (.int kd v)) (h0:0≤i) (h1:i<(m:Int)) (hl:xs.length=m):
  Turns P Q n f w {dst,op:=.store t x y,type:=ty,pos,after:=af,guard:=gd} (fun _ w'=>St (L.set k (blk b (pre++(xs.set i.toNat v).map (Value.int kd)).toArray e)) w0 w'):=by
 have hj:i.toNat<xs.length:=by omega
 have h:=Y.storeAt (P:=P) (Q:=Q) (n:=n) (f:=f) (dst:=dst) (gd:=gd) (ty:=ty) (pos:=pos) (af:=af) k (t:=t) (x:=x) (y:=y) (b:=b) (i:=0+q+i.toNat*1) (v:=.int kd v) (u:=.int kd (xs.getD i.toNat 0)) hs hL hz ex ey rfl (by
  simp only [List.getElem?_toArray]
  rw [List.getElem?_append_right (by omega)]
  rw [show 0+q+i.toNat*1-pre.length=i.toNat by omega]
  simp [List.getD,hj]) rfl rfl
 have e1:(pre++xs.map (Value.int kd)).toArray.setIfInBounds (0+q+i.toNat*1) (.int kd v)=(pre++(xs.set i.toNat v).map (Value.int kd)).toArray:=by
  rw [List.setIfInBounds_toArray]
  congr 1
  rw [List.set_append_right _ _ (by omega),show 0+q+i.toNat*1-pre.length=i.toNat by omega,List.map_set]
 rw [e1] at h
 exact h
theorem X.indexArr {t et:TypeId} {x y:Operand} {m:Nat} {xs:List Int} {k:IntKind} {i:Int} {ds:TypeDesc} (ht:P.underlying t=some (.array m et)) (he:P.underlying et=some ds) (hg:aggD ds=false) (hz:(P.info? et).map (·.size)=some 1) (ex:ev f x=some (.agg (xs.map (Value.int kd)).toArray)) (ey:ev f y=some (.int k i)) (h0:0≤i) (h1:i<(m:Int)) (hl:xs.length=m):
  Runs P n f w {dst,op:=.index t x y,type:=ty,pos,after:=af,guard:=gd} (.int kd (xs.getD i.toNat 0)):=fun a ha=>by
 have hj:i.toNat<xs.length:=by omega
 cases hi:P.info? et with
 |none=>simp [hi] at hz
 |some j=>
  have hsz:j.size=1:=by simpa [hi] using hz
  simp [execOp,ha.ev ex,ha.ev ey,Instr.index,asIntOf,run_underlying ht,h0,h1,sizeOf,typeInfo,hi,hsz,part,run_isAgg he,hg,hj,List.getD]
def sEq (a b:List Int):Bool:=(strOf a).toList==(strOf b).toList
theorem sEq_refl (a:List Int):sEq a a=true:=by simp [sEq]
theorem X.eqStr {t u:TypeId} {x y:Operand} {a b:List Int} (ex:ev f x=some (.string (strOf a))) (ey:ev f y=some (.string (strOf b))):
  Runs P n f w {dst,op:=.binOp .eql t x y u,type:=ty,pos,after:=af,guard:=gd} (.bool (sEq a b)):=X.eqS ex ey
theorem fold_push:∀(xs:List Int) (s:ByteArray),xs.foldl (fun r n=>r.push (UInt8.ofNat n.toNat)) s=s++strOf xs
 |[],s=>by
  apply ByteArray.ext
  simp [strOf,ByteArray.data_append]
 |x::r,s=>by
  rw [List.foldl_cons,fold_push r]
  apply ByteArray.ext
  simp only [ByteArray.data_append,ByteArray.data_push,strOf]
  apply Array.toList_inj.1
  simp
theorem run_bytesStr (a:Option Addr) (c:Nat) (xs:List Int) (h:readC w 1 a xs.length c (xs.map (Value.int .u8))):(Conv.bytesToString (.slice a xs.length c)).run P w=.ok (.string (strOf xs)) w:=by
 cases a with
 |none=>
  have:=(h.nil rfl).1
  have hx:xs=[]:=List.eq_nil_of_length_eq_zero this
  subst hx
  simp [Conv.bytesToString,strOf]
  rfl
 |some b=>
  have hl:=run_loadCells_list (P:=P) w b (xs.map (Value.int .u8)) (h.src b rfl)
  rw [List.length_map] at hl
  rw [run_bytesToString w b xs.length c xs hl,fold_push]
  congr 2
theorem X.bytesStr {s t e:TypeId} {x:Operand} {a:Option Addr} {c:Nat} {xs:List Int} (hs:P.underlying s=some (.slice e)) (he:P.underlying e=some (.int .u8)) (ht:P.underlying t=some .string) (ex:ev f x=some (.slice a xs.length c)) (hr:readC w 1 a xs.length c (xs.map (Value.int .u8))):
  Runs P n f w {dst,op:=.convert s t x,type:=ty,pos,after:=af,guard:=gd} (.string (strOf xs)):=
 fun b ha=>by simp [execOp,ha.ev ex,run_convert_bytes_string w s t e a xs.length c hs he ht,run_bytesStr a c xs hr]
end
structure El (α:Type) where
 n:Nat
 p:List Value→α→As
 size:∀{cs x h},p cs x h→cs.length=n
 mono:∀{cs x h k},p cs x h→Hp.le h k→p cs x k
 pers:∀{cs x h},p cs x h→p cs x (Hp.fz h)
 one:∀{cs x h},p cs x h→∀u∈cs,u.oneCell'=true
def El.int (k:IntKind):El Int:=⟨1,fun cs x _=>cs=[.int k x],fun h=>by rw [h];rfl,fun h _=>h,fun h=>h,fun h u hu=>by rw [h] at hu;simp at hu;subst hu;rfl⟩
def El.bool:El Bool:=⟨1,fun cs x _=>cs=[.bool x],fun h=>by rw [h];rfl,fun h _=>h,fun h=>h,fun h u hu=>by rw [h] at hu;simp at hu;subst hu;rfl⟩
def El.unit:El Unit:=⟨0,fun cs _ _=>cs=[],fun h=>by rw [h];rfl,fun h _=>h,fun h=>h,fun h u hu=>by rw [h] at hu;cases hu⟩
def El.prod {α β:Type} (E:El α) (F:El β):El (α × β):=⟨E.n+F.n,fun cs x h=>∃c d,cs=c++d∧E.p c x.1 h∧F.p d x.2 h,
 fun ⟨c,d,e,h1,h2⟩=>by rw [e,List.length_append,E.size h1,F.size h2],
 fun ⟨c,d,e,h1,h2⟩ l=>⟨c,d,e,E.mono h1 l,F.mono h2 l⟩,
 fun ⟨c,d,e,h1,h2⟩=>⟨c,d,e,E.pers h1,F.pers h2⟩,
 fun ⟨c,d,e,h1,h2⟩ u hu=>by
  rw [e] at hu
  rcases List.mem_append.1 hu with hu|hu
  ·exact E.one h1 u hu
  ·exact F.one h2 u hu⟩
def tie {α:Type} (E:El α) (cs:List Value) (xs:List α):As:=fun h=>∃css:List (List Value),css.length=xs.length∧cs=css.flatten∧∀(i:Nat) (c:List Value) (x:α),css[i]?=some c→xs[i]?=some x→E.p c x h
theorem tie.mono {α:Type} {E:El α} {cs:List Value} {xs:List α} {h k:Hp} (t:tie E cs xs h) (l:h.le k):tie E cs xs k:=let ⟨css,h1,h2,h3⟩:=t;⟨css,h1,h2,fun i c x e1 e2=>E.mono (h3 i c x e1 e2) l⟩
theorem tie.pers {α:Type} {E:El α} {cs:List Value} {xs:List α} {h:Hp} (t:tie E cs xs h):tie E cs xs h.fz:=let ⟨css,h1,h2,h3⟩:=t;⟨css,h1,h2,fun i c x e1 e2=>E.pers (h3 i c x e1 e2)⟩
theorem tie.one {α:Type} {E:El α} {cs:List Value} {xs:List α} {h:Hp} (t:tie E cs xs h):∀u∈cs,u.oneCell'=true:=by
 obtain ⟨css,h1,rfl,h3⟩:=t
 intro u hu
 obtain ⟨c,hc,hu⟩:=List.mem_flatten.1 hu
 obtain ⟨i,hi,hi'⟩:=List.mem_iff_getElem.1 hc
 have hx:i<xs.length:=by omega
 exact E.one (h3 i c xs[i] (by rw [List.getElem?_eq_getElem hi,hi']) (List.getElem?_eq_getElem hx)) u hu
theorem tie.each {α:Type} {E:El α} {css:List (List Value)} {xs:List α} {h:Hp} (h1:css.length=xs.length) (h3:∀(i:Nat) (c:List Value) (x:α),css[i]?=some c→xs[i]?=some x→E.p c x h):∀c∈css,c.length=E.n:=by
 intro c hc
 obtain ⟨i,hi,hi'⟩:=List.mem_iff_getElem.1 hc
 have hx:i<xs.length:=by omega
 exact E.size (h3 i c xs[i] (by rw [List.getElem?_eq_getElem hi,hi']) (List.getElem?_eq_getElem hx))
theorem flat_len {n:Nat}:∀{css:List (List Value)},(∀c∈css,c.length=n)→css.flatten.length=css.length*n
 |[],_=>by simp
 |c::r,h=>by rw [List.flatten_cons,List.length_append,flat_len fun c hc=>h c (.tail _ hc),h c (.head _),List.length_cons,Nat.succ_mul];omega
theorem flat_drop {n:Nat}:∀{css:List (List Value)} (i:Nat),(∀c∈css,c.length=n)→css.flatten.drop (i*n)=(css.drop i).flatten
 |css,0,_=>by simp
 |[],i+1,_=>by simp
 |c::r,i+1,h=>by
  rw [List.flatten_cons,List.drop_succ_cons,←flat_drop i fun c hc=>h c (.tail _ hc),Nat.succ_mul,Nat.add_comm,←List.drop_drop]
  congr 1
  rw [←h c (.head _)];exact List.drop_left
theorem flat_take {n:Nat}:∀{css:List (List Value)} (i:Nat),(∀c∈css,c.length=n)→css.flatten.take (i*n)=(css.take i).flatten
 |css,0,_=>by simp
 |[],i+1,_=>by simp
 |c::r,i+1,h=>by
  have hc:=h c (.head _)
  rw [List.flatten_cons,List.take_succ_cons,List.flatten_cons,←flat_take i fun c hc=>h c (.tail _ hc),List.take_append,hc,Nat.succ_mul,show i*n+n-n=i*n by omega,List.take_of_length_le (by omega)]
theorem tie.len {α:Type} {E:El α} {cs:List Value} {xs:List α} {h:Hp} (t:tie E cs xs h):cs.length=xs.length*E.n:=by
 obtain ⟨css,h1,rfl,h3⟩:=t
 rw [flat_len (tie.each h1 h3),h1]
theorem tie.nil {α:Type} {E:El α} {h:Hp}:tie E [] ([]:List α) h:=⟨[],rfl,rfl,fun i c x e=>by simp at e⟩
theorem tie.append {α:Type} {E:El α} {cs ds:List Value} {xs ys:List α} {h:Hp} (t:tie E cs xs h) (u:tie E ds ys h):tie E (cs++ds) (xs++ys) h:=by
 obtain ⟨css,h1,rfl,h3⟩:=t
 obtain ⟨dss,g1,rfl,g3⟩:=u
 refine ⟨css++dss,by simp [h1,g1],by simp,fun i c x e1 e2=>?_⟩
 by_cases hi:i<css.length
 ·rw [List.getElem?_append_left hi] at e1
  rw [List.getElem?_append_left (by omega)] at e2
  exact h3 i c x e1 e2
 ·rw [List.getElem?_append_right (by omega)] at e1
  rw [List.getElem?_append_right (by omega),←h1] at e2
  exact g3 _ c x e1 e2
theorem tie.one1 {α:Type} {E:El α} {c:List Value} {x:α} {h:Hp} (t:E.p c x h):tie E c [x] h:=⟨[c],rfl,by simp,fun i c' x' e1 e2=>by
 cases i with
 |zero=>simp at e1 e2;subst e1;subst e2;exact t
 |succ i=>simp at e1⟩
theorem tie.cut {α:Type} {E:El α} {cs:List Value} {xs:List α} {h:Hp} (i j:Int) (t:tie E cs xs h):tie E (cutC E.n cs i j) (Walk.cut xs i j) h:=by
 obtain ⟨css,h1,rfl,h3⟩:=t
 have he:=tie.each h1 h3
 refine ⟨(css.drop i.toNat).take (j.toNat-i.toNat),by simp [Walk.cut,h1],?_,fun k c x e1 e2=>?_⟩
 ·unfold cutC
  rw [flat_drop _ he,flat_take _ fun c hc=>he c (List.mem_of_mem_drop hc)]
 ·unfold Walk.cut at e2
  rw [List.getElem?_take] at e1 e2
  split at e1
  ·rename_i hk
   rw [if_pos hk] at e2
   rw [List.getElem?_drop] at e1 e2
   exact h3 _ c x e1 e2
  ·cases e1
theorem tie.set {α:Type} {E:El α} {cs:List Value} {xs:List α} {h:Hp} (hn:E.n=1) (i:Nat) {v:Value} {x:α} (t:tie E cs xs h) (hv:E.p [v] x h):tie E (cs.set i v) (xs.set i x) h:=by
 obtain ⟨css,h1,rfl,h3⟩:=t
 have he:=tie.each h1 h3
 refine ⟨css.set i [v],by simp [h1],?_,fun k c y e1 e2=>?_⟩
 ·rw [hn] at he
  clear h1 h3
  induction css generalizing i with
  |nil=>simp
  |cons c r ih=>
   have hc:=he c (.head _)
   obtain ⟨a,rfl⟩:∃a,c=[a]:=by
    match c,hc with
    |[a],_=>exact ⟨a,rfl⟩
   cases i with
   |zero=>simp
   |succ i=>simp only [List.flatten_cons,List.cons_append,List.nil_append,List.set_cons_succ];rw [ih i fun c hc=>he c (.tail _ hc)]
 ·by_cases hk:i=k
  ·subst hk
   have hx:i<xs.length:=by have:=(List.getElem?_eq_some_iff.1 e2).1;simpa using this
   rw [List.getElem?_set_self (by omega)] at e1
   rw [List.getElem?_set_self hx] at e2
   cases e1;cases e2;exact hv
  ·rw [List.getElem?_set_ne hk] at e1 e2
   exact h3 k c y e1 e2
theorem tie.at {α:Type} {E:El α} {cs:List Value} {xs:List α} {h:Hp} (t:tie E cs xs h) (d:α) {i:Int} (h0:0≤i) (h1:i<(xs.length:Int)):∃c,(∀j u,c[j]?=some u→cs[i.toNat*E.n+j]?=some u)∧E.p c (xs.getD i.toNat d) h:=by
 obtain ⟨css,g1,rfl,g3⟩:=t
 have he:=tie.each g1 g3
 have hx:i.toNat<xs.length:=by omega
 have hc:i.toNat<css.length:=by omega
 refine ⟨css[i.toNat],fun j u hu=>?_,?_⟩
 ·have hd:=flat_drop i.toNat he
  have:(css.flatten.drop (i.toNat*E.n))[j]?=some u:=by
   rw [hd,List.drop_eq_getElem_cons hc,List.flatten_cons]
   rw [List.getElem?_append_left (List.getElem?_eq_some_iff.1 hu).1];exact hu
  rw [List.getElem?_drop] at this;exact this
 ·have e:xs.getD i.toNat d=xs[i.toNat]:=by simp [List.getD,hx]
  rw [e]
  exact g3 _ _ _ (List.getElem?_eq_getElem hc) (List.getElem?_eq_getElem hx)
def El.sl {α:Type} (E:El α):El (List α):=⟨1,fun cs xs h=>∃v ds,cs=[v]∧fsl E.n v xs.length ds h∧tie E ds xs h,fun ⟨v,ds,e,_⟩=>by rw [e];rfl,
 fun ⟨v,ds,e,h1,h2⟩ l=>⟨v,ds,e,seesC.mono h1 (Hp.fz_mono l),tie.mono h2 l⟩,
 fun ⟨v,ds,e,h1,h2⟩=>⟨v,ds,e,fsl.pers h1,tie.pers h2⟩,
 fun ⟨v,ds,e,h1,h2⟩ u hu=>by
  obtain ⟨a,c,hv,_⟩:=h1
  rw [e] at hu;simp at hu;subst hu;subst hv;rfl⟩
theorem tie_int {k:IntKind} {cs:List Value} {xs:List Int} {h:Hp} (t:tie (El.int k) cs xs h):cs=xs.map (Value.int k):=by
 obtain ⟨css,h1,rfl,h3⟩:=t
 induction css generalizing xs with
 |nil=>cases xs with
  |nil=>rfl
  |cons _ _=>simp at h1
 |cons c r ih=>cases xs with
  |nil=>simp at h1
  |cons x xs=>
   have e:c=[.int k x]:=h3 0 c x rfl rfl
   rw [List.flatten_cons,ih (by simpa using h1) fun i c x e1 e2=>h3 (i+1) c x e1 e2,e];rfl
theorem int_tie {k:IntKind}:∀{xs:List Int} {h:Hp},tie (El.int k) (xs.map (Value.int k)) xs h
 |[],_=>tie.nil
 |x::xs,h=>tie.append (cs:=[.int k x]) (xs:=[x]) (tie.one1 (E:=El.int k) rfl) int_tie
section
variable {w w0:World} {L:List As} {A:As} {α:Type} {E:El α}
theorem _root_.Go.Proofs.YtaejcbpijdacmaaGreat.Sep.St.more (k:Nat) {B A:As} (hs:St L w0 w) (hL:L[k]?=some A) (h:∀h,A h→B h) (hB:∀{h},B h→B (Hp.fz h)):St (B::L) w0 w:=hs.dup k hL fun hp hA=>hB (h hp hA)
theorem St.tie_at (k:Nat) {cs:List Value} {xs:List α} (hs:St L w0 w) (hL:L[k]?=some (tie E cs xs)) (d:α) {i:Int} (h0:0≤i) (h1:i<(xs.length:Int)):∃c,(∀j u,c[j]?=some u→cs[i.toNat*E.n+j]?=some u)∧St (E.p c (xs.getD i.toNat d)::L) w0 w:=by
 have h2:St ((fun h=>∃c,(∀j u,c[j]?=some u→cs[i.toNat*E.n+j]?=some u)∧E.p c (xs.getD i.toNat d) h)::L) w0 w:=hs.more k hL (fun h t=>tie.at t d h0 h1) fun ⟨c,e,t⟩=>⟨c,e,E.pers t⟩
 obtain ⟨c,h3⟩:=St.ex.1 h2
 obtain ⟨e,h4⟩:=St.pure.1 h3
 exact ⟨c,e,h4⟩
theorem St.sl_open {c:List Value} {xs:List α} (hs:St ((El.sl E).p c xs::L) w0 w):∃a m ds,c=[.slice a xs.length m]∧St (fsl E.n (.slice a xs.length m) xs.length ds::tie E ds xs::L) w0 w:=by
 have h2:St ((fun h=>∃v ds,c=[v]∧fsl E.n v xs.length ds h∧tie E ds xs h)::L) w0 w:=hs
 obtain ⟨v,h3⟩:=St.ex.1 h2
 obtain ⟨ds,h4⟩:=St.ex.1 h3
 obtain ⟨e,h5⟩:=St.pure.1 h4
 have h6:St (fsl E.n v xs.length ds::tie E ds xs::L) w0 w:=by
  have h7:=h5.more (B:=tie E ds xs) 0 rfl (fun h t=>t.2) tie.pers
  have h8:St (fsl E.n v xs.length ds::tie E ds xs::L) w0 w:=(h7.swap).mono fun h t=>t.1
  exact h8
 obtain ⟨a,m,hv⟩:=rdC.isSlice 0 fsl.rd h6 rfl
 subst hv
 exact ⟨a,m,ds,e,h6⟩
theorem St.sl_close {v:Value} {xs:List α} {ds:List Value} (hs:St (fsl E.n v xs.length ds::tie E ds xs::L) w0 w):St ((El.sl E).p [v] xs::L) w0 w:=by
 have h1:St (Sp [fsl E.n v xs.length ds,tie E ds xs]::L) w0 w:=St.join (m:=[_,_]) hs
 refine h1.mono fun h ⟨h1,h2,_,e1,e2,hf,h3,h4,_,e3,_,ht,_⟩=>⟨v,ds,rfl,seesC.mono hf (Hp.fz_mono e1),tie.mono ht (e3.trans e2)⟩
end
end Go.Proofs.YtaejcbpijdacmaaGreat.Walk

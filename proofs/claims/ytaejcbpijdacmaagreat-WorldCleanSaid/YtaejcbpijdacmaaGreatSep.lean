/- A base for the walks of this seat: assertions on parts of memory, put side by side in a list, and how stores, new blocks and appends turn them; what is frozen may be shared. It speaks of no program. -/
import Derived.WalkKit
import Derived.KernelRfl
import Derived.Deep.Draws
import Derived.Deep.QuietTactic
import Derived.BigQuiet
set_option linter.all false
namespace Go.Proofs.YtaejcbpijdacmaaGreat.Sep
open Go.RowKit
abbrev Hp:=Nat→Option (Bool × Obj)
abbrev As:=Hp→Prop
def Hp.le (h k:Hp):Prop:=∀r o,h r=some o→k r=some o
theorem Hp.le.refl (h:Hp):h.le h:=fun _ _ e=>e
theorem Hp.le.trans {a b c:Hp} (h:a.le b) (k:b.le c):a.le c:=fun r o e=>k r o (h r o e)
def Hp.apart (h k:Hp):Prop:=∀r,h r=none∨k r=none∨∃o,h r=some (true,o)∧k r=some (true,o)
theorem Hp.apart.symm {h k:Hp} (a:h.apart k):k.apart h:=fun r=>by
 rcases a r with e|e|⟨o,e1,e2⟩
 ·exact .inr (.inl e)
 ·exact .inl e
 ·exact .inr (.inr ⟨o,e2,e1⟩)
theorem Hp.apart.right {h k k':Hp} (a:h.apart k) (l:k'.le k):h.apart k':=fun r=>by
 cases e':k' r with
 |none=>exact .inr (.inl rfl)
 |some x=>
  rcases a r with e|e|⟨o,e1,e2⟩
  ·exact .inl e
  ·rw [l r x e'] at e;cases e
  ·rw [l r x e'] at e2;cases e2;exact .inr (.inr ⟨o,e1,rfl⟩)
theorem Hp.apart.left {h k h':Hp} (a:h.apart k) (l:h'.le h):h'.apart k:=(a.symm.right l).symm
def Hp.minus (h k:Hp):Hp:=fun r=>match k r with
 |some (false,_)=>none
 |_=>h r
theorem Hp.minus_le (h k:Hp):(h.minus k).le h:=fun r o e=>by
 unfold Hp.minus at e
 split at e
 ·cases e
 ·exact e
theorem Hp.le_minus {h k g:Hp} (l:g.le h) (a:k.apart g):g.le (h.minus k):=fun r o e=>by
 unfold Hp.minus
 split
 ·rename_i o' hk
  rcases a r with e' |e' |⟨o'',e1,e2⟩
  ·rw [e'] at hk;cases hk
  ·rw [e'] at e;cases e
  ·rw [e1] at hk;cases hk
 ·exact l r o e
theorem Hp.apart_minus {h k:Hp} (l:k.le h):k.apart (h.minus k):=fun r=>by
 cases e:k r with
 |none=>exact .inl rfl
 |some x=>
  obtain ⟨f,o⟩:=x
  cases f with
  |false=>right;left;simp [Hp.minus,e]
  |true=>right;right;exact ⟨o,rfl,by simp [Hp.minus,e,l r _ e]⟩
def Hp.fz (h:Hp):Hp:=fun r=>match h r with
 |some (true,o)=>some (true,o)
 |_=>none
theorem Hp.fz_le (h:Hp):h.fz.le h:=fun r o e=>by
 unfold Hp.fz at e
 split at e
 ·rename_i o' hk;rw [hk];exact e
 ·cases e
theorem Hp.fz_mono {h k:Hp} (l:h.le k):h.fz.le k.fz:=fun r o e=>by
 unfold Hp.fz at e ⊢
 split at e
 ·rename_i o' hk;rw [l r _ hk];exact e
 ·cases e
theorem Hp.fz_fz (h:Hp):h.fz.fz=h.fz:=by
 funext r
 unfold Hp.fz
 cases h r with
 |none=>rfl
 |some x=>obtain ⟨f,o⟩:=x;cases f<;>rfl
theorem Hp.fz_apart (h:Hp):h.fz.apart h:=fun r=>by
 cases e:h r with
 |none=>exact .inr (.inl rfl)
 |some x=>
  obtain ⟨f,o⟩:=x
  cases f with
  |false=>left;simp [Hp.fz,e]
  |true=>right;right;exact ⟨o,by simp [Hp.fz,e],rfl⟩
def Sp:List As→As
 |[]=>fun _=>True
 |A::l=>fun h=>∃h1 h2:Hp,h1.apart h2∧h1.le h∧h2.le h∧A h1∧Sp l h2
theorem Sp.le:∀{l:List As} {h k:Hp},Sp l h→h.le k→Sp l k
 |[],_,_,_,_=>trivial
 |_::_,_,_,⟨h1,h2,hd,e1,e2,hA,hl⟩,hk=>⟨h1,h2,hd,e1.trans hk,e2.trans hk,hA,hl⟩
theorem Sp.swap {A B:As} {l:List As} {h:Hp}:Sp (A::B::l) h→Sp (B::A::l) h:=by
 rintro ⟨h1,h2,hd,e1,e2,hA,h3,h4,hd',e3,e4,hB,hl⟩
 exact ⟨h3,h.minus h3,Hp.apart_minus (e3.trans e2),e3.trans e2,Hp.minus_le _ _,hB,h1,h4,hd.right e4,Hp.le_minus e1 (hd.right e3).symm,Hp.le_minus (e4.trans e2) hd',hA,hl⟩
theorem Sp.tail {A:As} {l:List As} {h:Hp}:Sp (A::l) h→Sp l h:=fun ⟨_,_,_,_,e2,_,hl⟩=>hl.le e2
theorem Sp.head_mono {A B:As} {l:List As} {h:Hp} (hs:Sp (A::l) h) (k:∀h,A h→B h):Sp (B::l) h:=
 let ⟨h1,h2,hd,e1,e2,hA,hl⟩:=hs;⟨h1,h2,hd,e1,e2,k _ hA,hl⟩
theorem Sp.tail_mono {A:As} {l l':List As} {h:Hp} (hs:Sp (A::l) h) (k:∀h,Sp l h→Sp l' h):Sp (A::l') h:=
 let ⟨h1,h2,hd,e1,e2,hA,hl⟩:=hs;⟨h1,h2,hd,e1,e2,hA,k _ hl⟩
theorem Sp.front:∀{l:List As} {h:Hp} (k:Nat) {A:As},Sp l h→l[k]?=some A→Sp (A::l.eraseIdx k) h
 |[],_,_,_,_,e=>by simp at e
 |B::l,h,0,A,hs,e=>by simp at e;subst e;exact hs
 |B::l,h,k+1,A,hs,e=>by
  have h1:Sp (B::A::l.eraseIdx k) h:=hs.tail_mono fun h' hl=>Sp.front k hl (by simpa using e)
  exact h1.swap
theorem Sp.join:∀{l l':List As} {h:Hp},Sp (l++l') h→Sp (Sp l::l') h
 |[],l',h,hs=>⟨fun _=>none,h,fun _=>.inl rfl,(fun _ _ e=>by cases e),Hp.le.refl h,trivial,hs⟩
 |A::l,l',h,hs=>by
  obtain ⟨h1,h2,hd,e1,e2,hA,hl⟩:=hs
  obtain ⟨h3,h4,hd',e3,e4,hB,hl'⟩:=Sp.join hl
  exact ⟨h.minus h4,h4,(Hp.apart_minus (e4.trans e2)).symm,Hp.minus_le _ _,e4.trans e2,⟨h1,h3,hd.right e3,Hp.le_minus e1 (hd.right e4).symm,Hp.le_minus (e3.trans e2) hd'.symm,hA,hB⟩,hl'⟩
theorem Sp.open:∀{l l':List As} {h:Hp},Sp (Sp l::l') h→Sp (l++l') h
 |[],_,_,hs=>hs.tail
 |A::l,l',h,hs=>by
  obtain ⟨h1,h2,hd,e1,e2,⟨h3,h4,hd',e3,e4,hA,hl⟩,hl'⟩:=hs
  exact ⟨h3,h.minus h3,Hp.apart_minus (e3.trans e1),e3.trans e1,Hp.minus_le _ _,hA,Sp.open ⟨h4,h2,hd.left e4,Hp.le_minus (e4.trans e1) hd',Hp.le_minus e2 (hd.left e3),hl,hl'⟩⟩
theorem Sp.dup {l:List As} {h:Hp} (k:Nat) {A B:As} (hs:Sp l h) (e:l[k]?=some B) (hB:∀h,B h→A h.fz):Sp (A::l) h:=by
 obtain ⟨h1,h2,hd,e1,e2,hb,hl⟩:=hs.front k e
 refine ⟨h1.fz,h,?_,(Hp.fz_le _).trans e1,Hp.le.refl h,hB _ hb,hs⟩
 exact (Hp.fz_apart h).left (Hp.fz_mono e1)
theorem Sp.ex {α:Type} {A:α→As} {l:List As} {h:Hp}:Sp ((fun h=>∃x,A x h)::l) h↔∃x,Sp (A x::l) h:=
 ⟨fun ⟨h1,h2,hd,e1,e2,⟨x,hA⟩,hl⟩=>⟨x,h1,h2,hd,e1,e2,hA,hl⟩,fun ⟨x,h1,h2,hd,e1,e2,hA,hl⟩=>⟨h1,h2,hd,e1,e2,⟨x,hA⟩,hl⟩⟩
theorem Sp.pure {p:Prop} {A:As} {l:List As} {h:Hp}:Sp ((fun h=>p∧A h)::l) h↔p∧Sp (A::l) h:=
 ⟨fun ⟨h1,h2,hd,e1,e2,⟨x,hA⟩,hl⟩=>⟨x,h1,h2,hd,e1,e2,hA,hl⟩,fun ⟨x,h1,h2,hd,e1,e2,hA,hl⟩=>⟨h1,h2,hd,e1,e2,⟨x,hA⟩,hl⟩⟩
def Hp.on (h:Hp) (w:World):Prop:=∀r f o,h r=some (f,o)→w.heap[r]?=some o
structure St (l:List As) (w0 w:World):Prop where
 os:w.os=w0.os
 tape:w.tape=w0.tape
 output:w.output=w0.output
 sp:∃h:Hp,h.on w∧Sp l h
def blk (b:Nat) (c:Array Value) (t:TypeId):As:=fun h=>h b=some (false,.cells c t (0,0))
section
variable {l:List As} {w0 w:World} {A B:As}
theorem St.mk' (hs:St l w0 w) {l':List As} (k:∀h,Sp l h→Sp l' h):St l' w0 w:=let ⟨h,ho,hl⟩:=hs.sp;⟨hs.os,hs.tape,hs.output,h,ho,k h hl⟩
theorem St.front (k:Nat) (hs:St l w0 w) (e:l[k]?=some A):St (A::l.eraseIdx k) w0 w:=hs.mk' fun _ h=>h.front k e
theorem St.swap (hs:St (A::B::l) w0 w):St (B::A::l) w0 w:=hs.mk' fun _ h=>h.swap
theorem St.tail (hs:St (A::l) w0 w):St l w0 w:=hs.mk' fun _ h=>h.tail
theorem St.mono (hs:St (A::l) w0 w) (k:∀h,A h→B h):St (B::l) w0 w:=hs.mk' fun _ h=>h.head_mono k
theorem St.join {m:List As} (hs:St (m++l) w0 w):St (Sp m::l) w0 w:=hs.mk' fun _ h=>h.join
theorem St.open {m:List As} (hs:St (Sp m::l) w0 w):St (m++l) w0 w:=hs.mk' fun _ h=>h.open
theorem St.dup (k:Nat) (hs:St l w0 w) (e:l[k]?=some B) (hB:∀h,B h→A h.fz):St (A::l) w0 w:=hs.mk' fun _ h=>h.dup k e hB
theorem St.ex {α:Type} {A:α→As}:St ((fun h=>∃x,A x h)::l) w0 w↔∃x,St (A x::l) w0 w:=
 ⟨fun hs=>let ⟨h,ho,hl⟩:=hs.sp;let ⟨x,hx⟩:=Sp.ex.1 hl;⟨x,hs.os,hs.tape,hs.output,h,ho,hx⟩,fun ⟨x,hs⟩=>hs.mk' fun _ h=>Sp.ex.2 ⟨x,h⟩⟩
theorem St.pure {p:Prop}:St ((fun h=>p∧A h)::l) w0 w↔p∧St (A::l) w0 w:=
 ⟨fun hs=>let ⟨h,ho,hl⟩:=hs.sp;let ⟨x,hx⟩:=Sp.pure.1 hl;⟨x,hs.os,hs.tape,hs.output,h,ho,hx⟩,fun ⟨x,hs⟩=>hs.mk' fun _ h=>Sp.pure.2 ⟨x,h⟩⟩
theorem St.tells (k:Nat) {p:Prop} (hs:St l w0 w) (e:l[k]?=some A) (t:∀h:Hp,A h→h.on w→p):p:=by
 obtain ⟨h,ho,hl⟩:=(hs.front k e).sp
 obtain ⟨h1,h2,_,e1,_,hA,_⟩:=hl
 exact t h1 hA fun r f o e=>ho r f o (e1 r _ e)
theorem St.blkAt {b:Nat} {c:Array Value} {t:TypeId} (hs:St (blk b c t::l) w0 w):w.heap[b]?=some (.cells c t (0,0)):=
 hs.tells 0 rfl fun _ hb ho=>ho _ _ _ hb
theorem St.cell {b:Nat} {c:Array Value} {t:TypeId} (hs:St (blk b c t::l) w0 w) (i:Nat):w.cell? ⟨b,i,none⟩=c[i]?:=by
 simp [World.cell?,hs.blkAt]
theorem St.free {b:Nat} {c:Array Value} {t:TypeId} (hs:St (blk b c t::l) w0 w) (i:Nat):w.frozen? ⟨b,i,none⟩=false:=by
 simp [World.frozen?,hs.blkAt]
theorem St.lt {b:Nat} {c:Array Value} {t:TypeId} (hs:St (blk b c t::l) w0 w):b<w.heap.size:=lt_of_block hs.blkAt
theorem St.turnF (fl:Bool) {b:Nat} {c:Array Value} {t:TypeId} {o:Obj} {w':World} (hs:St (blk b c t::l) w0 w) (hos:w'.os=w.os) (htape:w'.tape=w.tape) (hout:w'.output=w.output)
  (hb:w'.heap[b]?=some o) (ho:∀r,r≠b→r<w.heap.size→w'.heap[r]?=w.heap[r]?):St ((fun h=>h b=some (fl,o))::l) w0 w':=by
 obtain ⟨h,hon,h1,h2,hd,e1,e2,hA,hl⟩:=hs.sp
 have hn:h2 b=none:=by
  rcases hd b with e|e|⟨o,e,_⟩
  ·unfold blk at hA;rw [hA] at e;cases e
  ·exact e
  ·unfold blk at hA;rw [hA] at e;cases e
 refine ⟨hos.trans hs.os,htape.trans hs.tape,hout.trans hs.output,fun r=>if r=b then some (fl,o) else h2 r,fun r f o' e=>?_,fun r=>if r=b then some (fl,o) else none,h2,fun r=>?_,fun r x e=>?_,fun r x e=>?_,by simp,hl⟩
 ·dsimp only at e
  split at e
  ·rename_i er;subst er;cases e;exact hb
  ·rename_i er
   have:=hon r f o' (e2 r _ e)
   rw [ho r er (lt_of_block this)];exact this
 ·by_cases er:r=b
  ·subst er;exact .inr (.inl hn)
  ·exact .inl (if_neg er)
 ·dsimp only at e ⊢
  split at e
  ·rename_i er;rw [if_pos er];exact e
  ·cases e
 ·dsimp only
  rw [if_neg]
  ·exact e
  ·intro er;subst er;rw [hn] at e;cases e
theorem St.turn {b:Nat} {c c':Array Value} {t t':TypeId} {w':World} (hs:St (blk b c t::l) w0 w) (hos:w'.os=w.os) (htape:w'.tape=w.tape) (hout:w'.output=w.output)
  (hb:w'.heap[b]?=some (.cells c' t' (0,0))) (ho:∀r,r≠b→r<w.heap.size→w'.heap[r]?=w.heap[r]?):St (blk b c' t'::l) w0 w':=hs.turnF false hos htape hout hb ho
theorem St.freeze {b:Nat} {c:Array Value} {t:TypeId} (hs:St (blk b c t::l) w0 w):St ((fun h=>h b=some (true,.cells c t (0,0)))::l) w0 w:=hs.turnF true rfl rfl rfl hs.blkAt fun _ _ _=>rfl
theorem St.set {b:Nat} {c:Array Value} {t:TypeId} (hs:St (blk b c t::l) w0 w) (i:Nat) (v:Value):St (blk b (c.setIfInBounds i v) t::l) w0 (w.setCell ⟨b,i,none⟩ v):=by
 refine hs.turn rfl rfl rfl ?_ (fun r hr _=>heap_setCell_other w ⟨b,i,none⟩ r v hr)
 simp [World.setCell,Array.getElem?_modify,hs.blkAt]
theorem St.grow {w':World} (hs:St l w0 w) (hos:w'.os=w.os) (htape:w'.tape=w.tape) (hout:w'.output=w.output) (ho:∀r,r<w.heap.size→w'.heap[r]?=w.heap[r]?):St l w0 w':=by
 obtain ⟨h,hon,hl⟩:=hs.sp
 refine ⟨hos.trans hs.os,htape.trans hs.tape,hout.trans hs.output,h,fun r f o e=>?_,hl⟩
 have:=hon r f o e
 rw [ho r (lt_of_block this)];exact this
theorem St.drew (hs:St l w0 w):St l w0 w.drew:=⟨hs.os,hs.tape,hs.output,hs.sp⟩
theorem St.freshO {w':World} {b:Nat} {o:Obj} (hs:St l w0 w) (hos:w'.os=w.os) (htape:w'.tape=w.tape) (hout:w'.output=w.output) (hb:w'.heap[b]?=some o) (hn:w.heap.size≤b)
  (ho:∀r,r<w.heap.size→w'.heap[r]?=w.heap[r]?):St ((fun h=>h b=some (false,o))::l) w0 w':=by
 obtain ⟨h,hon,hl⟩:=hs.sp
 have hno:h b=none:=by
  cases e:h b with
  |none=>rfl
  |some x=>
   have:=lt_of_block (hon b x.1 x.2 e);omega
 refine ⟨hos.trans hs.os,htape.trans hs.tape,hout.trans hs.output,fun r=>if r=b then some (false,o) else h r,fun r f o' e=>?_,fun r=>if r=b then some (false,o) else none,h,fun r=>?_,fun r x e=>?_,fun r x e=>?_,by simp,hl⟩
 ·dsimp only at e
  split at e
  ·rename_i er;subst er;cases e;exact hb
  ·have:=hon r f o' e
   rw [ho r (lt_of_block this)];exact this
 ·by_cases e:r=b
  ·subst e;exact .inr (.inl hno)
  ·exact .inl (if_neg e)
 ·dsimp only at e ⊢
  split at e
  ·rename_i er;rw [if_pos er];exact e
  ·cases e
 ·dsimp only
  rw [if_neg]
  ·exact e
  ·intro er;subst er;rw [hno] at e;cases e
theorem St.fresh {w':World} {b:Nat} {c:Array Value} {t:TypeId} (hs:St l w0 w) (hos:w'.os=w.os) (htape:w'.tape=w.tape) (hout:w'.output=w.output) (hb:w'.heap[b]?=some (.cells c t (0,0))) (hn:w.heap.size≤b)
  (ho:∀r,r<w.heap.size→w'.heap[r]?=w.heap[r]?):St (blk b c t::l) w0 w':=hs.freshO hos htape hout hb hn ho
theorem St.alloc (hs:St l w0 w) (c:Array Value) (t:TypeId):St (blk w.heap.size c t::l) w0 (w.alloc (.cells c t)):=
 hs.fresh rfl rfl rfl (heap_alloc_new w _) (Nat.le_refl _) (fun r hr=>Below.heap_alloc w _ r hr)
theorem St.allocO (hs:St l w0 w) (o:Obj):St ((fun h=>h w.heap.size=some (false,o))::l) w0 (w.alloc o):=
 hs.freshO rfl rfl rfl (heap_alloc_new w _) (Nat.le_refl _) (fun r hr=>Below.heap_alloc w _ r hr)
end
def row (e:TypeId) (size:Nat) (v:Value) (n:Nat) (xs:List Value):As:=fun h=>
 xs.length=n*size∧((∃a,v=.slice a 0 0∧n=0)∨
  ∃g off cap cur,v=.slice (some ⟨g,off,none⟩) n cap∧n≤cap∧cap≤maxLen∧h g=some (false,.cells cur e (0,0))∧off+cap*size≤cur.size∧(cur.toList.drop off).take (n*size)=xs)
section
variable {P:Program} {l:List As} {w0 w:World}
theorem row_nil (l:List As) {w0 w:World} (e size:Nat) (a:Option Addr) (hs:St l w0 w):St (row e size (.slice a 0 0) 0 []::l) w0 w:=
 hs.mk' fun h hl=>⟨fun _=>none,h,fun _=>.inl rfl,(fun _ _ e=>by cases e),Hp.le.refl _,⟨by simp,.inl ⟨a,rfl,rfl⟩⟩,hl⟩
theorem St.row_cases {e size n:Nat} {v:Value} {xs:List Value} (hs:St (row e size v n xs::l) w0 w):
  xs.length=n*size∧((∃a,v=.slice a 0 0∧n=0∧xs=[])∨
   ∃g off cap cur,v=.slice (some ⟨g,off,none⟩) n cap∧n≤cap∧cap≤maxLen∧St (blk g cur e::l) w0 w∧off+cap*size≤cur.size∧(cur.toList.drop off).take (n*size)=xs):=by
 obtain ⟨h,ho,h1,h2,hd,e1,e2,⟨hx,hA⟩,hl⟩:=hs.sp
 refine ⟨hx,?_⟩
 rcases hA with ⟨a,hv,hn⟩|⟨g,off,cap,cur,hv,hc,hm,hg,hs',ht⟩
 ·left;exact ⟨a,hv,hn,List.eq_nil_of_length_eq_zero (by rw [hx,hn];simp)⟩
 ·right;exact ⟨g,off,cap,cur,hv,hc,hm,⟨hs.os,hs.tape,hs.output,h,ho,h1,h2,hd,e1,e2,hg,hl⟩,hs',ht⟩
theorem St.row_of_blk {e size n g off cap:Nat} {cur:Array Value} {xs:List Value} (hs:St (blk g cur e::l) w0 w) (hx:xs.length=n*size) (hn:n≤cap) (hm:cap≤maxLen) (hc:off+cap*size≤cur.size)
  (ht:(cur.toList.drop off).take (n*size)=xs):St (row e size (.slice (some ⟨g,off,none⟩) n cap) n xs::l) w0 w:=
 hs.mono fun _ hb=>⟨hx,.inr ⟨g,off,cap,cur,rfl,hn,hm,hb,hc,ht⟩⟩
theorem St.row_cell {e size n g off cap:Nat} {xs:List Value} (hs:St (row e size (.slice (some ⟨g,off,none⟩) n cap) n xs::l) w0 w) (j:Nat) (hj:j<n*size):w.cell? ⟨g,off+j,none⟩=xs[j]?:=by
 obtain ⟨hx,⟨a,hv,hn,_⟩|⟨g',off',cap',cur,hv,hc,hm,hb,hs',ht⟩⟩:=hs.row_cases
 ·subst hn;simp at hj
 ·simp only [Value.slice.injEq,Option.some.injEq,Addr.mk.injEq,and_true,true_and] at hv
  obtain ⟨⟨rfl,rfl⟩,rfl⟩:=hv
  rw [hb.cell,←ht,List.getElem?_take,if_pos hj,List.getElem?_drop]
  simp
theorem nil_of_len0 {xs:List Value} (h:xs.length=0):xs=[]:=List.eq_nil_of_length_eq_zero h
def setMany (c:Array Value):Nat→List Value→Array Value
 |_,[]=>c
 |o,v::r=>setMany (c.setIfInBounds o v) (o+1) r
theorem St.setCells {b:Nat} {t:TypeId}:∀(vs:List Value) (o:Nat) (c:Array Value) (w:World),St (blk b c t::l) w0 w→St (blk b (setMany c o vs) t::l) w0 (w.setCells b o vs)
 |[],_,_,_,hs=>hs
 |v::r,o,c,w,hs=>St.setCells r (o+1) (c.setIfInBounds o v) (w.setCell ⟨b,o,none⟩ v) (hs.set o v)
theorem size_setMany:∀(vs:List Value) (o:Nat) (c:Array Value),(setMany c o vs).size=c.size
 |[],_,_=>rfl
 |v::r,o,c=>by rw [setMany,size_setMany r];simp
theorem toList_setMany:∀(vs:List Value) (o:Nat) (c:Array Value),o+vs.length≤c.size→(setMany c o vs).toList=c.toList.take o++vs++c.toList.drop (o+vs.length)
 |[],o,c,_=>by simp [setMany]
 |v::r,o,c,h=>by
  have hlt:o<c.toList.length:=by simp at h ⊢;omega
  rw [setMany,toList_setMany r (o+1) _ (by simp at h ⊢;omega)]
  simp only [Array.toList_setIfInBounds,List.length_cons]
  rw [List.set_eq_take_append_cons_drop,if_pos hlt]
  rw [List.take_append,List.drop_append]
  have e1:(c.toList.take o).length=o:=by rw [List.length_take];omega
  have e2:(List.take o c.toList).take (o+1)=c.toList.take o:=by rw [List.take_take,Nat.min_eq_right (by omega)]
  have e3:(List.take o c.toList).drop (o+1+r.length)=[]:=List.drop_eq_nil_of_le (by rw [e1];omega)
  rw [e1,e2,e3,show o+1-o=1 by omega,show o+1+r.length-o=r.length+1 by omega,List.take_succ_cons,List.take_zero,List.drop_succ_cons,List.drop_drop,show o+1+r.length=o+(r.length+1) by omega]
  simp
theorem take_zero_news {xs news:List Value} {e size n m:Nat} (_:e=e) (hx:xs.length=n*size) (hl:news.length=m*size):(xs++news).length=(n+m)*size:=by rw [List.length_append,hx,hl,Nat.add_mul]
theorem run_append_sep (t ty e:TypeId) (i:TypeInfo) (z:Value) (size bytes:Nat) (ht:P.underlying t=some (.slice e)) (hi:P.info? e=some i) (hz:i.zero=some z)
  (hsize:i.size=size) (hby:i.bytes=bytes) (hzs:z.cells.size=size) (hsz:0<size)
  (v:Value) (n:Nat) (xs:List Value) (hs:St (row e size v n xs::l) w0 w)
  (a:Option Addr) (m c:Nat) (news:List Value) (hl:news.length=m*size) (ha:a=none→m=0∧c=0) (hnews:∀b,a=some b→∀j u,news[j]?=some u→w.cell? (b.add j)=some u) (h1:∀u∈news,u.oneCell'=true)
  (h63:n+m≤maxLen) (hbytes:(n+m)*bytes≤140737488355328):
  ∃v' w',(Builtin.append_ #[t,t] ty #[v,.slice a m c]).run P w=.ok v' w'∧St (row e size v' (n+m) (xs++news)::l) w0 w'∧w.heap.size≤w'.heap.size:=by
 obtain ⟨hx,hcase⟩:=hs.row_cases
 have hlen:(xs++news).length=(n+m)*size:=take_zero_news (e:=e) rfl hx hl
 -- what a new row is
 have fresh:∀(w1:World) (k:Nat),n+m≤k→k≤maxLen→w1.heap=w.heap→w1.os=w.os→w1.tape=w.tape→w1.output=w.output→
   St (row e size (.slice (some ⟨w.heap.size,0,none⟩) (n+m) k) (n+m) (xs++news)::l) w0 (w1.alloc (.cells (xs.toArray++news.toArray++Builtin.zeroCells z.cells (k-(n+m))) e)):=by
  intro w1 k hk hkm hh hos htp hou
  have hb:St (blk w.heap.size (xs.toArray++news.toArray++Builtin.zeroCells z.cells (k-(n+m))) e::l) w0 (w1.alloc (.cells (xs.toArray++news.toArray++Builtin.zeroCells z.cells (k-(n+m))) e)):=by
   refine hs.tail.fresh hos htp hou ?_ (Nat.le_refl _) (fun r hr=>?_)
   ·have:=heap_alloc_new w1 (.cells (xs.toArray++news.toArray++Builtin.zeroCells z.cells (k-(n+m))) e)
    rw [hh] at this;exact this
   ·rw [Below.heap_alloc w1 _ r (by rw [hh];exact hr),hh]
  refine hb.row_of_blk hlen hk hkm ?_ ?_
  ·simp only [Array.size_append,List.size_toArray,size_zeroCells,hzs,hx,hl,←Nat.add_mul]
   rw [Nat.zero_add,show n+m+(k-(n+m))=k by omega]
   exact Nat.le_refl _
  ·simp only [Array.toList_append,List.append_assoc,List.drop_zero]
   rw [←List.append_assoc,←hlen]
   exact List.take_left
 by_cases hm:m=0
 ·subst hm
  have hn:news=[]:=nil_of_len0 (by rw [hl];simp)
  subst hn
  refine ⟨v,w,?_,by simpa using hs,Nat.le_refl _⟩
  rcases hcase with ⟨ao,rfl,rfl,rfl⟩|⟨g,off,cap,cur,rfl,hnc,hcm,hb,hcs,htk⟩
  ·cases a with
   |none=>
    obtain ⟨_,rfl⟩:=ha rfl
    cases ao<;>simp [Builtin.append_,run_underlying ht,sizeOf,typeInfo,hi,Builtin.lenOf,Builtin.firstCells,storeCells]
   |some b=>
    have hf:=run_firstCells_some (P:=P) w i.size 0 b 0 c [] (by simp) (by simp)
    cases ao<;>simp [Builtin.append_,run_underlying ht,sizeOf,typeInfo,hi,Builtin.lenOf,hf,storeCells]
  ·cases a with
   |none=>
    obtain ⟨_,rfl⟩:=ha rfl
    simp [Builtin.append_,run_underlying ht,sizeOf,typeInfo,hi,Builtin.lenOf,Builtin.firstCells,storeCells,hnc]
   |some b=>
    have hf:=run_firstCells_some (P:=P) w i.size 0 b 0 c [] (by simp) (by simp)
    simp [Builtin.append_,run_underlying ht,sizeOf,typeInfo,hi,Builtin.lenOf,hf,storeCells,hnc]
 ·obtain ⟨b,rfl⟩:∃b,a=some b:=by
   cases a with
   |none=>exact absurd (ha rfl).1 hm
   |some b=>exact ⟨b,rfl⟩
  have hnews':=hnews b rfl
  subst hsize
  subst hby
  have hge:=grownCap_ge w (n+m) 0 e
  rcases hcase with ⟨ao,rfl,rfl,rfl⟩|⟨g,off,cap,cur,rfl,hnc,hcm,hb,hcs,htk⟩
  ·have hkm:=grownCap_le_maxLen w (0+m) 0 e h63
   cases ao with
   |none=>
    have hr:=run_append_nil (P:=P) w t ty e i z ht hi hz b m c news hl hnews' (by omega) (by simp only [maxLen] at h63;omega) (by simp only [Nat.zero_add] at hbytes;omega)
    have hf:=fresh w.drew (grownCap w (0+m) 0 e) hge hkm rfl rfl rfl rfl
    simp only [Nat.zero_add,List.nil_append,Array.empty_append] at hf ⊢
    exact ⟨_,_,hr,hf,by simp⟩
   |some bo=>
    have hr:=run_append_grow (P:=P) w t ty e i z ht hi hz bo 0 0 [] (by simp) (by simp) b m c news hl hnews' (by omega) (by simp only [maxLen] at h63;omega) (growslice_fits (by omega) hbytes)
    have hf:=fresh w.drew (grownCap w (0+m) 0 e) hge hkm rfl rfl rfl rfl
    exact ⟨_,_,hr,hf,by simp⟩
  ·by_cases hroom:n+m≤cap
   ·have hfit:off+n*i.size+news.length≤cur.size:=by
     have:(n+m)*i.size≤cap*i.size:=Nat.mul_le_mul_right _ hroom
     rw [Nat.add_mul] at this;omega
    have hr:=run_append_room_cells (P:=P) w t ty e i ht hi g off n cap b m c news hl hnews' h1 hroom (fun j hj=>by rw [hb.cell];simp;omega) (fun j _=>hb.free _)
    refine ⟨_,_,hr,?_,?_⟩
    ·refine (St.setCells news (off+n*i.size) cur w hb).row_of_blk hlen hroom hcm (by rw [size_setMany];exact hcs) ?_
     rw [toList_setMany _ _ _ hfit]
     have hcl:cur.toList.length=cur.size:=Array.length_toList
     have e1:(cur.toList.take (off+n*i.size)).length=off+n*i.size:=by rw [List.length_take];omega
     rw [List.append_assoc,List.drop_append,show off-(cur.toList.take (off+n*i.size)).length=0 by omega,List.drop_zero,←List.append_assoc]
     have e2:(cur.toList.take (off+n*i.size)).drop off=xs:=by rw [List.drop_take,show off+n*i.size-off=n*i.size by omega];exact htk
     rw [e2,←hlen]
     exact List.take_left
    ·have:∀(vs:List Value) (o:Nat) (w:World),(w.setCells g o vs).heap.size=w.heap.size:=by
      intro vs
      induction vs with
      |nil=>intro _ _;rfl
      |cons v r ih=>intro o w;rw [World.setCells,ih];simp
     rw [this];exact Nat.le_refl _
   ·have holds:∀j u,xs[j]?=some u→w.cell? ((⟨g,off,none⟩:Addr).add j)=some u:=by
     intro j u hu
     have hj:j<n*i.size:=by
      have:=(List.getElem?_eq_some_iff.1 hu).1;omega
     rw [Addr.add_lit,hs.row_cell j hj];exact hu
    have hr:=run_append_grow (P:=P) w t ty e i z ht hi hz ⟨g,off,none⟩ n cap xs hx holds b m c news hl hnews' (by omega) (by simp only [maxLen] at h63;omega) (growslice_fits (by omega) hbytes)
    have hf:=fresh w.drew (grownCap w (n+m) cap e) (grownCap_ge w (n+m) cap e) (grownCap_le_maxLen w (n+m) cap e h63) rfl rfl rfl rfl
    exact ⟨_,_,hr,hf,by simp⟩
end
theorem Sp.perm {l l':List As} (hp:l.Perm l'):∀{h:Hp},Sp l h→Sp l' h:=by
 induction hp with
 |nil=>exact fun h=>h
 |cons A _ ih=>exact fun hs=>hs.tail_mono fun _ h=>ih h
 |swap A B l=>exact fun hs=>hs.swap
 |trans _ _ ih1 ih2=>exact fun hs=>ih2 (ih1 hs)
theorem perm_set {α:Type}:∀{l:List α} (k:Nat) {A B:α},l[k]?=some A→(B::l.eraseIdx k).Perm (l.set k B)
 |[],_,_,_,e=>by simp at e
 |_::l,0,_,_,_=>by simp
 |C::l,k+1,A,B,e=>by
  simp only [List.eraseIdx_cons_succ,List.set_cons_succ]
  exact (List.Perm.swap C B _).trans ((perm_set k (A:=A) (by simpa using e)).cons C)
theorem filterMap_range {α:Type}:∀(l:List α),(List.range l.length).filterMap (l[·]?)=l
 |[]=>rfl
 |a::l=>by
  rw [List.length_cons,List.range_succ_eq_map,List.filterMap_cons]
  simp only [List.getElem?_cons_zero,List.filterMap_map]
  have e:((fun x=>(a::l)[x]?) ∘ Nat.succ)=fun x=>l[x]?:=by funext i;simp
  rw [e,filterMap_range l]
section
variable {l:List As} {w0 w:World} {A B:As}
theorem St.re (p:List Nat) (hs:St l w0 w) (hp:p.isPerm (List.range l.length)=true):St (p.filterMap (l[·]?)) w0 w:=
 hs.mk' fun _ hl=>hl.perm (by
  have h:=(List.isPerm_iff.1 hp).filterMap (l[·]?)
  rw [filterMap_range] at h
  exact h.symm)
theorem Sp.pre:∀{a b:List As} {h:Hp},Sp (a++b) h→Sp a h
 |[],_,_,_=>trivial
 |_::_,_,_,hs=>hs.tail_mono fun _ hl=>Sp.pre hl
theorem St.at (k:Nat) (hs:St l w0 w) (e:l[k]?=some A):St (A::l.eraseIdx k) w0 w:=hs.front k e
theorem St.back (k:Nat) (e:l[k]?=some A) (hs:St (B::l.eraseIdx k) w0 w):St (l.set k B) w0 w:=hs.mk' fun _ hl=>hl.perm (perm_set k e)
theorem Sp.tailJoin:∀{m r:List As} {h:Hp},Sp (m++r) h→Sp (m++[Sp r]) h
 |[],r,h,hs=>⟨h,fun _=>none,fun _=>.inr (.inl rfl),Hp.le.refl h,(fun _ _ e=>by cases e),hs,trivial⟩
 |_::_,_,_,hs=>hs.tail_mono fun _ hl=>Sp.tailJoin hl
theorem Sp.tailOpen:∀{m r:List As} {h:Hp},Sp (m++[Sp r]) h→Sp (m++r) h
 |[],_,_,hs=>let ⟨_,_,_,e1,_,hA,_⟩:=hs;hA.le e1
 |_::_,_,_,hs=>hs.tail_mono fun _ hl=>Sp.tailOpen hl
theorem St.tailJoin {m r:List As} (hs:St (m++r) w0 w):St (m++[Sp r]) w0 w:=hs.mk' fun _ h=>h.tailJoin
theorem St.tailOpen {m r:List As} (hs:St (m++[Sp r]) w0 w):St (m++r) w0 w:=hs.mk' fun _ h=>h.tailOpen
end
end Go.Proofs.YtaejcbpijdacmaaGreat.Sep

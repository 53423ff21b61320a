/- A base for the walks of this seat: a frame as a list of known slots, one rule for each kind of operation and of code. It speaks of no program. -/
import Derived.Test.YtaejcbpijdacmaaGreatSep
import Derived.Deep.LoopGhost
import Derived.Scope
import Derived.LoopN
set_option linter.all false
namespace Go.Proofs.YtaejcbpijdacmaaGreat.Walk
open Go.RowKit Go.Proofs.YtaejcbpijdacmaaGreat.Sep
abbrev Fr:=List (Nat × Value)
def look:Fr→Nat→Option Value
 |[],_=>none
 |(i,v)::r,t=>bif Nat.beq i t then some v else look r t
def ev (f:Fr):Operand→Option Value
 | .tmp t=>look f t
 | .const v=>some v
 | .global g=>some (.pointer (some ⟨g,0,none⟩))
 | .func g=>some (.func (.func g) #[] #[])
structure Fits (n:Nat) (a:Act) (f:Fr):Prop where
 dfr:a.defers=[]
 size:a.tmps.size=n
 holds:∀t v,look f t=some v→a.tmps[t]?=some v
theorem Fits.ev {n:Nat} {a:Act} {f:Fr} (h:Fits n a f) {x:Operand} {v:Value} (e:ev f x=some v):a.eval x=v:=by
 cases x with
 |tmp t=>have:=h.holds t v e;simp [Act.eval,this]
 |const u=>simp [Walk.ev] at e;simpa [Act.eval] using e
 |global g=>simp [Walk.ev] at e;simpa [Act.eval] using e
 |func g=>simp [Walk.ev] at e;simpa [Act.eval] using e
theorem Fits.put {n:Nat} {a:Act} {f:Fr} (h:Fits n a f) {d:Nat} (v:Value) (hd:d<n):Fits n (a.put (some d) v) ((d,v)::f):=by
 refine ⟨h.dfr,by simp [Act.put,h.size],fun t u e=>?_⟩
 simp only [look] at e
 cases hb:Nat.beq d t with
 |true=>
  rw [hb] at e
  have:d=t:=Nat.eq_of_beq_eq_true hb
  subst this
  simp at e
  subst e
  simp [Act.put,h.size,hd]
 |false=>
  rw [hb] at e
  have hne:d≠t:=fun e=>by subst e;simp at hb
  simp only [cond_false] at e
  simp only [Act.put]
  rw [Array.getElem?_setIfInBounds_ne hne]
  exact h.holds t u e
theorem Fits.none {n:Nat} {a:Act} {f:Fr} (h:Fits n a f) (v:Value):Fits n (a.put Option.none v) f:=h
def agrees (f:Fr):Fr→Prop
 |[]=>True
 |(t,v)::r=>look f t=some v∧agrees f r
theorem agrees.look {f:Fr}:∀{g:Fr},agrees f g→∀t v,Walk.look g t=some v→Walk.look f t=some v
 |[],_,t,v,e=>by simp [Walk.look] at e
 |(i,u)::r,⟨h,hr⟩,t,v,e=>by
  simp only [Walk.look] at e
  cases hb:Nat.beq i t with
  |true=>
   rw [hb] at e
   have:i=t:=Nat.eq_of_beq_eq_true hb
   subst this
   simp at e;subst e;exact h
  |false=>rw [hb] at e;exact agrees.look hr t v e
theorem Fits.keep {n:Nat} {a:Act} {f g:Fr} (h:Fits n a f) (hg:agrees f g):Fits n a g:=⟨h.dfr,h.size,fun t v e=>h.holds t v (hg.look t v e)⟩
def V (P:Program) (n:Nat) (Q:Exit→Act→World→Prop) (c:Code) (f:Fr) (w:World):Prop:=∀a,Fits n a f→c.wp P Q a w
def W (P:Program) (ops:Array Oper) (n:Nat) (Q:Exit→Act→World→Prop) (l:List Oper) (f:Fr) (w:World):Prop:=∀a,Fits n a f→wpList P ops Q l a w
def At (n:Nat) (Q:Exit→Act→World→Prop) (e:Exit) (f:Fr) (w:World):Prop:=∀a,Fits n a f→Q e a w
section codes
variable {P:Program} {n:Nat} {Q:Exit→Act→World→Prop} {f g:Fr} {w:World}
theorem V.keep {c:Code} (g:Fr) (hg:agrees f g) (h:V P n Q c g w):V P n Q c f w:=fun a ha=>h a (ha.keep hg)
theorem W.keep {ops:Array Oper} {l:List Oper} (g:Fr) (hg:agrees f g) (h:W P ops n Q l g w):W P ops n Q l f w:=fun a ha=>h a (ha.keep hg)
theorem At.keep {e:Exit} (g:Fr) (hg:agrees f g) (h:At n Q e g w):At n Q e f w:=fun a ha=>h a (ha.keep hg)
theorem V.seq {x y:Code} (h:V P n (Exit.then (y.wp P Q) Q) x f w):V P n Q (.seq x y) f w:=fun a ha=>wp_seq (h a ha)
theorem V.skip (h:At n Q .normal f w):V P n Q .skip f w:=fun a ha=>wp_skip (h a ha)
theorem V.label {l:Nat} (h:At n Q .normal f w):V P n Q (.label l) f w:=fun a ha=>wp_label (h a ha)
theorem V.exit {i:Nat} (h:At n Q (.exit i) f w):V P n Q (.exit i) f w:=fun a ha=>wp_exit (h a ha)
theorem V.goto {i:Nat} (h:At n Q (.goto i) f w):V P n Q (.goto i) f w:=fun a ha=>wp_goto (h a ha)
theorem V.ret (h:At n Q .ret f w):V P n Q .ret f w:=fun a ha=>wp_ret (h a ha)
theorem V.block {i:Nat} {c:Code} (h:V P n (Exit.inBlock i Q) c f w):V P n Q (.block i c) f w:=fun a ha=>wp_block (h a ha)
theorem V.cond {c:Operand} {x y:Code} (t:Bool) (e:ev f c=some (.bool t)) (ht:t=true→V P n Q x f w) (hf:t=false→V P n Q y f w):V P n Q (.cond c x y) f w:=
 fun a ha=>wp_cond_split (ha.ev e) (fun h=>ht h a ha) (fun h=>hf h a ha)
theorem V.condT {c:Operand} {x y:Code} (e:ev f c=some (.bool true)) (h:V P n Q x f w):V P n Q (.cond c x y) f w:=V.cond true e (fun _=>h) (fun h=>by cases h)
theorem V.condF {c:Operand} {x y:Code} (e:ev f c=some (.bool false)) (h:V P n Q y f w):V P n Q (.cond c x y) f w:=V.cond false e (fun h=>by cases h) (fun _=>h)
theorem V.region {i:Nat} {l:List Oper} (h:W P l.toArray n Q l f w):V P n Q (.region i l.toArray false) f w:=fun a ha=>wp_region_lit (h a ha)
theorem W.nil {ops:Array Oper} (h:At n Q .normal f w):W P ops n Q [] f w:=fun a ha=>h a ha
theorem At.next {y:Code} {Q':Exit→Act→World→Prop} (h:V P n Q y f w):At n (Exit.then (y.wp P Q) Q') .normal f w:=h
theorem At.thenRet {K:Act→World→Prop} (h:At n Q .ret f w):At n (Exit.then K Q) .ret f w:=h
theorem At.thenExit {K:Act→World→Prop} {i:Nat} (h:At n Q (.exit i) f w):At n (Exit.then K Q) (.exit i) f w:=h
theorem At.thenGoto {K:Act→World→Prop} {i:Nat} (h:At n Q (.goto i) f w):At n (Exit.then K Q) (.goto i) f w:=h
theorem At.blockRet {i:Nat} (h:At n Q .ret f w):At n (Exit.inBlock i Q) .ret f w:=h
theorem At.blockEnd {i:Nat} (h:At n Q .normal f w):At n (Exit.inBlock i Q) .normal f w:=h
theorem At.blockGoto {i j:Nat} (h:At n Q (.goto j) f w):At n (Exit.inBlock i Q) (.goto j) f w:=h
theorem At.blockExit {i:Nat} (h:At n Q .normal f w):At n (Exit.inBlock i Q) (.exit i) f w:=fun a ha=>by
 show (if i=i then _ else _);rw [if_pos rfl];exact h a ha
theorem At.blockPast {i j:Nat} (hne:Nat.beq j i=false) (h:At n Q (.exit j) f w):At n (Exit.inBlock i Q) (.exit j) f w:=fun a ha=>by
 show (if j=i then _ else _);rw [if_neg (fun e=>by subst e;simp at hne)];exact h a ha
theorem V.meet {σ:Type} {x y:Code} (J:σ→World→Prop) (g:σ→Fr) (hx:V P n (Exit.then (fun a w=>∃s,Fits n a (g s)∧J s w) Q) x f w) (hy:∀s w,J s w→V P n Q y (g s) w):V P n Q (.seq x y) f w:=fun a ha=>
 wp_seq (wp_mono (hx a ha) fun e a' w' q=>by
  cases e<;>first|exact q|(obtain ⟨s,hs,hj⟩:=q;exact hy s w' hj a' hs))
theorem At.meet {σ:Type} {J:σ→World→Prop} {g:σ→Fr} (s:σ) (hg:agrees f (g s)) (hj:J s w):At n (Exit.then (fun a w=>∃s,Fits n a (g s)∧J s w) Q) .normal f w:=fun _ ha=>⟨s,ha.keep hg,hj⟩
theorem V.loop {σ:Type} {c:Code} (J:Nat→σ→World→Prop) (g:σ→Fr) (k:Nat) (s:σ) (hg:agrees f (g s)) (hj:J k s w)
  (round:∀k s w,J k s w→V P n (Exit.then (fun a w=>∃k',k'<k∧∃s',Fits n a (g s')∧J k' s' w) Q) c (g s) w):V P n Q (.loop c) f w:=fun a ha=>
 wp_loop_ghost (fun k a w=>∃s,Fits n a (g s)∧J k s w) k ⟨s,ha.keep hg,hj⟩ fun k a w ⟨s,hs,hj⟩=>round k s w hj a hs
theorem At.round {σ:Type} {J:Nat→σ→World→Prop} {g:σ→Fr} {k:Nat} (k':Nat) (hk:k'<k) (s:σ) (hg:agrees f (g s)) (hj:J k' s w):
  At n (Exit.then (fun a w=>∃k',k'<k∧∃s',Fits n a (g s')∧J k' s' w) Q) .normal f w:=fun _ ha=>⟨k',hk,s,ha.keep hg,hj⟩
theorem V.rounds {c:Code} (m:Nat) (g:Fr) (hg:agrees f g) (h:V P n (Exit.then (Code.rounds P c Q m) Q) c g w):V P n Q (.loop c) f w:=fun a ha=>
 wp_loop_rounds (m+1) (h a (ha.keep hg))
theorem At.onward {c:Code} {m:Nat} (g:Fr) (hg:agrees f g) (h:V P n (Exit.then (Code.rounds P c Q m) Q) c g w):At n (Exit.then (Code.rounds P c Q (m+1)) Q) .normal f w:=fun a ha=>h a (ha.keep hg)
def argsFr:Nat→List Value→Fr
 |_,[]=>[]
 |i,v::r=>(i,v)::argsFr (i+1) r
theorem look_argsFr:∀(l:List Value) (i t:Nat) (v:Value),look (argsFr i l) t=some v→i≤t∧l[t-i]?=some v
 |[],_,_,_,e=>by simp [argsFr,look] at e
 |u::r,i,t,v,e=>by
  simp only [argsFr,look] at e
  cases hb:Nat.beq i t with
  |true=>
   rw [hb] at e
   have:i=t:=Nat.eq_of_beq_eq_true hb
   subst this
   simp at e;subst e;simp
  |false=>
   rw [hb] at e
   obtain ⟨h1,h2⟩:=look_argsFr r (i+1) t v e
   exact ⟨by omega,by rw [show t-i=(t-(i+1))+1 by omega];simpa using h2⟩
theorem calls_enter {F:FuncId} {fn:Func} {c:Code} {args:List Value} {R:Ending→World→Prop} (hf:P.funcs[F]?=some fn) (hb:fn.body=some c) (hn:Nat.ble args.length fn.ntmps=true)
  (h:V P fn.ntmps (bodyPost P fn R) c (argsFr 0 args) w):Calls P F args.toArray w R:=by
 refine calls_of_wp hf hb (h _ ⟨rfl,?_,fun t v e=>?_⟩)
 ·have:=Nat.le_of_ble_eq_true hn
  simp;omega
 ·obtain ⟨_,h2⟩:=look_argsFr args 0 t v e
  have hlt:t<args.length:=by
   have:=(List.getElem?_eq_some_iff.1 h2).1;simpa using this
  simp only [Nat.sub_zero] at h2
  rw [Array.getElem?_append_left (by simpa using hlt)]
  simpa using h2
theorem At.ret0 {fn:Func} {R:Ending→World→Prop} (hr:fn.results=#[]) (h:R (.returned (.tuple #[])) w):At n (bodyPost P fn R) .ret f w:=fun a ha=>⟨ha.dfr,_,results_none hr _ _ _,h⟩
theorem At.end0 {fn:Func} {R:Ending→World→Prop} (hr:fn.results=#[]) (h:R (.returned (.tuple #[])) w):At n (bodyPost P fn R) .normal f w:=fun a ha=>⟨ha.dfr,_,results_none hr _ _ _,h⟩
theorem Fits.getD {n:Nat} {a:Act} {f:Fr} (h:Fits n a f) {t:Nat} {v:Value} (e:look f t=some v):a.tmps.getD t undef=v:=by have:=h.holds t v e;simp [this]
theorem At.ret1 {fn:Func} {R:Ending→World→Prop} {t:Nat} {v:Value} (hr:fn.results=#[.tmp t]) (e:look f t=some v) (h:R (.returned v) w):At n (bodyPost P fn R) .ret f w:=fun a ha=>
 ⟨ha.dfr,_,results_tmp hr _ _ _,by rw [ha.getD e];exact h⟩
theorem At.ret2 {fn:Func} {R:Ending→World→Prop} {t u:Nat} {v x:Value} (hr:fn.results=#[.tmp t,.tmp u]) (e:look f t=some v) (e':look f u=some x) (h:R (.returned (.tuple #[v,x])) w):At n (bodyPost P fn R) .ret f w:=fun a ha=>
 ⟨ha.dfr,_,results_tmp2 hr _ _ _,by rw [ha.getD e,ha.getD e'];exact h⟩
theorem At.ret3 {fn:Func} {R:Ending→World→Prop} {t u s:Nat} {v x y:Value} (hr:fn.results=#[.tmp t,.tmp u,.tmp s]) (e:look f t=some v) (e':look f u=some x) (e'':look f s=some y) (h:R (.returned (.tuple #[v,x,y])) w):At n (bodyPost P fn R) .ret f w:=fun a ha=>
 ⟨ha.dfr,.tuple #[v,x,y],by simp [results,hr,←ha.getD e,←ha.getD e',←ha.getD e''],h⟩
end codes
def Jumps (P:Program) (c:Code) (Q:Exit→Act→World→Prop):Nat→Exit→Act→World→Prop
 |0=>fun e a w=>match e with
  | .goto _=>False
  |e=>Q e a w
 |k+1=>fun e a w=>match e with
  | .goto l=>∃rest,findLabel c l=some rest∧rest.wp P (Jumps P c Q k) a w
  |e=>Q e a w
theorem wp_scope_jump {c:Code} {Q:Exit→Act→World→Prop} {P:Program} (k:Nat) {a:Act} {w:World} (h:c.wp P (Jumps P c Q k) a w):(Code.scope c).wp P Q a w:=by
 intro b kk cs
 have key:∀k (e:Exit) (a:Act) (w:World) (fr:Machine),Jumps P c Q k e a w→Arrives P fr b (.inScope c::kk) cs e a w→∃e a₁ w₁,Q e a₁ w₁∧Arrives P fr b kk cs e a₁ w₁:=by
  intro k
  induction k with
  |zero=>
   intro e a w fr hq harr
   cases e with
   |normal=>exact ⟨.normal,a,w,hq,Steps.trans harr (.one step_inScope)⟩
   |exit id=>exact ⟨.exit id,a,w,hq,fun k' hk=>harr k' (by simp [exitTo,hk])⟩
   |goto l=>exact hq.elim
   |ret=>exact ⟨_,a,w,hq,harr⟩
   |panic ch=>exact ⟨_,a,w,hq,harr⟩
   |outgrown=>exact ⟨_,a,w,hq,harr⟩
  |succ k ih=>
   intro e a w fr hq harr
   cases e with
   |normal=>exact ⟨.normal,a,w,hq,Steps.trans harr (.one step_inScope)⟩
   |exit id=>exact ⟨.exit id,a,w,hq,fun k' hk=>harr k' (by simp [exitTo,hk])⟩
   |goto l=>
    obtain ⟨rest,hf,hw⟩:=hq
    obtain ⟨e₂,a₂,w₂,hq₂,harr₂⟩:=hw b (.inScope c::kk) cs
    have h1:=harr (.code rest::.inScope c::kk) (by simp [gotoIn,hf])
    exact ih e₂ a₂ w₂ fr hq₂ (.of_steps h1 harr₂)
   |ret=>exact ⟨_,a,w,hq,harr⟩
   |panic ch=>exact ⟨_,a,w,hq,harr⟩
   |outgrown=>exact ⟨_,a,w,hq,harr⟩
 obtain ⟨e,a₁,w₁,hq,harr⟩:=h b (.inScope c::kk) cs
 obtain ⟨e₂,a₂,w₂,hq₂,harr₂⟩:=key k e a₁ w₁ _ hq harr
 exact ⟨e₂,a₂,w₂,hq₂,.of_steps (.one step_scope) harr₂⟩
section scopes
variable {P:Program} {n k:Nat} {Q:Exit→Act→World→Prop} {f:Fr} {w:World} {c:Code}
theorem V.scope (k:Nat) (h:V P n (Jumps P c Q k) c f w):V P n Q (.scope c) f w:=fun a ha=>wp_scope_jump k (h a ha)
theorem At.jump {l:Nat} {rest:Code} (hf:findLabel c l=some rest) (h:V P n (Jumps P c Q k) rest f w):At n (Jumps P c Q (k+1)) (.goto l) f w:=fun a ha=>⟨rest,hf,h a ha⟩
theorem At.scopeEnd (h:At n Q .normal f w):At n (Jumps P c Q k) .normal f w:=by cases k<;>exact h
theorem At.scopeRet (h:At n Q .ret f w):At n (Jumps P c Q k) .ret f w:=by cases k<;>exact h
theorem At.scopeExit {i:Nat} (h:At n Q (.exit i) f w):At n (Jumps P c Q k) (.exit i) f w:=by cases k<;>exact h
end scopes
section ops
variable {P:Program} {ops:Array Oper} {n:Nat} {Q:Exit→Act→World→Prop} {l:List Oper} {f:Fr} {w:World}
def known (f:Fr):List Operand→Prop
 |[]=>True
 |x::r=>(∃v,ev f x=some v)∧known f r
theorem known.mem {f:Fr}:∀{l:List Operand},known f l→∀x∈l,∃v,ev f x=some v
 |_::_,⟨h,_⟩,_,.head _=>h
 |_::_,⟨_,h⟩,x,.tail _ hx=>known.mem h x hx
theorem W.run {o:Oper} (w':World) (v:Value) (d:Nat) (ho:o.dst=some d) (hg:o.guard=none) (hd:Nat.ble (d+1) n=true)
  (h:∀a,Fits n a f→(execOp a.eval o).run P w=.ok (.value v) w') (k:W P ops n Q l ((d,v)::f) w'):W P ops n Q (o::l) f w:=fun a ha=>
 wpList_plain hg fun K hK=>by
  unfold Oper.wp
  rw [h a ha,Oper.upon_value,ho]
  exact hK _ _ (k _ (ha.put v (Nat.le_of_ble_eq_true hd)))
theorem yielded_of {a:Act} (ha:Fits n a f) {j t:Nat} {b:Bool} (hj:(ops[j]?).bind (·.dst)=some t) (e:look f t=some (.bool b)):yielded ops a.tmps j=some b:=by
 unfold yielded
 rw [hj]
 simp [ha.holds t _ e]
theorem yielded_undef {a:Act} (ha:Fits n a f) {j t:Nat} (hj:(ops[j]?).bind (·.dst)=some t) (e:look f t=some undef):yielded ops a.tmps j=none:=by
 unfold yielded
 rw [hj]
 simp [ha.holds t _ e,undef]
theorem W.passU {d:Nat} {op:Op} {ty:TypeId} {pos:String} {af:Array Edge} {j:Nat} {b:Bool} (t:Nat) (hj:(ops[j]?).bind (·.dst)=some t) (e:look f t=some undef) (hd:Nat.ble (d+1) n=true)
  (h:W P ops n Q l ((d,undef)::f) w):W P ops n Q ({dst:=some d,op,type:=ty,pos,after:=af,guard:=some (j,b)}::l) f w:=fun a ha=>by
 unfold wpList
 have hw:¬(Region.wanted {dst:=some d,op,type:=ty,pos,after:=af,guard:=some (j,b)} (yielded ops a.tmps)=true):=by
  simp [Region.wanted,yielded_undef ha hj e]
 rw [if_neg hw]
 exact h _ (ha.put undef (Nat.le_of_ble_eq_true hd))
theorem W.want {dst:Option Tmp} {op:Op} {ty:TypeId} {pos:String} {af:Array Edge} {j:Nat} {b:Bool} (t:Nat) (hj:(ops[j]?).bind (·.dst)=some t) (e:look f t=some (.bool b))
  (h:W P ops n Q ({dst,op,type:=ty,pos,after:=af,guard:=none}::l) f w):W P ops n Q ({dst,op,type:=ty,pos,after:=af,guard:=some (j,b)}::l) f w:=fun a ha=>by
 have h':=h a ha
 unfold wpList at h' ⊢
 have hw:Region.wanted {dst,op,type:=ty,pos,after:=af,guard:=some (j,b)} (yielded ops a.tmps)=true:=by simp [Region.wanted,yielded_of ha hj e]
 have hw':Region.wanted {dst,op,type:=ty,pos,after:=af,guard:=none} (yielded ops a.tmps)=true:=by simp [Region.wanted]
 rw [if_pos hw'] at h'
 rw [if_pos hw]
 exact h'
theorem W.pass {d:Nat} {op:Op} {ty:TypeId} {pos:String} {af:Array Edge} {j:Nat} {b b':Bool} (t:Nat) (hj:(ops[j]?).bind (·.dst)=some t) (e:look f t=some (.bool b')) (hb:(b'==b)=false) (hd:Nat.ble (d+1) n=true)
  (h:W P ops n Q l ((d,undef)::f) w):W P ops n Q ({dst:=some d,op,type:=ty,pos,after:=af,guard:=some (j,b)}::l) f w:=fun a ha=>by
 unfold wpList
 have hne:¬(b'=b):=by simpa using hb
 have hw:¬(Region.wanted {dst:=some d,op,type:=ty,pos,after:=af,guard:=some (j,b)} (yielded ops a.tmps)=true):=by
  simp only [Region.wanted,yielded_of ha hj e];simpa using hne
 rw [if_neg hw]
 exact h _ (ha.put undef (Nat.le_of_ble_eq_true hd))
theorem W.pass_none {op:Op} {ty:TypeId} {pos:String} {af:Array Edge} {j:Nat} {b b':Bool} (t:Nat) (hj:(ops[j]?).bind (·.dst)=some t) (e:look f t=some (.bool b')) (hb:(b'==b)=false)
  (h:W P ops n Q l f w):W P ops n Q ({dst:=none,op,type:=ty,pos,after:=af,guard:=some (j,b)}::l) f w:=fun a ha=>by
 unfold wpList
 have hne:¬(b'=b):=by simpa using hb
 have hw:¬(Region.wanted {dst:=none,op,type:=ty,pos,after:=af,guard:=some (j,b)} (yielded ops a.tmps)=true):=by
  simp only [Region.wanted,yielded_of ha hj e];simpa using hne
 rw [if_neg hw]
 exact h _ ha
end ops
def Runs (P:Program) (n:Nat) (f:Fr) (w:World) (o:Oper) (v:Value):Prop:=∀a,Fits n a f→(execOp a.eval o).run P w=.ok (.value v) w
theorem W.rd {P:Program} {ops:Array Oper} {n:Nat} {Q:Exit→Act→World→Prop} {l:List Oper} {f:Fr} {w:World} {o:Oper} {v:Value} {d:Nat} (h:Runs P n f w o v) (ho:o.dst=some d) (hg:o.guard=none) (hd:Nat.ble (d+1) n=true) (k:W P ops n Q l ((d,v)::f) w):W P ops n Q (o::l) f w:=
 W.run w v d ho hg hd h k
def Turns (P:Program) (Q:Exit→Act→World→Prop) (n:Nat) (f:Fr) (w:World) (o:Oper) (Φ:Value→World→Prop):Prop:=
 ∀a,Fits n a f→∀K:Act→World→Prop,(∀v w',Φ v w'→K (a.put o.dst v) w')→o.wp P a w K Q
theorem W.ev {P:Program} {ops:Array Oper} {n:Nat} {Q:Exit→Act→World→Prop} {l:List Oper} {f:Fr} {w:World} {o:Oper} {Φ:Value→World→Prop} {d:Nat} (h:Turns P Q n f w o Φ) (ho:o.dst=some d) (hg:o.guard=none) (hd:Nat.ble (d+1) n=true) (k:∀v w,Φ v w→W P ops n Q l ((d,v)::f) w):W P ops n Q (o::l) f w:=fun a ha=>
 wpList_plain hg fun K hK=>h a ha K fun v w' hv=>by rw [ho];exact hK _ _ (k v w' hv _ (ha.put v (Nat.le_of_ble_eq_true hd)))
theorem W.ev_none {P:Program} {ops:Array Oper} {n:Nat} {Q:Exit→Act→World→Prop} {l:List Oper} {f:Fr} {w:World} {o:Oper} {Φ:Value→World→Prop} (h:Turns P Q n f w o Φ) (ho:o.dst=none) (hg:o.guard=none) (k:∀v w,Φ v w→W P ops n Q l f w):W P ops n Q (o::l) f w:=fun a ha=>
 wpList_plain hg fun K hK=>h a ha K fun v w' hv=>by rw [ho];exact hK _ _ (k v w' hv _ ha)
end Go.Proofs.YtaejcbpijdacmaaGreat.Walk

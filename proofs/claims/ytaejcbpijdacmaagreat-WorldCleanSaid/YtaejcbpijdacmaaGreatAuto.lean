/- A base for the walks of this seat: steps that are found by themselves. It speaks of no program. -/
import Derived.Test.YtaejcbpijdacmaaGreatShort
set_option linter.all false
namespace Go.Proofs.YtaejcbpijdacmaaGreat.Sep
section
variable {w0 w:World} {L L' M:List As} {A:As} {p:List Nat} {k:Nat}
class Bri (p:List Nat) (L:List As) (M:outParam (List As)):Prop where
 h:∀h:Hp,Sp L h→Sp M h
instance Bri.n:Bri [] L L:=⟨fun _ h=>h⟩
instance Bri.c [q:Nth L k A] [e:Era L k L'] [r:Bri p L' M]:Bri (k::p) L (A::M):=⟨fun h hs=>by have:=Sp.front k hs q.h;rw [e.h] at this;exact this.tail_mono r.h⟩
class Sel (p:List Nat) (L:List As) (M:outParam (List As)):Prop where
 h:∀h:Hp,Sp L h→Sp M h
instance Sel.n:Sel [] L []:=⟨fun _ _=>trivial⟩
instance Sel.c [q:Nth L k A] [e:Era L k L'] [r:Sel p L' M]:Sel (k::p) L (A::M):=⟨fun h hs=>by have:=Sp.front k hs q.h;rw [e.h] at this;exact this.tail_mono r.h⟩
theorem St.b (p:List Nat) [r:Bri p L M] (hs:St L w0 w):St M w0 w:=hs.mk' r.h
theorem St.ke (p:List Nat) [r:Sel p L M] (hs:St L w0 w):St M w0 w:=hs.mk' r.h
end
end Go.Proofs.YtaejcbpijdacmaaGreat.Sep
namespace Go.Proofs.YtaejcbpijdacmaaGreat.Walk
open Go.RowKit Go.Lib Go.Proofs.YtaejcbpijdacmaaGreat.Sep
abbrev rB (a:Option Addr) (c:Nat) (xs:List Int):As:=row 5 1 (.slice a xs.length c) xs.length (xs.map (Value.int .u8))
abbrev fB (a:Option Addr) (c:Nat) (xs:List Int):As:=fsl 1 (.slice a xs.length c) xs.length (xs.map (Value.int .u8))
abbrev dB (R:As) (a:Option Addr) (c:Nat) (xs:List Int):Prop:=rdC R 1 (.slice a xs.length c) xs.length (xs.map (Value.int .u8))
class Und (P:Program) (t:TypeId) (ds:outParam TypeDesc):Prop where
 h:P.underlying t=some ds
class FO (P:Program) (s:TypeId) (j:Nat) (q:outParam Nat):Prop where
 h:fieldOff P s j=some q
class Inf (P:Program) (t:TypeId) (z:outParam Nat):Prop where
 h:(P.info? t).map (·.size)=some z
class FB (L:List As) (b:Nat) (c:outParam (Array Value)) (e:outParam TypeId):Prop where
 h:∃j:Nat,L[j]?=some (blk b c e)
instance FB.s {A:As} {L:List As} {b:Nat} {c:Array Value} {e:TypeId} [q:FB L b c e]:FB (A::L) b c e:=⟨by obtain ⟨j,h⟩:=q.h;exact ⟨j+1,by simpa using h⟩⟩
instance FB.z {L:List As} {b:Nat} {c:Array Value} {e:TypeId}:FB (blk b c e::L) b c e:=⟨0,rfl⟩
instance FB.t {A:As} {L M:List As} {i b:Nat} {c:Array Value} {e:TypeId} [r:SetL L i A M] [q:FB M b c e]:FB (L.set i A) b c e:=⟨by rw [r.h];exact q.h⟩
class UB (L:List As) (b i:Nat) (v:Value) (M:outParam (List As)):Prop where
 h:∃(j:Nat) (c c':Array Value) (e:TypeId),L[j]?=some (blk b c e)∧(c[i]?).isSome=true∧c.setIfInBounds i v=c'∧L.set j (blk b c' e)=M
instance UB.s {A:As} {L M:List As} {b i:Nat} {v:Value} [q:UB L b i v M]:UB (A::L) b i v (A::M):=⟨by obtain ⟨j,c,c',e,h1,h2,h3,h4⟩:=q.h;exact ⟨j+1,c,c',e,by simpa using h1,h2,h3,by rw [List.set_cons_succ,h4]⟩⟩
instance UB.t {A:As} {L M N:List As} {i b z:Nat} {v:Value} [r:SetL L i A M] [q:UB M b z v N]:UB (L.set i A) b z v N:=⟨by rw [r.h];exact q.h⟩
class UW (L:List As) (b:Nat) (vs:List Value) (c:outParam (Array Value)) (M:outParam (List As)):Prop where
 h:∃(j:Nat) (e:TypeId),L[j]?=some (blk b c e)∧L.set j (blk b vs.toArray e)=M
instance UW.s {A:As} {L M:List As} {b:Nat} {vs:List Value} {c:Array Value} [q:UW L b vs c M]:UW (A::L) b vs c (A::M):=⟨by obtain ⟨j,e,h1,h2⟩:=q.h;exact ⟨j+1,e,by simpa using h1,by rw [List.set_cons_succ,h2]⟩⟩
instance UW.z {L:List As} {b:Nat} {vs:List Value} {c:Array Value} {e:TypeId}:UW (blk b c e::L) b vs c (blk b vs.toArray e::L):=⟨0,e,rfl,rfl⟩
instance UW.t {A:As} {L M N:List As} {i b:Nat} {vs:List Value} {c:Array Value} [r:SetL L i A M] [q:UW M b vs c N]:UW (L.set i A) b vs c N:=⟨by rw [r.h];exact q.h⟩
class SetA' (c:Array Value) (i:Nat) (v:Value) (c':outParam (Array Value)):Prop where
 h:c.setIfInBounds i v=c'
 lt:(c[i]?).isSome=true
instance SetA'.l {l m:List Value} {i:Nat} {v:Value} [q:SetL l i v m]:SetA' l.toArray i v m.toArray:=⟨by rw [←q.h];simp,by have:=q.lt;simp [this]⟩
instance SetA'.c {l c':Array Value} {i:Nat} {v:Value} [q:SetA' l i v c']:SetA' (Value.agg l).cells i v c':=⟨q.h,q.lt⟩
instance UB.z {L:List As} {b i:Nat} {v:Value} {c c':Array Value} {e:TypeId} [q:SetA' c i v c']:UB (blk b c e::L) b i v (blk b c' e::L):=⟨0,c,c',e,rfl,q.lt,q.h,rfl⟩
section
variable {P:Program} {ops:Array Oper} {n:Nat} {Q:Exit→Act→World→Prop} {l:List Oper} {f:Fr} {w w0:World} {L:List As} {o:Oper} {v:Value} {d:Nat}
variable {gd:Option (Nat × Bool)} {ty u t:TypeId} {pos:String} {af:Array Edge} {x y:Operand} {k k':IntKind} {a b:Int} {p q:Bool} {ts:Array TypeId} {ds:TypeDesc}
theorem W.fA {s:TypeId} {i b c q:Nat} (e:okd d n (Walk.ev f x)=some (.pointer (some ⟨b,c,none⟩))) [hq:FO P s i q] (k:W P ops n Q l ((d,.pointer (some ⟨b,c+q,none⟩))::f) w):
  W P ops n Q ({dst:=some d,op:=.fieldAddr s x i,type:=ty,pos,after:=af,guard:=none}::l) f w:=W.fa hq.h e k
theorem W.lD {b i:Nat} {c:Array Value} {e:TypeId} (hs:St L w0 w) (ex:okd d n (Walk.ev f x)=some (.pointer (some ⟨b,i,none⟩))) [r:Und P t ds] [q:FB L b c e] (hg:aggD ds=false) (hc:c[i]?=some v)
  (k:W P ops n Q l ((d,v)::f) w):W P ops n Q ({dst:=some d,op:=.load t x,type:=ty,pos,after:=af,guard:=none}::l) f w:=by
 obtain ⟨j,h⟩:=q.h
 exact W.ld j hs r.h ex h hg hc k
theorem W.ex {i:Nat} {vs:Array Value} (ex:okd d n (Walk.ev f x)=some (.tuple vs)) (hv:vs[i]?=some v) (k:W P ops n Q l ((d,v)::f) w):W P ops n Q ({dst:=some d,op:=.extract x i,type:=ty,pos,after:=af,guard:=none}::l) f w:=W.rd (X.extract (okd.ok ex).2 hv) rfl rfl (okd.ok ex).1 k
theorem W.not (ex:okd d n (Walk.ev f x)=some (.bool p)) (k:W P ops n Q l ((d,.bool (!p))::f) w):W P ops n Q ({dst:=some d,op:=.unOp .not t x,type:=ty,pos,after:=af,guard:=none}::l) f w:=W.rd (X.not (okd.ok ex).2) rfl rfl (okd.ok ex).1 k
theorem W.le {e m c:Nat} {ad:Option Addr} (ex:okd d n (Walk.ev f x)=some (.slice ad m c)) [r:Und P t (.slice e)] (k:W P ops n Q l ((d,.int .i64 m)::f) w):W P ops n Q ({dst:=some d,op:=.call {callee:=.builtin .len,args:=#[x],argTypes:=#[t]},type:=ty,pos,after:=af,guard:=none}::l) f w:=W.rd (X.lenSl r.h (okd.ok ex).2) rfl rfl (okd.ok ex).1 k
theorem W.ad (ex:okd d n (Walk.ev f x)=some (.int k a)) (ey:Walk.ev f y=some (.int k b)) (h:W P ops n Q l ((d,.int k (k.wrap (a+b)))::f) w):W P ops n Q ({dst:=some d,op:=.binOp .add t x y u,type:=ty,pos,after:=af,guard:=none}::l) f w:=W.rd (X.add (okd.ok ex).2 ey) rfl rfl (okd.ok ex).1 h
theorem W.su (ex:okd d n (Walk.ev f x)=some (.int k a)) (ey:Walk.ev f y=some (.int k b)) (h:W P ops n Q l ((d,.int k (k.wrap (a-b)))::f) w):W P ops n Q ({dst:=some d,op:=.binOp .sub t x y u,type:=ty,pos,after:=af,guard:=none}::l) f w:=W.rd (X.sub (okd.ok ex).2 ey) rfl rfl (okd.ok ex).1 h
theorem W.mu (ex:okd d n (Walk.ev f x)=some (.int k a)) (ey:Walk.ev f y=some (.int k b)) (h:W P ops n Q l ((d,.int k (k.wrap (a*b)))::f) w):W P ops n Q ({dst:=some d,op:=.binOp .mul t x y u,type:=ty,pos,after:=af,guard:=none}::l) f w:=W.rd (X.mul (okd.ok ex).2 ey) rfl rfl (okd.ok ex).1 h
theorem W.mi (ex:okd d n (Walk.ev f x)=some (.int k a)) (ey:Walk.ev f y=some (.int k' b)) (h:W P ops n Q l ((d,.int k (imin a b))::f) w):W P ops n Q ({dst:=some d,op:=.call {callee:=.builtin .min,args:=#[x,y],argTypes:=ts},type:=ty,pos,after:=af,guard:=none}::l) f w:=W.rd (X.min2 (okd.ok ex).2 ey) rfl rfl (okd.ok ex).1 h
theorem W.ma (ex:okd d n (Walk.ev f x)=some (.int k a)) (ey:Walk.ev f y=some (.int k' b)) (h:W P ops n Q l ((d,.int k (imax a b))::f) w):W P ops n Q ({dst:=some d,op:=.call {callee:=.builtin .max,args:=#[x,y],argTypes:=ts},type:=ty,pos,after:=af,guard:=none}::l) f w:=W.rd (X.max2 (okd.ok ex).2 ey) rfl rfl (okd.ok ex).1 h
def cmpV:BinOp→Int→Int→Option Bool
 | .eql,x,y=>some (decide (x=y))
 | .neq,x,y=>some (!decide (x=y))
 | .lss,x,y=>some (decide (x<y))
 | .leq,x,y=>some (decide (x≤y))
 | .gtr,x,y=>some (decide (x>y))
 | .geq,x,y=>some (decide (x≥y))
 |_,_,_=>none
theorem cmpV.ok:∀{op:BinOp} {a b:Int} {c:Bool},cmpV op a b=some c→cmpI op a b=c∧isCmp op=true:=by
 intro op a b c h
 cases op<;>first|(have h:=Option.some.inj h;subst h;exact ⟨rfl,rfl⟩)|cases h
theorem W.cp {op:BinOp} {c:Bool} (ex:okd d n (Walk.ev f x)=some (.int k a)) (ey:Walk.ev f y=some (.int k b)) (hc:cmpV op a b=some c) (h:W P ops n Q l ((d,.bool c)::f) w):W P ops n Q ({dst:=some d,op:=.binOp op t x y u,type:=ty,pos,after:=af,guard:=none}::l) f w:=
 W.rd (X.cmp c (cmpV.ok hc).1 (cmpV.ok hc).2 (okd.ok ex).2 ey) rfl rfl (okd.ok ex).1 h
theorem W.pT {c:Operand} (ec:Walk.ev f c=some (.bool true)) (ex:okd d n (Walk.ev f x)=some v) (h:W P ops n Q l ((d,v)::f) w):W P ops n Q ({dst:=some d,op:=.pick c x y,type:=ty,pos,after:=af,guard:=none}::l) f w:=W.rd (X.pickT ec (okd.ok ex).2) rfl rfl (okd.ok ex).1 h
theorem W.pF {c:Operand} (ec:Walk.ev f c=some (.bool false)) (ey:okd d n (Walk.ev f y)=some v) (h:W P ops n Q l ((d,v)::f) w):W P ops n Q ({dst:=some d,op:=.pick c x y,type:=ty,pos,after:=af,guard:=none}::l) f w:=W.rd (X.pickF ec (okd.ok ey).2) rfl rfl (okd.ok ey).1 h
theorem ite_c {G:Prop} {α:Type} {A B:Option α} {r:α} {p:Prop} [Decidable p] (H:(if p then A else B)=some r) (hT:p→A=some r→G) (hF:¬p→B=some r→G):G:=by
 by_cases h:p
 ·exact hT h (ite_t h H)
 ·exact hF h (ite_f h H)
theorem V.cd {c:Operand} {x y:Code} {α:Type} {A B:Option α} {r:α} {p:Prop} [Decidable p] (H:(if p then A else B)=some r) (e:Walk.ev f c=some (.bool (decide p))) (hT:p→A=some r→V P n Q x f w) (hF:¬p→B=some r→V P n Q y f w):V P n Q (.cond c x y) f w:=
 ite_c H (fun h H=>V.condT (e.trans (sb (dT h))) (hT h H)) (fun h H=>V.condF (e.trans (sb (dF h))) (hF h H))
theorem V.cm {c:Operand} {x y:Code} {α:Type} {A B:Option α} {r:α} {p:Prop} [Decidable p] (H:(if p then A else B)=some r) (e:Walk.ev f c=some (.bool (!decide p))) (hT:p→A=some r→V P n Q y f w) (hF:¬p→B=some r→V P n Q x f w):V P n Q (.cond c x y) f w:=
 ite_c H (fun h H=>V.condF (e.trans (sb (n_t (dT h)))) (hT h H)) (fun h H=>V.condT (e.trans (sb (n_f (dF h)))) (hF h H))
theorem V.cv {c:Operand} {x y:Code} {α:Type} {A B:Option α} {r:α} {b:Bool} (H:(if b=true then A else B)=some r) (e:Walk.ev f c=some (.bool b)) (hT:b=true→A=some r→V P n Q x f w) (hF:¬b=true→B=some r→V P n Q y f w):V P n Q (.cond c x y) f w:=
 ite_c H (fun h H=>V.condT (e.trans (sb h)) (hT h H)) (fun h H=>V.condF (e.trans (sb (b_f h))) (hF h H))
theorem V.cx {c:Operand} {x y:Code} {α:Type} {A B:Option α} {r:α} {b:Bool} (H:(if b=true then A else B)=some r) (e:Walk.ev f c=some (.bool (!b))) (hT:b=true→A=some r→V P n Q y f w) (hF:¬b=true→B=some r→V P n Q x f w):V P n Q (.cond c x y) f w:=
 ite_c H (fun h H=>V.condF (e.trans (sb (n_t h))) (hT h H)) (fun h H=>V.condT (e.trans (sb (n_f (b_f h)))) (hF h H))
theorem W.lit {t:Nat} {b:Bool} (z:Bool) (e:look f t=some (.bool b)) (hz:b=z) (h:W P ops n Q l ((t,.bool z)::f) w):W P ops n Q l f w:=fun a ha=>h a ⟨ha.dfr,ha.size,fun i v hv=>ha.holds i v (by
 simp only [look] at hv
 cases hb:Nat.beq t i with
 |true=>rw [hb] at hv;have:=Nat.eq_of_beq_eq_true hb;subst this;simp at hv;subst hv;rw [e,hz]
 |false=>rw [hb] at hv;exact hv)⟩
theorem W.cd (t:Nat) {α:Type} {A B:Option α} {r:α} {p:Prop} [Decidable p] (H:(if p then A else B)=some r) (e:look f t=some (.bool (decide p))) (hT:p→A=some r→W P ops n Q l ((t,.bool true)::f) w) (hF:¬p→B=some r→W P ops n Q l ((t,.bool false)::f) w):W P ops n Q l f w:=
 ite_c H (fun h H=>W.lit _ e (dT h) (hT h H)) (fun h H=>W.lit _ e (dF h) (hF h H))
theorem W.cm (t:Nat) {α:Type} {A B:Option α} {r:α} {p:Prop} [Decidable p] (H:(if p then A else B)=some r) (e:look f t=some (.bool (!decide p))) (hT:p→A=some r→W P ops n Q l ((t,.bool false)::f) w) (hF:¬p→B=some r→W P ops n Q l ((t,.bool true)::f) w):W P ops n Q l f w:=
 ite_c H (fun h H=>W.lit _ e (n_t (dT h)) (hT h H)) (fun h H=>W.lit _ e (n_f (dF h)) (hF h H))
theorem W.cv (t:Nat) {α:Type} {A B:Option α} {r:α} {b:Bool} (H:(if b=true then A else B)=some r) (e:look f t=some (.bool b)) (hT:b=true→A=some r→W P ops n Q l ((t,.bool true)::f) w) (hF:¬b=true→B=some r→W P ops n Q l ((t,.bool false)::f) w):W P ops n Q l f w:=
 ite_c H (fun h H=>W.lit _ e h (hT h H)) (fun h H=>W.lit _ e (b_f h) (hF h H))
theorem W.cx (t:Nat) {α:Type} {A B:Option α} {r:α} {b:Bool} (H:(if b=true then A else B)=some r) (e:look f t=some (.bool (!b))) (hT:b=true→A=some r→W P ops n Q l ((t,.bool false)::f) w) (hF:¬b=true→B=some r→W P ops n Q l ((t,.bool true)::f) w):W P ops n Q l f w:=
 ite_c H (fun h H=>W.lit _ e (n_t h) (hT h H)) (fun h H=>W.lit _ e (n_f (b_f h)) (hF h H))
theorem agr {G:Prop} (h:G:=by (repeat (refine And.intro rfl ?_));exact trivial):G:=h
theorem At.mt {σ:Type} {J:σ→World→Prop} {g:σ→Fr} (s:σ) (hj:J s w) (hg:agrees f (g s):=by exact agr):At n (Exit.then (fun a w=>∃s,Fits n a (g s)∧J s w) Q) .normal f w:=At.meet s hg hj
theorem At.rn {σ:Type} {J:Nat→σ→World→Prop} {g:σ→Fr} {k k':Nat} (s:σ) (hj:J k' s w) (hg:agrees f (g s):=by exact agr) (hk:k'<k:=by omega):
  At n (Exit.then (fun a w=>∃k',k'<k∧∃s',Fits n a (g s')∧J k' s' w) Q) .normal f w:=At.round k' hk s hg hj
def keepO (f:Fr):List Nat→Option Fr
 |[]=>some []
 |t::r=>match look f t,keepO f r with
  |some v,some g=>some ((t,v)::g)
  |_,_=>none
theorem V.mj {σ:Type} {x y:Code} {g0:Fr} (ts:List Nat) (J:σ→World→Prop) (h:σ→Fr) (hx:V P n (Exit.then (fun a w=>∃s,Fits n a (h s++g0)∧J s w) Q) x f w) (hy:∀s w,J s w→V P n Q y (h s++g0) w) (_:keepO f ts=some g0:=by exact rfl):V P n Q (.seq x y) f w:=V.meet J (fun s=>h s++g0) hx hy
theorem V.lj {σ:Type} {c:Code} {k:Nat} {g0:Fr} (ts:List Nat) (J:Nat→σ→World→Prop) (h:σ→Fr) (s:σ) (hj:J k s w) (round:∀k s w,J k s w→V P n (Exit.then (fun a w=>∃k',k'<k∧∃s',Fits n a (h s'++g0)∧J k' s' w) Q) c (h s++g0) w) (_:keepO f ts=some g0:=by exact rfl) (hg:agrees f (h s++g0):=by exact agr):V P n Q (.loop c) f w:=V.loop J (fun s=>h s++g0) k s hg hj round
theorem V.rs {c:Code} (m:Nat) (g:Fr) (h:V P n (Exit.then (Code.rounds P c Q m) Q) c g w) (hg:agrees f g:=by exact agr):V P n Q (.loop c) f w:=V.rounds m g hg h
theorem At.ow {c:Code} {m:Nat} (g:Fr) (h:V P n (Exit.then (Code.rounds P c Q m) Q) c g w) (hg:agrees f g:=by exact agr):At n (Exit.then (Code.rounds P c Q (m+1)) Q) .normal f w:=At.onward g hg h
theorem W.kl {dst:Option Tmp} {α β:Type} {x:Option α} {G:α→Option β} {r:β} {F:FuncId} {fn:Func} {xs:List Operand} {vs:List Value} {Φ:α→Value→World→Prop} (H:x.bind G=some r) (hF:P.funcs[F]?=some fn) (hc:∀t,x=some t→Calls P F vs.toArray w (Ret (Φ t)))
  (k:∀t v w,G t=some r→Φ t v w→W P ops n Q l ((d,v)::f) w) (ex:evs f xs=some vs:=by exact rfl) (c:(dst,Nat.ble (d+1) n)=(some d,true):=by exact rfl) (hn:(fn.name=="runtime.NumGoroutine")=false:=by kernel_rfl) (hb:fn.body.isNone=false:=by exact rfl):
  W P ops n Q ({dst,op:=.call {callee:=.value (.func F),args:=xs.toArray,argTypes:=ts},type:=ty,pos,after:=af,guard:=none}::l) f w:=by
 obtain ⟨t,h1,h2⟩:=bind_s H
 obtain ⟨h3,h4⟩:dst=some d∧Nat.ble (d+1) n=true:=by simpa using c
 exact W.ev (Y.call hF hn hb ex (hc t h1)) h3 rfl h4 fun v w h=>k t v w h2 h
theorem Y.kl {dst:Option Tmp} {α β:Type} {x:Option α} {G:α→Option β} {r:β} {F:FuncId} {fn:Func} {xs:List Operand} {vs:List Value} {Φ:α→Value→World→Prop} {X:Value→World→Prop} (H:x.bind G=some r) (hF:P.funcs[F]?=some fn) (hc:∀t,x=some t→Calls P F vs.toArray w (Ret (Φ t)))
  (k:∀t v w,G t=some r→Φ t v w→X v w) (ex:evs f xs=some vs:=by exact rfl) (hn:(fn.name=="runtime.NumGoroutine")=false:=by kernel_rfl) (hb:fn.body.isNone=false:=by exact rfl):
  ∃Φ:Value→World→Prop,Turns P Q n f w {dst,op:=.call {callee:=.value (.func F),args:=xs.toArray,argTypes:=ts},type:=ty,pos,after:=af,guard:=gd} Φ∧∀v w,Φ v w→X v w:=by
 obtain ⟨t,h1,h2⟩:=bind_s H
 exact ⟨_,Y.call hF hn hb ex (hc t h1),fun v w h=>k t v w h2 h⟩
theorem W.sr (z:Nat) {b i:Nat} {v:Value} {M:List As} (hs:St L w0 w) (ex:Walk.ev f x=some (.pointer (some ⟨b,i,none⟩))) (ey:Walk.ev f y=some v) (hz':i=z) [hz:Inf P t 1] [q:UB L b z v M] (k:∀w,St M w0 w→W P ops n Q l f w) (h1:v.oneCell'=true:=by exact rfl):W P ops n Q ({dst:=none,op:=.store t x y,type:=ty,pos,after:=af,guard:=none}::l) f w:=by
 subst hz'
 obtain ⟨j,c,c',e,h2,h3,h4,h5⟩:=q.h
 obtain ⟨u,hu⟩:=Option.isSome_iff_exists.1 h3
 exact W.ev_none (Y.storeAt j hs h2 hz.h ex ey h1 hu h4 h5) rfl rfl fun _ w h=>k w h
theorem Y.sr {dst:Option Tmp} {X:Value→World→Prop} (z:Nat) {b i:Nat} {v:Value} {M:List As} (hs:St L w0 w) (ex:Walk.ev f x=some (.pointer (some ⟨b,i,none⟩))) (ey:Walk.ev f y=some v) (hz':i=z) [hz:Inf P t 1] [q:UB L b z v M] (k:∀v w,St M w0 w→X v w) (h1:v.oneCell'=true:=by exact rfl):∃Φ:Value→World→Prop,Turns P Q n f w {dst,op:=.store t x y,type:=ty,pos,after:=af,guard:=gd} Φ∧∀v w,Φ v w→X v w:=by
 subst hz'
 obtain ⟨j,c,c',e,h2,h3,h4,h5⟩:=q.h
 obtain ⟨u,hu⟩:=Option.isSome_iff_exists.1 h3
 exact ⟨_,Y.storeAt j hs h2 hz.h ex ey h1 hu h4 h5,fun v w h=>k v w h⟩
theorem W.co {s:TypeId} (ex:okd d n (Walk.ev f x)=some (.int k' a)) [r:Und P s ds] [q:Und P t (.int k)] (h:W P ops n Q l ((d,.int k (k.wrap a))::f) w):W P ops n Q ({dst:=some d,op:=.convert s t x,type:=ty,pos,after:=af,guard:=none}::l) f w:=W.rd (X.conv r.h q.h (okd.ok ex).2) rfl rfl (okd.ok ex).1 h
theorem W.ia {e b o m sz:Nat} {k:IntKind} {j:Int} (ex:okd d n (Walk.ev f x)=some (.pointer (some ⟨b,o,none⟩))) (ey:Walk.ev f y=some (.int k j)) [r:Und P t (.array m e)] [z:Inf P e sz] (h:0≤j∧j<(m:Int)) (hk:W P ops n Q l ((d,.pointer (some ⟨b,o+j.toNat*sz,none⟩))::f) w):W P ops n Q ({dst:=some d,op:=.indexAddr t x y,type:=ty,pos,after:=af,guard:=none}::l) f w:=W.rd (X.indexAr r.h z.h (okd.ok ex).2 ey h.1 h.2) rfl rfl (okd.ok ex).1 hk
theorem W.is {e b o m c sz:Nat} {k:IntKind} {j:Int} (ex:okd d n (Walk.ev f x)=some (.slice (some ⟨b,o,none⟩) m c)) (ey:Walk.ev f y=some (.int k j)) [r:Und P t (.slice e)] [z:Inf P e sz] (h:0≤j∧j<(m:Int)) (hk:W P ops n Q l ((d,.pointer (some ⟨b,o+j.toNat*sz,none⟩))::f) w):W P ops n Q ({dst:=some d,op:=.indexAddr t x y,type:=ty,pos,after:=af,guard:=none}::l) f w:=W.rd (X.indexSl r.h z.h (okd.ok ex).2 ey h.1 h.2) rfl rfl (okd.ok ex).1 hk
theorem W.lS {b j sz:Nat} {c:Array Value} {e:TypeId} {vs:List Value} (hs:St L w0 w) (ex:okd d n (Walk.ev f x)=some (.pointer (some ⟨b,j,none⟩))) [r:Und P t ds] [z:Inf P t sz] [q:FB L b c e] (hg:aggD ds=true) (hv:(c.toList.drop j).take sz=vs) (hz:vs.length=sz) (h:W P ops n Q l ((d,.agg vs.toArray)::f) w):W P ops n Q ({dst:=some d,op:=.load t x,type:=ty,pos,after:=af,guard:=none}::l) f w:=by
 obtain ⟨k,hk⟩:=q.h;subst hz
 exact W.rd (X.loadSt k vs hs hk r.h hg z.h hv (okd.ok ex).2) rfl rfl (okd.ok ex).1 h
theorem W.ss {b sz:Nat} {c:Array Value} {vs:List Value} {M:List As} (hs:St L w0 w) (ex:Walk.ev f x=some (.pointer (some ⟨b,0,none⟩))) (ey:Walk.ev f y=some (.agg vs.toArray)) [hz:Inf P t sz] (hl:vs.length=sz) [q:UW L b vs c M] (h1:vs.all (·.oneCell')=true) (k:∀w,St M w0 w→W P ops n Q l f w) (hc:c.toList.length=vs.length:=by exact rfl):W P ops n Q ({dst:=none,op:=.store t x y,type:=ty,pos,after:=af,guard:=none}::l) f w:=by
 obtain ⟨j,e,h2,h3⟩:=q.h
 subst hl
 exact W.ev_none (Y.storeSt (c':=vs.toArray) j vs hs h2 hz.h ex ey h1 (Nat.ble_eq_true_of_le (by omega)) (by simp [hc]) h3) rfl rfl fun _ w h=>k w h
theorem T.dp {dn es bl:List Nat} {f0:Fr} {Wd:World→Prop} (es' bl':List Nat) (x:Fr) (hx:newOk ops (es++bl) none undef x) (h:T P ops n Q dn es' bl' f0 (x++f) Wd) (hs:(es'++bl').all (hasN (es++bl))=true:=by kernel_rfl):T P ops n Q dn es bl f0 f Wd:=T.drop x hs hx h
theorem rt {G:Prop} (h:G:=by cases H;first|exact At.ret1 rfl rfl ⟨_,rfl,rfl,HS⟩|exact At.end0 rfl ⟨_,rfl,rfl,HS⟩|exact At.ret0 rfl ⟨_,rfl,rfl,HS⟩|exact At.ret1 rfl rfl ⟨_,rfl,_,_,rfl,HS⟩|exact At.ret2 rfl rfl rfl ⟨_,rfl,_,_,rfl,HS⟩|exact At.ret1 rfl rfl ⟨_,rfl,_,rfl,HS⟩|exact At.ret2 rfl rfl rfl ⟨_,rfl,rfl,HS⟩|exact At.ret2 rfl rfl rfl ⟨_,rfl,_,rfl,HS⟩|exact At.ret3 rfl rfl rfl rfl ⟨_,rfl,rfl,HS⟩|exact At.ret3 rfl rfl rfl rfl ⟨_,rfl,_,_,rfl,HS⟩|exact At.ret1 rfl rfl ⟨_,rfl,_,_,_,rfl,HS⟩):G:=h
theorem tst {G:Prop} (h:G:=by first|with_reducible rfl|with_reducible assumption|exact dT (by with_reducible assumption)|exact dF (by with_reducible assumption)|exact b_f (by with_reducible assumption)|exact n_t (by with_reducible assumption)|exact n_f (b_f (by with_reducible assumption))|exact n_t (dT (by with_reducible assumption))|exact n_f (dF (by with_reducible assumption))|rfl|assumption):G:=h
def seeO (ops:Array Oper) (f0 f:Fr) (i:Nat):Operand→Option Value
 | .tmp t=>sees ops f0 f i t
 |x=>ev [] x
theorem seesAll.look {ops:Array Oper} {f0 f:Fr} {i:Nat}:∀{g:Fr},seesAll ops f0 f i g→∀t v,look g t=some v→sees ops f0 f i t=some v
 |[],_,t,v,e=>by simp [Walk.look] at e
 |(s,u)::r,⟨h,hr⟩,t,v,e=>by
  simp only [Walk.look] at e
  cases hb:Nat.beq s t with
  |true=>rw [hb] at e;have:=Nat.eq_of_beq_eq_true hb;subst this;simp at e;subst e;exact h
  |false=>rw [hb] at e;exact hr.look t v e
variable {f0:Fr} {i:Nat} {Wd:World→Prop} {dst:Option Tmp}
theorem seeO.one {x:Operand} {v:Value} (h:seeO ops f0 f i x=some v):∃g,seesAll ops f0 f i g∧Walk.ev g x=some v:=by
 cases x with
 |tmp t=>exact ⟨[(t,v)],⟨h,trivial⟩,by simp [Walk.ev,look]⟩
 |const c=>exact ⟨[],trivial,h⟩
 |global c=>exact ⟨[],trivial,h⟩
 |func c=>exact ⟨[],trivial,h⟩
theorem seeO.two {x y:Operand} {v u:Value} (h:seeO ops f0 f i x=some v) (h':seeO ops f0 f i y=some u):∃g,seesAll ops f0 f i g∧Walk.ev g x=some v∧Walk.ev g y=some u:=by
 obtain ⟨g,hg,e⟩:=seeO.one h
 cases y with
 |tmp t=>
  refine ⟨(t,u)::g,⟨h',hg⟩,?_,by simp [Walk.ev,look]⟩
  cases x with
  |tmp s=>
   simp only [Walk.ev,look]
   cases hb:Nat.beq t s with
   |true=>
    have:=Nat.eq_of_beq_eq_true hb;subst this
    have:some v=some u:=h.symm.trans h'
    simpa using this.symm
   |false=>simpa [Walk.ev] using e
  |const c=>exact e
  |global c=>exact e
  |func c=>exact e
 |const c=>exact ⟨g,hg,e,h'⟩
 |global c=>exact ⟨g,hg,e,h'⟩
 |func c=>exact ⟨g,hg,e,h'⟩
def RdO (P:Program) (ops:Array Oper) (n:Nat) (f0 f:Fr) (Wd:World→Prop) (i:Nat) (o:Oper) (v:Value):Prop:=∃g,seesAll ops f0 f i g∧∀w,Wd w→Runs P n g w o v
theorem RdOk.pl {op:Op} (ho:ops[i]?=some {dst:=some d,op,type:=ty,pos,after:=af,guard:=none}) (h:RdO P ops n f0 f Wd i {dst:=some d,op,type:=ty,pos,after:=af,guard:=none} v) (hl:look f d=some v) (h1:Nat.ble (d+1) n=true) (hu:(writers ops d).all (Nat.beq · i)=true):RdOk P ops n f0 f Wd i:=
 let ⟨g,hg,hr⟩:=h;⟨_,v,g,d,ho,rfl,hg.ok,.run rfl hr,hl,h1,hu⟩
theorem RdOk.wt {op:Op} {j t:Nat} {b x:Bool} (ho:ops[i]?=some {dst:=some d,op,type:=ty,pos,after:=af,guard:=some (j,b)}) (hj:(ops[j]?).bind (·.dst)=some t) (hr:sees ops f0 f i t=some (.bool x)) (hx:x=b) (h:RdO P ops n f0 f Wd i {dst:=some d,op,type:=ty,pos,after:=af,guard:=none} v) (hl:look f d=some v) (h1:Nat.ble (d+1) n=true) (hu:(writers ops d).all (Nat.beq · i)=true):RdOk P ops n f0 f Wd i:=by
 obtain ⟨g,hg,hrun⟩:=h
 subst hx
 have hg':seesAll ops f0 f i ((t,.bool x)::g):=⟨hr,hg⟩
 refine ⟨_,v,_,d,ho,rfl,hg'.ok,.want j x t rfl hj (by simp [look]) (fun w hw a ha=>?_),hl,h1,hu⟩
 have:=hrun w hw a ⟨ha.dfr,ha.size,fun s u e=>ha.holds s u (by
  simp only [look]
  cases hb:Nat.beq t s with
  |true=>have:=Nat.eq_of_beq_eq_true hb;subst this;have e2:=(hg.look t u e).symm.trans hr;simpa using e2.symm
  |false=>simpa using e)⟩
 simpa [execOp] using this
theorem RdOk.ps {op:Op} {j t:Nat} {b x:Bool} (ho:ops[i]?=some {dst:=some d,op,type:=ty,pos,after:=af,guard:=some (j,b)}) (hj:(ops[j]?).bind (·.dst)=some t) (hr:sees ops f0 f i t=some (.bool x)) (hx:x=!b) (hl:look f d=some undef) (h1:Nat.ble (d+1) n=true) (hu:(writers ops d).all (Nat.beq · i)=true):RdOk P ops n f0 f Wd i:=
 ⟨_,undef,[(t,.bool x)],d,ho,rfl,⟨(sees.seen hr),trivial⟩,.pass j b x t rfl hj (by simp [look]) (by rw [hx];cases b<;>rfl) rfl,hl,h1,hu⟩
theorem RdOk.un {op:Op} {j t:Nat} {b:Bool} (ho:ops[i]?=some {dst:=some d,op,type:=ty,pos,after:=af,guard:=some (j,b)}) (hj:(ops[j]?).bind (·.dst)=some t) (hr:sees ops f0 f i t=some undef) (hl:look f d=some undef) (h1:Nat.ble (d+1) n=true) (hu:(writers ops d).all (Nat.beq · i)=true):RdOk P ops n f0 f Wd i:=
 ⟨_,undef,[(t,undef)],d,ho,rfl,⟨(sees.seen hr),trivial⟩,.passU j b t rfl hj (by simp [look]) rfl,hl,h1,hu⟩
theorem RdO.mv (h:seeO ops f0 f i x=some v):RdO P ops n f0 f Wd i {dst,op:=.move x,type:=ty,pos,after:=af,guard:=none} v:=let ⟨g,hg,e⟩:=seeO.one h;⟨g,hg,fun _ _=>X.move e⟩
theorem RdO.as (h:seeO ops f0 f i x=some v):RdO P ops n f0 f Wd i {dst,op:=.assign x,type:=ty,pos,after:=af,guard:=none} v:=let ⟨g,hg,e⟩:=seeO.one h;⟨g,hg,fun _ _=>X.assign e⟩
theorem RdO.nc {p:Addr} (h:seeO ops f0 f i x=some (.pointer (some p))):RdO P ops n f0 f Wd i {dst,op:=.nilCheck x,type:=ty,pos,after:=af,guard:=none} (.pointer (some p)):=let ⟨g,hg,e⟩:=seeO.one h;⟨g,hg,fun _ _=>X.nilCheck e⟩
theorem RdO.fa {s:TypeId} {j b c q:Nat} (h:seeO ops f0 f i x=some (.pointer (some ⟨b,c,none⟩))) [hq:FO P s j q]:RdO P ops n f0 f Wd i {dst,op:=.fieldAddr s x j,type:=ty,pos,after:=af,guard:=none} (.pointer (some ⟨b,c+q,none⟩)):=let ⟨g,hg,e⟩:=seeO.one h;⟨g,hg,fun _ _=>X.fieldAddr q hq.h e⟩
theorem RdO.ld {b j:Nat} {c:Array Value} {e:TypeId} (h:seeO ops f0 f i x=some (.pointer (some ⟨b,j,none⟩))) [r:Und P t ds] [q:FB L b c e] (hg:aggD ds=false) (hc:c[j]?=some v):RdO P ops n f0 f (fun w=>St L w0 w) i {dst,op:=.load t x,type:=ty,pos,after:=af,guard:=none} v:=by
 obtain ⟨g,hg',e'⟩:=seeO.one h;obtain ⟨k,hk⟩:=q.h;exact ⟨g,hg',fun _ hs=>X.loadAt k hs hk r.h hg e' hc⟩
theorem RdO.ls {b j sz:Nat} {c:Array Value} {e:TypeId} {vs:List Value} (h:seeO ops f0 f i x=some (.pointer (some ⟨b,j,none⟩))) [r:Und P t ds] [z:Inf P t sz] [q:FB L b c e] (hg:aggD ds=true) (hv:(c.toList.drop j).take sz=vs) (hz:vs.length=sz):RdO P ops n f0 f (fun w=>St L w0 w) i {dst,op:=.load t x,type:=ty,pos,after:=af,guard:=none} (.agg vs.toArray):=by
 obtain ⟨g,hg',e'⟩:=seeO.one h;obtain ⟨k,hk⟩:=q.h;subst hz;exact ⟨g,hg',fun _ hs=>X.loadSt k vs hs hk r.h hg z.h hv e'⟩
theorem RdO.ex {j:Nat} {vs:Array Value} (h:seeO ops f0 f i x=some (.tuple vs)) (hv:vs[j]?=some v):RdO P ops n f0 f Wd i {dst,op:=.extract x j,type:=ty,pos,after:=af,guard:=none} v:=let ⟨g,hg,e⟩:=seeO.one h;⟨g,hg,fun _ _=>X.extract e hv⟩
theorem RdO.not (h:seeO ops f0 f i x=some (.bool p)):RdO P ops n f0 f Wd i {dst,op:=.unOp .not t x,type:=ty,pos,after:=af,guard:=none} (.bool (!p)):=let ⟨g,hg,e⟩:=seeO.one h;⟨g,hg,fun _ _=>X.not e⟩
theorem RdO.le {e m c:Nat} {ad:Option Addr} (h:seeO ops f0 f i x=some (.slice ad m c)) [r:Und P t (.slice e)]:RdO P ops n f0 f Wd i {dst,op:=.call {callee:=.builtin .len,args:=#[x],argTypes:=#[t]},type:=ty,pos,after:=af,guard:=none} (.int .i64 m):=let ⟨g,hg,e⟩:=seeO.one h;⟨g,hg,fun _ _=>X.lenSl r.h e⟩
theorem RdO.cv {s:TypeId} (h:seeO ops f0 f i x=some (.int k' a)) [r:Und P s ds] [q:Und P t (.int k)]:RdO P ops n f0 f Wd i {dst,op:=.convert s t x,type:=ty,pos,after:=af,guard:=none} (.int k (k.wrap a)):=let ⟨g,hg,e⟩:=seeO.one h;⟨g,hg,fun _ _=>X.conv r.h q.h e⟩
theorem RdO.cp {op:BinOp} {c:Bool} (hx:seeO ops f0 f i x=some (.int k a)) (hy:seeO ops f0 f i y=some (.int k b)) (hc:cmpV op a b=some c):RdO P ops n f0 f Wd i {dst,op:=.binOp op t x y u,type:=ty,pos,after:=af,guard:=none} (.bool c):=let ⟨g,hg,e,e'⟩:=seeO.two hx hy;⟨g,hg,fun _ _=>X.cmp c (cmpV.ok hc).1 (cmpV.ok hc).2 e e'⟩
theorem RdO.ad (hx:seeO ops f0 f i x=some (.int k a)) (hy:seeO ops f0 f i y=some (.int k b)):RdO P ops n f0 f Wd i {dst,op:=.binOp .add t x y u,type:=ty,pos,after:=af,guard:=none} (.int k (k.wrap (a+b))):=let ⟨g,hg,e,e'⟩:=seeO.two hx hy;⟨g,hg,fun _ _=>X.add e e'⟩
theorem RdO.su (hx:seeO ops f0 f i x=some (.int k a)) (hy:seeO ops f0 f i y=some (.int k b)):RdO P ops n f0 f Wd i {dst,op:=.binOp .sub t x y u,type:=ty,pos,after:=af,guard:=none} (.int k (k.wrap (a-b))):=let ⟨g,hg,e,e'⟩:=seeO.two hx hy;⟨g,hg,fun _ _=>X.sub e e'⟩
theorem RdO.mu (hx:seeO ops f0 f i x=some (.int k a)) (hy:seeO ops f0 f i y=some (.int k b)):RdO P ops n f0 f Wd i {dst,op:=.binOp .mul t x y u,type:=ty,pos,after:=af,guard:=none} (.int k (k.wrap (a*b))):=let ⟨g,hg,e,e'⟩:=seeO.two hx hy;⟨g,hg,fun _ _=>X.mul e e'⟩
theorem RdO.pT {c:Operand} (hc:seeO ops f0 f i c=some (.bool p)) (hp:p=true) (h:seeO ops f0 f i x=some v):RdO P ops n f0 f Wd i {dst,op:=.pick c x y,type:=ty,pos,after:=af,guard:=none} v:=by
 subst hp;obtain ⟨g,hg,e,e'⟩:=seeO.two hc h;exact ⟨g,hg,fun _ _=>X.pickT e e'⟩
theorem RdO.pF {c:Operand} (hc:seeO ops f0 f i c=some (.bool p)) (hp:p=false) (h:seeO ops f0 f i y=some v):RdO P ops n f0 f Wd i {dst,op:=.pick c x y,type:=ty,pos,after:=af,guard:=none} v:=by
 subst hp;obtain ⟨g,hg,e,e'⟩:=seeO.two hc h;exact ⟨g,hg,fun _ _=>X.pickF e e'⟩
theorem RdO.ia {e b o m sz:Nat} {k:IntKind} {j:Int} (hx:seeO ops f0 f i x=some (.pointer (some ⟨b,o,none⟩))) (hy:seeO ops f0 f i y=some (.int k j)) [r:Und P t (.array m e)] [z:Inf P e sz] (h:0≤j∧j<(m:Int)):RdO P ops n f0 f Wd i {dst,op:=.indexAddr t x y,type:=ty,pos,after:=af,guard:=none} (.pointer (some ⟨b,o+j.toNat*sz,none⟩)):=let ⟨g,hg,e,e'⟩:=seeO.two hx hy;⟨g,hg,fun _ _=>X.indexAr r.h z.h e e' h.1 h.2⟩
theorem RdO.is {e b o m c sz:Nat} {k:IntKind} {j:Int} (hx:seeO ops f0 f i x=some (.slice (some ⟨b,o,none⟩) m c)) (hy:seeO ops f0 f i y=some (.int k j)) [r:Und P t (.slice e)] [z:Inf P e sz] (h:0≤j∧j<(m:Int)):RdO P ops n f0 f Wd i {dst,op:=.indexAddr t x y,type:=ty,pos,after:=af,guard:=none} (.pointer (some ⟨b,o+j.toNat*sz,none⟩)):=let ⟨g,hg,e,e'⟩:=seeO.two hx hy;⟨g,hg,fun _ _=>X.indexSl r.h z.h e e' h.1 h.2⟩
theorem rdO {G:Prop} (h:G:=by first|exact RdO.mv rfl|exact RdO.fa rfl|exact RdO.ld rfl rfl rfl|exact RdO.nc rfl|exact RdO.as rfl|exact RdO.ls rfl rfl rfl rfl|exact RdO.ia rfl rfl (by first|with_reducible assumption|decide|assumption)|exact RdO.is rfl rfl (by first|with_reducible assumption|assumption)|exact RdO.cp rfl rfl rfl|exact RdO.ex rfl rfl|exact RdO.pF rfl tst rfl|exact RdO.pT rfl tst rfl|exact RdO.ad rfl rfl|exact RdO.le rfl|exact RdO.cv rfl|exact RdO.mu rfl rfl|exact RdO.su rfl rfl|exact RdO.not rfl):G:=h
theorem rd {G:Prop} (h:G:=by first|exact RdOk.pl rfl rdO rfl (by kernel_rfl) (by kernel_rfl)|exact RdOk.ps rfl rfl rfl tst rfl (by kernel_rfl) (by kernel_rfl)|exact RdOk.wt rfl rfl rfl tst rdO rfl (by kernel_rfl) (by kernel_rfl)|exact RdOk.un rfl rfl rfl rfl (by kernel_rfl) (by kernel_rfl)):G:=h
theorem rds {G:Prop} (h:G:=by (repeat (refine And.intro ?_ ?_;exact rd));exact trivial):G:=h
def seesL (ops:Array Oper) (f0 f:Fr) (i:Nat):List Nat→Option Fr
 |[]=>some []
 |t::r=>match sees ops f0 f i t,seesL ops f0 f i r with
  |some v,some g=>some ((t,v)::g)
  |_,_=>none
theorem seesL.ok {ops:Array Oper} {f0 f:Fr} {i:Nat}:∀{ts:List Nat} {g:Fr},seesL ops f0 f i ts=some g→seesAll ops f0 f i g
 |[],g,h=>by simp [seesL] at h;subst h;trivial
 |t::r,g,h=>by
  simp only [seesL] at h
  cases h1:sees ops f0 f i t with
  |none=>rw [h1] at h;cases h
  |some v=>
   cases h2:seesL ops f0 f i r with
   |none=>rw [h1,h2] at h;cases h
   |some g'=>rw [h1,h2] at h;simp at h;subst h;exact ⟨h1,seesL.ok h2⟩
def outsL (ops:Array Oper) (f0 f:Fr):List Nat→Option Fr
 |[]=>some []
 |t::r=>match (bif (writers ops t).isEmpty then look f0 t else look f t),outsL ops f0 f r with
  |some v,some g=>some ((t,v)::g)
  |_,_=>none
theorem outsL.ok {ops:Array Oper} {f0 f:Fr}:∀{ts:List Nat} {g:Fr},outsL ops f0 f ts=some g→outsAll ops f0 f g
 |[],g,h=>by simp [outsL] at h;subst h;trivial
 |t::r,g,h=>by
  simp only [outsL] at h
  cases h1:(bif (writers ops t).isEmpty then look f0 t else look f t) with
  |none=>rw [h1] at h;cases h
  |some v=>
   cases h2:outsL ops f0 f r with
   |none=>rw [h1,h2] at h;cases h
   |some g'=>rw [h1,h2] at h;simp at h;subst h;exact ⟨h1,outsL.ok h2⟩
theorem T.e {e:Nat} {dn es bl:List Nat} {g:Fr} (ts bl' an:List Nat) (h:∀w,Wd w→∃Φ:Value→World→Prop,Turns P Q n g w o Φ∧∀v w',Φ v w'→∃(x:Fr) (Wd':World→Prop),newOk ops bl o.dst v x∧T P ops n Q (e::an++dn) es bl' f0 (x++f) Wd'∧Wd' w') (hrd:AllRd P ops n f0 f Wd (restOf ops dn (e::es) bl):=by exact rds) (hg:seesL ops f0 f e ts=some g:=by exact rfl) (ho:ops[e]?=some o:=by exact rfl)
  (hac:acyc ops=true:=by kernel_rfl) (hwt:waitOk ops (e::es) bl=true:=by kernel_rfl) (hgd:o.guard=none:=by exact rfl) (hd:dstOk ops n e f o.dst=true:=by kernel_rfl) (hbl:bl'.all (hasN bl)=true:=by kernel_rfl) (han:anOk ops e an=true:=by kernel_rfl):T P ops n Q dn (e::es) bl f0 f Wd:=
 T.ev g bl' an (seesL.ok hg) hrd ho h hac hwt hgd hd hbl han
theorem T.eG {e:Nat} {dn es bl:List Nat} {g:Fr} (ts bl' an:List Nat) (h:∀w,Wd w→∃Φ:Value→World→Prop,Turns P Q n g w o Φ∧∀v w',Φ v w'→∃(x:Fr) (Wd':World→Prop),newOk ops bl o.dst v x∧T P ops n Q (e::an++dn) es bl' f0 (x++f) Wd'∧Wd' w') (hrd:AllRd P ops n f0 f Wd (restOf ops dn (e::es) bl):=by exact rds) (hg:seesL ops f0 f e ts=some g:=by exact rfl) (ho:ops[e]?=some o:=by exact rfl)
  (hgd:o.guard=none∨∃j b t,o.guard=some (j,b)∧(ops[j]?).bind (·.dst)=some t∧look g t=some (.bool b):=by exact .inr ⟨_,_,_,rfl,rfl,sb tst⟩) (hac:acyc ops=true:=by kernel_rfl) (hwt:waitOk ops (e::es) bl=true:=by kernel_rfl) (hd:dstOk ops n e f o.dst=true:=by kernel_rfl) (hbl:bl'.all (hasN bl)=true:=by kernel_rfl) (han:anOk ops e an=true:=by kernel_rfl):T P ops n Q dn (e::es) bl f0 f Wd:=
 T.evG g bl' an (seesL.ok hg) hrd ho hgd h hac hwt hd hbl han
theorem T.ff {dn:List Nat} {g:Fr} (ts:List Nat) (h:∀w,Wd w→At n Q .normal g w) (hrd:AllRd P ops n f0 f Wd (restOf ops dn [] []):=by exact rds) (hg:outsL ops f0 f ts=some g:=by exact rfl) (hac:acyc ops=true:=by kernel_rfl):T P ops n Q dn [] [] f0 f Wd:=T.fn g (outsL.ok hg) hrd h hac
theorem V.da {i:Nat} {l:List Oper} {w:World} (es bl:List Nat) (f:Fr) {f0:Fr} (hm:P.follows .mixedOrders=true) (hs:St L w0 w) (hlt:(es++bl).all (Nat.blt · l.length)=true) (h:T P l.toArray n Q [] es bl f0 f (fun w=>St L w0 w)):V P n Q (.region i l.toArray true) f0 w:=V.draw _ hm hs.drew hlt h
theorem T.na {w:World} {bl dn es bl':List Nat} {v:Value} (x:Fr) (hs:St L w0 w) (hx:newOk ops bl dst v x) (h:T P ops n Q dn es bl' f0 (x++f) (fun w=>St L w0 w)):∃(x:Fr) (Wd':World→Prop),newOk ops bl dst v x∧T P ops n Q dn es bl' f0 (x++f) Wd'∧Wd' w:=⟨x,_,hx,h,hs⟩
theorem nmk {G:Prop} (h:G:=by (repeat first|refine And.intro (.inl ⟨rfl,rfl⟩) ?_|refine And.intro (.inr ⟨by decide,rfl⟩) ?_);exact trivial):G:=h
structure Wrap (R:Prop):Prop where
 h:R
theorem go {G R:Prop} (k:R) (h:Wrap R→G:=by
 intro k
 (repeat first
  |(show W _ _ _ _ _ _ _;first|refine W.mv rfl ?_|refine W.as rfl ?_|refine W.nx ?_|refine W.cp rfl rfl rfl ?_|refine W.fA rfl ?_|refine W.nc rfl ?_|refine W.lD HS rfl rfl rfl ?_|refine W.pass _ rfl rfl rfl rfl ?_|refine W.want _ rfl rfl ?_|refine W.ex rfl rfl ?_|refine W.nil ?_|refine W.pF rfl rfl ?_|refine W.pT rfl rfl ?_|refine W.ad rfl rfl ?_|refine W.le rfl ?_|refine W.not rfl ?_|refine W.su rfl rfl ?_|refine W.mi rfl rfl ?_|refine W.mu rfl rfl ?_|refine W.ma rfl rfl ?_|refine W.co rfl ?_|refine W.ia rfl rfl (by decide) ?_|refine W.is rfl rfl (by with_reducible assumption) ?_|refine W.lS HS rfl rfl rfl rfl ?_|refine W.passU _ rfl rfl rfl ?_|refine W.pass_none _ rfl rfl rfl ?_)
  |(show V _ _ _ _ _ _;first|refine V.seq (V.region ?_)|refine V.ret ?_|refine V.condF rfl ?_|refine V.condT rfl ?_|refine V.skip ?_|refine V.seq ?_|refine V.block ?_|refine V.region ?_|refine V.exit ?_|refine V.label ?_|refine V.goto ?_)
  |(show At _ _ _ _ _;first|refine At.next ?_|refine At.blockEnd ?_|refine At.thenRet ?_|refine At.thenExit ?_|refine At.blockExit ?_|refine At.blockRet ?_|refine At.blockPast rfl ?_|refine At.thenGoto ?_|refine At.blockGoto ?_|refine At.scopeEnd ?_|refine At.scopeRet ?_|refine At.scopeExit ?_))
 exact k.h):G:=h ⟨k⟩
theorem gs {G R:Prop} (k:R) (h:Wrap R→G:=by
 intro k
 (repeat first
  |(show W _ _ _ _ _ _ _;first|refine W.mv rfl ?_|refine W.as rfl ?_|refine W.nx ?_|refine W.cp rfl rfl rfl ?_|refine W.fA rfl ?_|refine W.nc rfl ?_|refine W.lD HS rfl rfl rfl ?_|refine W.pass _ rfl rfl rfl rfl ?_|refine W.want _ rfl rfl ?_|refine W.ex rfl rfl ?_|refine W.nil ?_|refine W.pF rfl rfl ?_|refine W.pT rfl rfl ?_|refine W.ad rfl rfl ?_|refine W.le rfl ?_|refine W.not rfl ?_|refine W.su rfl rfl ?_|refine W.mi rfl rfl ?_|refine W.mu rfl rfl ?_|refine W.ma rfl rfl ?_|refine W.co rfl ?_|refine W.ia rfl rfl (by decide) ?_|refine W.is rfl rfl (by with_reducible assumption) ?_|refine W.lS HS rfl rfl rfl rfl ?_|refine W.passU _ rfl rfl rfl ?_|refine W.pass_none _ rfl rfl rfl ?_)
  |(show V _ _ _ _ _ _;first|refine V.ret ?_|refine V.condF rfl ?_|refine V.condT rfl ?_|refine V.skip ?_|refine V.block ?_|refine V.region ?_|refine V.exit ?_|refine V.label ?_|refine V.goto ?_)
  |(show At _ _ _ _ _;first|refine At.next ?_|refine At.blockEnd ?_|refine At.thenRet ?_|refine At.thenExit ?_|refine At.blockExit ?_|refine At.blockRet ?_|refine At.blockPast rfl ?_|refine At.thenGoto ?_|refine At.blockGoto ?_|refine At.scopeEnd ?_|refine At.scopeRet ?_|refine At.scopeExit ?_))
 exact k.h):G:=h ⟨k⟩
end
end Go.Proofs.YtaejcbpijdacmaaGreat.Walk

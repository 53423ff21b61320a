/- A base for the walks of this seat: short forms of the rules. It speaks of no program. -/
import Derived.Test.YtaejcbpijdacmaaGreatRaw
import Derived.Test.YtaejcbpijdacmaaGreatFlo
import Derived.Test.YtaejcbpijdacmaaGreatInl
import Derived.Test.YtaejcbpijdacmaaGreatEqv
set_option linter.all false
universe u
namespace Go.Proofs.YtaejcbpijdacmaaGreat.Sep
theorem Z {α:Sort u} {a:α}:a=a:=rfl
section
variable {w0 w:World} {L:List As} {P0 P1 P2 P3 P4 P5 P6 P7 P8 P9 P10 P11 P12 P13 P14 P15 P16 P17 P18 P19 P20 P21 P22 P23 P24 P25 P26:As}
theorem St.j0 (hs:St (L) w0 w):St [Sp L] w0 w:=St.tailJoin (m:=[]) (r:=L) hs
theorem St.o0 (hs:St [Sp L] w0 w):St (L) w0 w:=St.tailOpen (m:=[]) (r:=L) hs
theorem St.j1 (hs:St (P0::L) w0 w):St [P0,Sp L] w0 w:=St.tailJoin (m:=[P0]) (r:=L) hs
theorem St.o1 (hs:St [P0,Sp L] w0 w):St (P0::L) w0 w:=St.tailOpen (m:=[P0]) (r:=L) hs
theorem St.j2 (hs:St (P0::P1::L) w0 w):St [P0,P1,Sp L] w0 w:=St.tailJoin (m:=[P0,P1]) (r:=L) hs
theorem St.o2 (hs:St [P0,P1,Sp L] w0 w):St (P0::P1::L) w0 w:=St.tailOpen (m:=[P0,P1]) (r:=L) hs
theorem St.j3 (hs:St (P0::P1::P2::L) w0 w):St [P0,P1,P2,Sp L] w0 w:=St.tailJoin (m:=[P0,P1,P2]) (r:=L) hs
theorem St.o3 (hs:St [P0,P1,P2,Sp L] w0 w):St (P0::P1::P2::L) w0 w:=St.tailOpen (m:=[P0,P1,P2]) (r:=L) hs
theorem St.j4 (hs:St (P0::P1::P2::P3::L) w0 w):St [P0,P1,P2,P3,Sp L] w0 w:=St.tailJoin (m:=[P0,P1,P2,P3]) (r:=L) hs
theorem St.o4 (hs:St [P0,P1,P2,P3,Sp L] w0 w):St (P0::P1::P2::P3::L) w0 w:=St.tailOpen (m:=[P0,P1,P2,P3]) (r:=L) hs
theorem St.j5 (hs:St (P0::P1::P2::P3::P4::L) w0 w):St [P0,P1,P2,P3,P4,Sp L] w0 w:=St.tailJoin (m:=[P0,P1,P2,P3,P4]) (r:=L) hs
theorem St.o5 (hs:St [P0,P1,P2,P3,P4,Sp L] w0 w):St (P0::P1::P2::P3::P4::L) w0 w:=St.tailOpen (m:=[P0,P1,P2,P3,P4]) (r:=L) hs
theorem St.j6 (hs:St (P0::P1::P2::P3::P4::P5::L) w0 w):St [P0,P1,P2,P3,P4,P5,Sp L] w0 w:=St.tailJoin (m:=[P0,P1,P2,P3,P4,P5]) (r:=L) hs
theorem St.o6 (hs:St [P0,P1,P2,P3,P4,P5,Sp L] w0 w):St (P0::P1::P2::P3::P4::P5::L) w0 w:=St.tailOpen (m:=[P0,P1,P2,P3,P4,P5]) (r:=L) hs
theorem St.j7 (hs:St (P0::P1::P2::P3::P4::P5::P6::L) w0 w):St [P0,P1,P2,P3,P4,P5,P6,Sp L] w0 w:=St.tailJoin (m:=[P0,P1,P2,P3,P4,P5,P6]) (r:=L) hs
theorem St.o7 (hs:St [P0,P1,P2,P3,P4,P5,P6,Sp L] w0 w):St (P0::P1::P2::P3::P4::P5::P6::L) w0 w:=St.tailOpen (m:=[P0,P1,P2,P3,P4,P5,P6]) (r:=L) hs
theorem St.j8 (hs:St (P0::P1::P2::P3::P4::P5::P6::P7::L) w0 w):St [P0,P1,P2,P3,P4,P5,P6,P7,Sp L] w0 w:=St.tailJoin (m:=[P0,P1,P2,P3,P4,P5,P6,P7]) (r:=L) hs
theorem St.j9 (hs:St (P0::P1::P2::P3::P4::P5::P6::P7::P8::L) w0 w):St [P0,P1,P2,P3,P4,P5,P6,P7,P8,Sp L] w0 w:=St.tailJoin (m:=[P0,P1,P2,P3,P4,P5,P6,P7,P8]) (r:=L) hs
theorem St.j10 (hs:St (P0::P1::P2::P3::P4::P5::P6::P7::P8::P9::L) w0 w):St [P0,P1,P2,P3,P4,P5,P6,P7,P8,P9,Sp L] w0 w:=St.tailJoin (m:=[P0,P1,P2,P3,P4,P5,P6,P7,P8,P9]) (r:=L) hs
theorem St.o10 (hs:St [P0,P1,P2,P3,P4,P5,P6,P7,P8,P9,Sp L] w0 w):St (P0::P1::P2::P3::P4::P5::P6::P7::P8::P9::L) w0 w:=St.tailOpen (m:=[P0,P1,P2,P3,P4,P5,P6,P7,P8,P9]) (r:=L) hs
theorem St.j11 (hs:St (P0::P1::P2::P3::P4::P5::P6::P7::P8::P9::P10::L) w0 w):St [P0,P1,P2,P3,P4,P5,P6,P7,P8,P9,P10,Sp L] w0 w:=St.tailJoin (m:=[P0,P1,P2,P3,P4,P5,P6,P7,P8,P9,P10]) (r:=L) hs
theorem St.j12 (hs:St (P0::P1::P2::P3::P4::P5::P6::P7::P8::P9::P10::P11::L) w0 w):St [P0,P1,P2,P3,P4,P5,P6,P7,P8,P9,P10,P11,Sp L] w0 w:=St.tailJoin (m:=[P0,P1,P2,P3,P4,P5,P6,P7,P8,P9,P10,P11]) (r:=L) hs
theorem St.j21 (hs:St (P0::P1::P2::P3::P4::P5::P6::P7::P8::P9::P10::P11::P12::P13::P14::P15::P16::P17::P18::P19::P20::L) w0 w):St [P0,P1,P2,P3,P4,P5,P6,P7,P8,P9,P10,P11,P12,P13,P14,P15,P16,P17,P18,P19,P20,Sp L] w0 w:=St.tailJoin (m:=[P0,P1,P2,P3,P4,P5,P6,P7,P8,P9,P10,P11,P12,P13,P14,P15,P16,P17,P18,P19,P20]) (r:=L) hs
theorem St.j22 (hs:St (P0::P1::P2::P3::P4::P5::P6::P7::P8::P9::P10::P11::P12::P13::P14::P15::P16::P17::P18::P19::P20::P21::L) w0 w):St [P0,P1,P2,P3,P4,P5,P6,P7,P8,P9,P10,P11,P12,P13,P14,P15,P16,P17,P18,P19,P20,P21,Sp L] w0 w:=St.tailJoin (m:=[P0,P1,P2,P3,P4,P5,P6,P7,P8,P9,P10,P11,P12,P13,P14,P15,P16,P17,P18,P19,P20,P21]) (r:=L) hs
theorem St.j23 (hs:St (P0::P1::P2::P3::P4::P5::P6::P7::P8::P9::P10::P11::P12::P13::P14::P15::P16::P17::P18::P19::P20::P21::P22::L) w0 w):St [P0,P1,P2,P3,P4,P5,P6,P7,P8,P9,P10,P11,P12,P13,P14,P15,P16,P17,P18,P19,P20,P21,P22,Sp L] w0 w:=St.tailJoin (m:=[P0,P1,P2,P3,P4,P5,P6,P7,P8,P9,P10,P11,P12,P13,P14,P15,P16,P17,P18,P19,P20,P21,P22]) (r:=L) hs
theorem St.o23 (hs:St [P0,P1,P2,P3,P4,P5,P6,P7,P8,P9,P10,P11,P12,P13,P14,P15,P16,P17,P18,P19,P20,P21,P22,Sp L] w0 w):St (P0::P1::P2::P3::P4::P5::P6::P7::P8::P9::P10::P11::P12::P13::P14::P15::P16::P17::P18::P19::P20::P21::P22::L) w0 w:=St.tailOpen (m:=[P0,P1,P2,P3,P4,P5,P6,P7,P8,P9,P10,P11,P12,P13,P14,P15,P16,P17,P18,P19,P20,P21,P22]) (r:=L) hs
theorem St.o25 (hs:St [P0,P1,P2,P3,P4,P5,P6,P7,P8,P9,P10,P11,P12,P13,P14,P15,P16,P17,P18,P19,P20,P21,P22,P23,P24,Sp L] w0 w):St (P0::P1::P2::P3::P4::P5::P6::P7::P8::P9::P10::P11::P12::P13::P14::P15::P16::P17::P18::P19::P20::P21::P22::P23::P24::L) w0 w:=St.tailOpen (m:=[P0,P1,P2,P3,P4,P5,P6,P7,P8,P9,P10,P11,P12,P13,P14,P15,P16,P17,P18,P19,P20,P21,P22,P23,P24]) (r:=L) hs
end
end Go.Proofs.YtaejcbpijdacmaaGreat.Sep
namespace Go.Proofs.YtaejcbpijdacmaaGreat.Walk
abbrev pt (b:Nat):Value:=.pointer (some ⟨b,0,none⟩)
abbrev po (b o:Nat):Value:=.pointer (some ⟨b,o,none⟩)
abbrev vi (x:Int):Value:=.int .i64 x
abbrev vb (x:Bool):Value:=.bool x
abbrev vs (a:Option Addr) (n c:Nat):Value:=.slice a n c
theorem tv:True:=trivial
theorem dT {p:Prop} [h:Decidable p] (q:p):decide p=true:=decide_eq_true q
theorem dF {p:Prop} [h:Decidable p] (q:¬p):decide p=false:=decide_eq_false q
end Go.Proofs.YtaejcbpijdacmaaGreat.Walk
namespace Go.Proofs.YtaejcbpijdacmaaGreat.Sep
section
variable {w0 w:World} {L:List As}
class Nth {α:Type} (l:List α) (k:Nat) (a:outParam α):Prop where
 h:l[k]?=some a
instance Nth.z {α:Type} {l:List α} {a:α}:Nth (a::l) 0 a:=⟨rfl⟩
instance Nth.s {α:Type} {l:List α} {a b:α} {k:Nat} [q:Nth l k a]:Nth (b::l) (k+1) a:=⟨by simpa using q.h⟩
class SetL {α:Type} (l:List α) (k:Nat) (a:α) (m:outParam (List α)):Prop where
 h:l.set k a=m
 lt:k<l.length
instance SetL.z {α:Type} {l:List α} {a b:α}:SetL (b::l) 0 a (a::l):=⟨rfl,by simp⟩
instance SetL.s {α:Type} {l m:List α} {a b:α} {k:Nat} [q:SetL l k a m]:SetL (b::l) (k+1) a (b::m):=⟨by rw [List.set_cons_succ,q.h],by simpa using q.lt⟩
instance SetL.a {α:Type} {l m r:List α} {a:α} {k:Nat} [q:SetL l k a m]:SetL (l++r) k a (m++r):=⟨by rw [List.set_append_left _ _ q.lt,q.h],by rw [List.length_append];have:=q.lt;omega⟩
instance SetL.t {α:Type} {l m r:List α} {a b:α} {i k:Nat} [q:SetL l i b m] [q':SetL m k a r]:SetL (l.set i b) k a r:=⟨by rw [q.h,q'.h],by rw [q.h];exact q'.lt⟩
instance Nth.t {α:Type} {l m:List α} {a b:α} {i k:Nat} [q:SetL l i b m] [q':Nth m k a]:Nth (l.set i b) k a:=⟨by rw [q.h];exact q'.h⟩
class Era {α:Type} (l:List α) (k:Nat) (m:outParam (List α)):Prop where
 h:l.eraseIdx k=m
instance Era.z {α:Type} {l:List α} {b:α}:Era (b::l) 0 l:=⟨rfl⟩
instance Era.s {α:Type} {l m:List α} {b:α} {k:Nat} [q:Era l k m]:Era (b::l) (k+1) (b::m):=⟨by rw [List.eraseIdx_cons_succ,q.h]⟩
instance Era.t {α:Type} {l m r:List α} {b:α} {i k:Nat} [q:SetL l i b m] [q':Era m k r]:Era (l.set i b) k r:=⟨by rw [q.h,q'.h]⟩
class Pick {α:Type} (p:List Nat) (l:List α) (m:outParam (List α)):Prop where
 h:p.filterMap (l[·]?)=m
instance Pick.n {α:Type} {l:List α}:Pick [] l []:=⟨rfl⟩
instance Pick.c {α:Type} {l m:List α} {p:List Nat} {k:Nat} {a:α} [q:Nth l k a] [r:Pick p l m]:Pick (k::p) l (a::m):=⟨by rw [List.filterMap_cons,q.h,r.h]⟩
class SetA (c:Array Value) (i:Nat) (v:Value) (c':outParam (Array Value)):Prop where
 h:c.setIfInBounds i v=c'
instance SetA.l {l m:List Value} {i:Nat} {v:Value} [q:SetL l i v m]:SetA l.toArray i v m.toArray:=⟨by rw [←q.h];simp⟩
instance SetA.c {l c':Array Value} {i:Nat} {v:Value} [q:SetA l i v c']:SetA (Value.agg l).cells i v c':=⟨q.h⟩
instance SetA.t {c m r:Array Value} {i j:Nat} {u v:Value} [q:SetA c j u m] [q':SetA m i v r]:SetA (c.setIfInBounds j u) i v r:=⟨by rw [q.h,q'.h]⟩
theorem St.fr (k:Nat) {A:As} {M:List As} [q:Nth L k A] [r:Era L k M] (hs:St L w0 w):St (A::M) w0 w:=by have:=hs.front k q.h;rw [r.h] at this;exact this
theorem St.pm (p:List Nat) {M:List As} [q:Pick p L M] (hs:St L w0 w) (hp:p.isPerm (List.range L.length)=true:=by kernel_rfl):St M w0 w:=by have:=hs.re p hp;rw [q.h] at this;exact this
end
end Go.Proofs.YtaejcbpijdacmaaGreat.Sep
namespace Go.Proofs.YtaejcbpijdacmaaGreat.Walk
open Go.RowKit Go.Lib Go.Proofs.YtaejcbpijdacmaaGreat.Sep
section
variable {P:Program} {ops:Array Oper} {n:Nat} {Q:Exit→Act→World→Prop} {l:List Oper} {f:Fr} {w w0:World} {L:List As} {o:Oper} {v:Value} {d:Nat}
variable {gd:Option (Nat × Bool)} {ty:TypeId} {pos:String} {af:Array Edge}
def okd (d n:Nat) (v:Option Value):Option Value:=bif Nat.ble (d+1) n then v else none
theorem okd.ok {d n:Nat} {u:Option Value} {v:Value} (h:okd d n u=some v):Nat.ble (d+1) n=true∧u=some v:=by
 unfold okd at h
 cases hb:Nat.ble (d+1) n with
 |true=>rw [hb] at h;exact ⟨rfl,h⟩
 |false=>rw [hb] at h;cases h
theorem W.r (h:Runs P n f w o v) (c:(o.dst,o.guard,Nat.ble (d+1) n)=(some d,none,true)) (k:W P ops n Q l ((d,v)::f) w):W P ops n Q (o::l) f w:=by
 obtain ⟨h1,h2,h3⟩:o.dst=some d∧o.guard=none∧Nat.ble (d+1) n=true:=by simpa using c
 exact W.rd h h1 h2 h3 k
theorem W.mv {x:Operand} (e:okd d n (Walk.ev f x)=some v) (k:W P ops n Q l ((d,v)::f) w):W P ops n Q ({dst:=some d,op:=.move x,type:=ty,pos,after:=af,guard:=none}::l) f w:=W.rd (X.move (okd.ok e).2) rfl rfl (okd.ok e).1 k
theorem W.as {x:Operand} (e:okd d n (Walk.ev f x)=some v) (k:W P ops n Q l ((d,v)::f) w):W P ops n Q ({dst:=some d,op:=.assign x,type:=ty,pos,after:=af,guard:=none}::l) f w:=W.rd (X.assign (okd.ok e).2) rfl rfl (okd.ok e).1 k
theorem W.nc {x:Operand} {a:Addr} (e:okd d n (Walk.ev f x)=some (.pointer (some a))) (k:W P ops n Q l ((d,.pointer (some a))::f) w):W P ops n Q ({dst:=some d,op:=.nilCheck x,type:=ty,pos,after:=af,guard:=none}::l) f w:=W.rd (X.nilCheck (okd.ok e).2) rfl rfl (okd.ok e).1 k
theorem W.fa {s:TypeId} {x:Operand} {i:Nat} {b c:Nat} {q:Nat} (hq:fieldOff P s i=some q) (e:okd d n (Walk.ev f x)=some (.pointer (some ⟨b,c,none⟩))) (k:W P ops n Q l ((d,.pointer (some ⟨b,c+q,none⟩))::f) w):
  W P ops n Q ({dst:=some d,op:=.fieldAddr s x i,type:=ty,pos,after:=af,guard:=none}::l) f w:=W.rd (X.fieldAddr q hq (okd.ok e).2) rfl rfl (okd.ok e).1 k
theorem W.ld (j:Nat) {t:TypeId} {x:Operand} {b i:Nat} {c:Array Value} {e:TypeId} {ds:TypeDesc} (hs:St L w0 w) (hu:P.underlying t=some ds) (ex:okd d n (Walk.ev f x)=some (.pointer (some ⟨b,i,none⟩))) (hL:L[j]?=some (blk b c e)) (hg:aggD ds=false)
  (hc:c[i]?=some v) (k:W P ops n Q l ((d,v)::f) w):W P ops n Q ({dst:=some d,op:=.load t x,type:=ty,pos,after:=af,guard:=none}::l) f w:=W.rd (X.loadAt j hs hL hu hg (okd.ok ex).2 hc) rfl rfl (okd.ok ex).1 k
theorem W.e {o:Oper} {Φ:Value→World→Prop} (h:Turns P Q n f w o Φ) (c:(o.dst,o.guard,Nat.ble (d+1) n)=(some d,none,true)) (k:∀v w,Φ v w→W P ops n Q l ((d,v)::f) w):W P ops n Q (o::l) f w:=by
 obtain ⟨h1,h2,h3⟩:o.dst=some d∧o.guard=none∧Nat.ble (d+1) n=true:=by simpa using c
 exact W.ev h h1 h2 h3 k
theorem W.en {o:Oper} {Φ:Value→World→Prop} (h:Turns P Q n f w o Φ) (c:(o.dst,o.guard)=(none,none)) (k:∀v w,Φ v w→W P ops n Q l f w):W P ops n Q (o::l) f w:=by
 obtain ⟨h1,h2⟩:o.dst=none∧o.guard=none:=by simpa using c
 exact W.ev_none h h1 h2 k
theorem W.st (j z:Nat) {t:TypeId} {x y:Operand} {b i:Nat} {c c':Array Value} {e:TypeId} {v:Value} {L':List As} (hs:St L w0 w) (hz:(P.info? t).map (·.size)=some 1) (ex:Walk.ev f x=some (.pointer (some ⟨b,i,none⟩))) (ey:Walk.ev f y=some v) (hL:L[j]?=some (blk b c e)) (h1:v.oneCell'=true) (hc:(c[z]?).isSome=true) (hz':i=z)
  [q:SetA c z v c'] [r:SetL L j (blk b c' e) L'] (k:∀w,St L' w0 w→W P ops n Q l f w):W P ops n Q ({dst:=none,op:=.store t x y,type:=ty,pos,after:=af,guard:=none}::l) f w:=by
 subst hz'
 obtain ⟨u,hu⟩:=Option.isSome_iff_exists.1 hc
 exact W.ev_none (Y.storeAt j hs hL hz ex ey h1 hu q.h r.h) rfl rfl fun _ w h=>k w h
theorem W.nx {y:Code} {Q':Exit→Act→World→Prop} (h:V P n Q y f w):W P ops n (Exit.then (y.wp P Q) Q') [] f w:=W.nil (At.next h)
theorem Y.cl {dst:Option Tmp} {F:FuncId} {fn:Func} {xs:List Operand} {ts:Array TypeId} {vs:List Value} {Φ:Value→World→Prop} (hF:P.funcs[F]?=some fn) (hc:Calls P F vs.toArray w (Ret Φ)) (ex:evs f xs=some vs:=by exact rfl) (hn:(fn.name=="runtime.NumGoroutine")=false:=by kernel_rfl) (hb:fn.body.isNone=false:=by exact rfl):
  Turns P Q n f w {dst,op:=.call {callee:=.value (.func F),args:=xs.toArray,argTypes:=ts},type:=ty,pos,after:=af,guard:=gd} Φ:=Y.call hF hn hb ex hc
def sees (ops:Array Oper) (f0 f:Fr) (i t:Nat):Option Value:=
 bif (writers ops t).any (fun m=>hasN (preds ops i) m) then look f t else bif (writers ops t).all (fun m=>hasN (preds ops m) i) then look f0 t else none
theorem sees.seen {f0 f:Fr} {i t:Nat} {v:Value} (h:sees ops f0 f i t=some v):seen ops f0 f i t v:=by
 unfold sees at h
 cases h1:(writers ops t).any (fun m=>hasN (preds ops i) m) with
 |true=>rw [h1] at h;exact .inr ⟨h1,h⟩
 |false=>
  rw [h1] at h
  cases h2:(writers ops t).all (fun m=>hasN (preds ops m) i) with
  |true=>rw [h2] at h;exact .inl ⟨h2,h⟩
  |false=>rw [h2] at h;cases h
def seesAll (ops:Array Oper) (f0 f:Fr) (i:Nat):Fr→Prop
 |[]=>True
 |(t,v)::r=>sees ops f0 f i t=some v∧seesAll ops f0 f i r
theorem seesAll.ok {f0 f:Fr} {i:Nat}:∀{g:Fr},seesAll ops f0 f i g→readsOk ops i f0 f g
 |[],_=>trivial
 |(_,_)::_,⟨h,hr⟩=>⟨sees.seen h,hr.ok⟩
def outsAll (ops:Array Oper) (f0 f:Fr):Fr→Prop
 |[]=>True
 |(t,v)::r=>(bif (writers ops t).isEmpty then look f0 t else look f t)=some v∧outsAll ops f0 f r
theorem outsAll.ok {f0 f:Fr}:∀{g:Fr},outsAll ops f0 f g→leaves ops f0 f g
 |[],_=>trivial
 |(t,v)::r,⟨h,hr⟩=>by
  refine ⟨?_,hr.ok⟩
  cases h1:(writers ops t).isEmpty with
  |true=>rw [h1] at h;exact .inl ⟨rfl,h⟩
  |false=>rw [h1] at h;exact .inr ⟨rfl,h⟩
def dstOk (ops:Array Oper) (n:Nat) (e:Nat) (f:Fr):Option Nat→Bool
 |none=>true
 |some d=>Nat.blt d n&&((writers ops d).all (Nat.beq · e)&&(look f d).isNone)
theorem dstOk.ok {e:Nat} {f:Fr} {dst:Option Nat} (h:dstOk ops n e f dst=true):∀d,dst=some d→d<n∧(writers ops d).all (Nat.beq · e)=true∧look f d=none:=by
 intro d hd
 subst hd
 simp only [dstOk,Bool.and_eq_true] at h
 exact ⟨by have:=h.1;simp [Nat.blt] at this;omega,h.2.1,Option.isNone_iff_eq_none.1 h.2.2⟩
variable {f0:Fr} {Wd:World→Prop} {i:Nat}
theorem RdOk.n0 (h:∀w,Wd w→Runs P n [] w o v) (ho:ops[i]?=some o:=by exact rfl) (hg:o.guard=none:=by exact rfl) (hd:o.dst=some d:=by exact rfl) (hl:look f d=some v:=by exact rfl) (h1:Nat.ble (d+1) n=true:=by exact rfl) (hu:(writers ops d).all (Nat.beq · i)=true:=by exact rfl):RdOk P ops n f0 f Wd i:=.m0 ho h hg hd hl h1 hu
theorem RdOk.n1 (a:Nat) {v0:Value} (ho:ops[i]?=some o) (hr:sees ops f0 f i a=some v0) (h:∀w,Wd w→Runs P n [(a,v0)] w o v) (hg:o.guard=none:=by exact rfl) (hd:o.dst=some d:=by exact rfl) (hl:look f d=some v:=by exact rfl) (h1:Nat.ble (d+1) n=true:=by exact rfl) (hu:(writers ops d).all (Nat.beq · i)=true:=by exact rfl):RdOk P ops n f0 f Wd i:=.m1 a ho (sees.seen hr) h hg hd hl h1 hu
theorem RdOk.n2 (a b:Nat) {v0 v1:Value} (ho:ops[i]?=some o) (hr:sees ops f0 f i a=some v0) (hr1:sees ops f0 f i b=some v1) (h:∀w,Wd w→Runs P n [(a,v0),(b,v1)] w o v) (hg:o.guard=none:=by exact rfl) (hd:o.dst=some d:=by exact rfl) (hl:look f d=some v:=by exact rfl) (h1:Nat.ble (d+1) n=true:=by exact rfl) (hu:(writers ops d).all (Nat.beq · i)=true:=by exact rfl):RdOk P ops n f0 f Wd i:=.m2 a b ho (sees.seen hr) (sees.seen hr1) h hg hd hl h1 hu
theorem RdOk.ns (g:Fr) (hg:seesAll ops f0 f i g) (ho:ops[i]?=some o) (h:∀w,Wd w→Runs P n g w o v) (hd:o.dst=some d:=by exact rfl) (hl:look f d=some v:=by exact rfl) (h1:Nat.ble (d+1) n=true:=by exact rfl) (hu:(writers ops d).all (Nat.beq · i)=true:=by exact rfl) (hgd:o.guard=none:=by exact rfl):RdOk P ops n f0 f Wd i:=
 ⟨o,v,g,d,ho,hd,hg.ok,.run hgd h,hl,h1,hu⟩
theorem RdOk.gw (g:Fr) (j:Nat) (b:Bool) (t:Nat) (hg:seesAll ops f0 f i g) (ho:ops[i]?=some o) (e:look g t=some (.bool b)) (h:∀w,Wd w→Runs P n g w o v) (hgd:o.guard=some (j,b):=by exact rfl) (hj:(ops[j]?).bind (·.dst)=some t:=by exact rfl) (hd:o.dst=some d:=by exact rfl) (hl:look f d=some v:=by exact rfl) (h1:Nat.ble (d+1) n=true:=by exact rfl) (hu:(writers ops d).all (Nat.beq · i)=true:=by exact rfl):RdOk P ops n f0 f Wd i:=
 ⟨o,v,g,d,ho,hd,hg.ok,.want j b t hgd hj e h,hl,h1,hu⟩
theorem RdOk.gp (j:Nat) (b b':Bool) (t:Nat) {u:Value} (hr:sees ops f0 f i t=some u) (ho:ops[i]?=some o) (e:u=.bool b') (hb:(b'==b)=false) (hgd:o.guard=some (j,b):=by exact rfl) (hj:(ops[j]?).bind (·.dst)=some t:=by exact rfl) (hd:o.dst=some d:=by exact rfl) (hl:look f d=some undef:=by exact rfl) (h1:Nat.ble (d+1) n=true:=by exact rfl) (hu:(writers ops d).all (Nat.beq · i)=true:=by exact rfl):RdOk P ops n f0 f Wd i:=
 ⟨o,undef,[(t,u)],d,ho,hd,⟨(sees.seen hr),trivial⟩,.pass j b b' t hgd hj (by rw [e];simp [look]) hb rfl,hl,h1,hu⟩
theorem RdOk.mv (a:Nat) (ho:ops[i]?=some {dst:=some d,op:=.move (.tmp a),type:=ty,pos,after:=af,guard:=none}:=by exact rfl) (hr:sees ops f0 f i a=some v:=by exact rfl) (hl:look f d=some v:=by exact rfl) (h1:Nat.ble (d+1) n=true:=by exact rfl) (hu:(writers ops d).all (Nat.beq · i)=true:=by exact rfl):RdOk P ops n f0 f Wd i:=
 .m1 a ho (sees.seen hr) (fun w _=>X.move (by simp [ev,look])) rfl rfl hl h1 hu
theorem RdOk.as (a:Nat) (ho:ops[i]?=some {dst:=some d,op:=.assign (.tmp a),type:=ty,pos,after:=af,guard:=none}:=by exact rfl) (hr:sees ops f0 f i a=some v:=by exact rfl) (hl:look f d=some v:=by exact rfl) (h1:Nat.ble (d+1) n=true:=by exact rfl) (hu:(writers ops d).all (Nat.beq · i)=true:=by exact rfl):RdOk P ops n f0 f Wd i:=
 .m1 a ho (sees.seen hr) (fun w _=>X.assign (by simp [ev,look])) rfl rfl hl h1 hu
theorem RdOk.nc (a:Nat) {p:Addr} (ho:ops[i]?=some {dst:=some d,op:=.nilCheck (.tmp a),type:=ty,pos,after:=af,guard:=none}:=by exact rfl) (hr:sees ops f0 f i a=some (.pointer (some p)):=by exact rfl) (hl:look f d=some (.pointer (some p)):=by exact rfl) (h1:Nat.ble (d+1) n=true:=by exact rfl) (hu:(writers ops d).all (Nat.beq · i)=true:=by exact rfl):RdOk P ops n f0 f Wd i:=
 .m1 a ho (sees.seen hr) (fun w _=>X.nilCheck (by simp [ev,look])) rfl rfl hl h1 hu
theorem RdOk.fa (a:Nat) {s:TypeId} {j b c q:Nat} (hq:fieldOff P s j=some q) (ho:ops[i]?=some {dst:=some d,op:=.fieldAddr s (.tmp a) j,type:=ty,pos,after:=af,guard:=none}:=by exact rfl) (hr:sees ops f0 f i a=some (.pointer (some ⟨b,c,none⟩)):=by exact rfl) (hl:look f d=some (.pointer (some ⟨b,c+q,none⟩)):=by exact rfl) (h1:Nat.ble (d+1) n=true:=by exact rfl) (hu:(writers ops d).all (Nat.beq · i)=true:=by exact rfl):RdOk P ops n f0 f Wd i:=
 .m1 a ho (sees.seen hr) (fun w _=>X.fieldAddr q hq (by simp [ev,look])) rfl rfl hl h1 hu
theorem RdOk.ld (a k:Nat) {t:TypeId} {b j:Nat} {c:Array Value} {e:TypeId} {ds:TypeDesc} (hu':P.underlying t=some ds) (ho:ops[i]?=some {dst:=some d,op:=.load t (.tmp a),type:=ty,pos,after:=af,guard:=none}:=by exact rfl) (hr:sees ops f0 f i a=some (.pointer (some ⟨b,j,none⟩)):=by exact rfl) (hL:L[k]?=some (blk b c e):=by exact rfl)
  (hg:aggD ds=false:=by exact rfl) (hc:c[j]?=some v:=by exact rfl) (hl:look f d=some v:=by exact rfl) (h1:Nat.ble (d+1) n=true:=by exact rfl) (hu:(writers ops d).all (Nat.beq · i)=true:=by exact rfl):RdOk P ops n f0 f (fun w=>St L w0 w) i:=
 .m1 a ho (sees.seen hr) (fun w hs=>X.loadAt k hs hL hu' hg (by simp [ev,look]) hc) rfl rfl hl h1 hu
theorem V.dr {i:Nat} {l:List Oper} (es bl:List Nat) (f:Fr) {f0:Fr} {w:World} (hm:P.follows .mixedOrders=true) (hs:St L w0 w) (h:T P l.toArray n Q [] es bl f0 f (fun w=>St L w0 w)) (hlt:(es++bl).all (Nat.blt · l.length)=true:=by exact rfl):V P n Q (.region i l.toArray true) f0 w:=V.draw _ hm hs.drew hlt h
theorem T.ev {e:Nat} {dn es bl:List Nat} {Wd:World→Prop} (g:Fr) (bl' an:List Nat) (hg:seesAll ops f0 f e g) (hrd:AllRd P ops n f0 f Wd (restOf ops dn (e::es) bl)) (ho:ops[e]?=some o)
  (h:∀w,Wd w→∃Φ:Value→World→Prop,Turns P Q n g w o Φ∧∀v w',Φ v w'→∃(x:Fr) (Wd':World→Prop),newOk ops bl o.dst v x∧T P ops n Q (e::an++dn) es bl' f0 (x++f) Wd'∧Wd' w')
  (hac:acyc ops=true:=by exact rfl) (hwt:waitOk ops (e::es) bl=true:=by exact rfl) (hgd:o.guard=none:=by exact rfl) (hd:dstOk ops n e f o.dst=true:=by exact rfl) (hbl:bl'.all (hasN bl)=true:=by exact rfl) (han:anOk ops e an=true:=by exact rfl):T P ops n Q dn (e::es) bl f0 f Wd:=
 T.event o g hac hwt hrd ho hg.ok (.inl hgd) (dstOk.ok hd) bl' an hbl han h
theorem T.evG {e:Nat} {dn es bl:List Nat} {Wd:World→Prop} (g:Fr) (bl' an:List Nat) (hg:seesAll ops f0 f e g) (hrd:AllRd P ops n f0 f Wd (restOf ops dn (e::es) bl)) (ho:ops[e]?=some o)
  (hgd:o.guard=none∨∃j b t,o.guard=some (j,b)∧(ops[j]?).bind (·.dst)=some t∧look g t=some (.bool b))
  (h:∀w,Wd w→∃Φ:Value→World→Prop,Turns P Q n g w o Φ∧∀v w',Φ v w'→∃(x:Fr) (Wd':World→Prop),newOk ops bl o.dst v x∧T P ops n Q (e::an++dn) es bl' f0 (x++f) Wd'∧Wd' w')
  (hac:acyc ops=true:=by exact rfl) (hwt:waitOk ops (e::es) bl=true:=by exact rfl) (hd:dstOk ops n e f o.dst=true:=by exact rfl) (hbl:bl'.all (hasN bl)=true:=by exact rfl) (han:anOk ops e an=true:=by exact rfl):T P ops n Q dn (e::es) bl f0 f Wd:=
 T.event o g hac hwt hrd ho hg.ok hgd (dstOk.ok hd) bl' an hbl han h
theorem T.fn {dn:List Nat} {Wd:World→Prop} (g:Fr) (hg:outsAll ops f0 f g) (hrd:AllRd P ops n f0 f Wd (restOf ops dn [] [])) (h:∀w,Wd w→At n Q .normal g w) (hac:acyc ops=true:=by exact rfl):T P ops n Q dn [] [] f0 f Wd:=T.fin g hac hrd hg.ok h
theorem T.nw {bl dn es bl':List Nat} {dst:Option Nat} {v:Value} (hs:St L w0 w) (h:T P ops n Q dn es bl' f0 ([(d,v)]++f) (fun w=>St L w0 w)) (hd:dst=some d:=by exact rfl):∃(x:Fr) (Wd':World→Prop),newOk ops bl dst v x∧T P ops n Q dn es bl' f0 (x++f) Wd'∧Wd' w:=
 ⟨[(d,v)],_,⟨.inl ⟨hd,rfl⟩,trivial⟩,h,hs⟩
theorem T.nn {bl dn es bl':List Nat} {dst:Option Nat} {v:Value} (hs:St L w0 w) (h:T P ops n Q dn es bl' f0 ([]++f) (fun w=>St L w0 w)):∃(x:Fr) (Wd':World→Prop),newOk ops bl dst v x∧T P ops n Q dn es bl' f0 (x++f) Wd'∧Wd' w:=
 ⟨[],_,trivial,h,hs⟩
theorem T.nm {bl dn es bl':List Nat} {dst:Option Nat} {v:Value} (x:Fr) (hs:St L w0 w) (hx:newOk ops bl dst v x) (h:T P ops n Q dn es bl' f0 (x++f) (fun w=>St L w0 w)):∃(x:Fr) (Wd':World→Prop),newOk ops bl dst v x∧T P ops n Q dn es bl' f0 (x++f) Wd'∧Wd' w:=
 ⟨x,_,hx,h,hs⟩
end
section
variable {P:Program} {n:Nat} {Q:Exit→Act→World→Prop} {f:Fr} {w w0:World} {o:Oper} {L:List As} {dst:Option Tmp} {gd:Option (Nat × Bool)} {ty:TypeId} {pos:String} {af:Array Edge} {e:TypeId}
theorem row_nilF {α:Type} (g:α→Value) (e sz:Nat) (hs:St L w0 w):St (row e sz (.slice none ([]:List α).length 0) ([]:List α).length (([]:List α).map g)::L) w0 w:=row_nil L e sz none hs
theorem row_nilE {α:Type} (E:El α) (e sz:Nat) (hs:St L w0 w):St (row e sz (.slice none ([]:List α).length 0) ([]:List α).length []::tie E [] ([]:List α)::L) w0 w:=row_nil _ e sz none (St.put (A:=tie E [] ([]:List α)) (fun _=>tie.nil) hs)
def evp (f:Fr):List (Nat × Operand)→Option (List (Nat × Value))
 |[]=>some []
 |(i,x)::r=>match ev f x,evp f r with
  |some v,some vs=>some ((i,v)::vs)
  |_,_=>none
theorem Fits.evp {a:Act} (ha:Fits n a f):∀{xs:List (Nat × Operand)} {vs:List (Nat × Value)},Walk.evp f xs=some vs→xs.map (fun (i,x)=>(i,a.eval x))=vs
 |[],vs,e=>by simp [Walk.evp] at e;simp [e]
 |(i,x)::r,vs,e=>by
  simp only [Walk.evp] at e
  cases hx:Walk.ev f x with
  |none=>simp [hx] at e
  |some v=>
   cases hr:Walk.evp f r with
   |none=>simp [hx,hr] at e
   |some us=>
    simp [hx,hr] at e
    subst e
    simp [ha.ev hx,ha.evp hr]
theorem Y.ls {α:Type} (g:α→Value) (xs:List α) {t:TypeId} {len:Nat} {parts:List (Nat × Operand)} {vs:List (Nat × Value)} (hs:St L w0 w) (hl:xs.length=len) (ex:evp f parts=some vs) (h:∀w,(Instr.buildSlice t len vs.toArray).run P w=.ok (.slice (some ⟨w.heap.size,0,none⟩) len len) (w.alloc (.cells (xs.map g).toArray e))) (hm:Nat.ble len 1000000=true:=by exact rfl):
  Turns P Q n f w {dst,op:=.buildSlice t len parts.toArray,type:=ty,pos,after:=af,guard:=gd} (fun u w'=>∃b,u=.slice (some ⟨b,0,none⟩) xs.length len∧St (row e 1 (.slice (some ⟨b,0,none⟩) xs.length len) xs.length (xs.map g)::L) w0 w'):=by
 subst hl
 exact Y.litB (sz:=1) (xs.map g) hs (fun a ha=>by have:=ha.evp ex;simpa using congrArg List.toArray this) (by simp) (by have:=Nat.le_of_ble_eq_true hm;omega) h
theorem Y.lc {t:TypeId} {len sz:Nat} {parts:List (Nat × Operand)} {vs:List (Nat × Value)} (cs:List Value) (hs:St L w0 w) (hl:cs.length=len*sz) (ex:evp f parts=some vs) (h:∀w,(Instr.buildSlice t len vs.toArray).run P w=.ok (.slice (some ⟨w.heap.size,0,none⟩) len len) (w.alloc (.cells cs.toArray e))) (hm:Nat.ble len 1000000=true:=by exact rfl):
  Turns P Q n f w {dst,op:=.buildSlice t len parts.toArray,type:=ty,pos,after:=af,guard:=gd} (fun u w'=>∃b,u=.slice (some ⟨b,0,none⟩) len len∧St (row e sz (.slice (some ⟨b,0,none⟩) len len) len cs::L) w0 w'):=
 Y.litB (sz:=sz) cs hs (fun a ha=>by have:=ha.evp ex;simpa using congrArg List.toArray this) hl (by have:=Nat.le_of_ble_eq_true hm;omega) h
theorem X.bd {t:TypeId} {parts:List (Nat × Operand)} {vs:List (Nat × Value)} (v:Value) (ex:evp f parts=some vs) (h:∀w,(Instr.build t vs.toArray).run P w=.ok v w):
  Runs P n f w {dst,op:=.build t parts.toArray,type:=ty,pos,after:=af,guard:=gd} v:=
 X.build (fun a ha=>by have:=ha.evp ex;simpa using congrArg List.toArray this) h
theorem Runs.to {v v':Value} (hv:v=v') (h:Runs P n f w o v):Runs P n f w o v':=hv▸h
def optv {α:Type} (b:Nat):Option α→Value
 |none=>.pointer none
 |some _=>.pointer (some ⟨b,0,none⟩)
def optAt {α:Type} (g:Nat→α→As) (b:Nat):Option α→As
 |none=>fun _=>True
 |some x=>g b x
theorem optv_n {α:Type} {b:Nat} {x:Option α} (c:x.isNone=true):optv b x=Value.pointer none:=by cases x with|none=>rfl|some _=>cases c
theorem optv_s {α:Type} {b:Nat} {x:Option α} (c:¬x.isNone=true):optv b x=Value.pointer (some ⟨b,0,none⟩):=by cases x with|none=>exact absurd rfl c|some _=>rfl
theorem St.optN {α:Type} {g:Nat→α→As} {b:Nat} {x:Option α} (_:x.isNone=true) (hs:St (optAt g b x::L) w0 w):St L w0 w:=hs.tail
theorem St.optS {α:Type} {g:Nat→α→As} {b:Nat} {x:Option α} (d:α) (c:¬x.isNone=true) (hs:St (optAt g b x::L) w0 w):St (g b (x.getD d)::L) w0 w:=by cases x with|none=>exact absurd rfl c|some _=>exact hs
theorem X.fdK {t:TypeId} {x:Operand} {i:Nat} {vx:Value} (v:Value) (ex:ev f x=some vx) (h:∀w,(Instr.field t vx i).run P w=.ok v w):
  Runs P n f w {dst,op:=.field t x i,type:=ty,pos,after:=af,guard:=gd} v:=
 fun a ha=>by simp [execOp,ha.ev ex,h]
theorem X.ixK {t:TypeId} {x y:Operand} {vx vy:Value} (v:Value) (ex:ev f x=some vx) (ey:ev f y=some vy) (h:∀w,(Instr.index t vx vy).run P w=.ok v w):
  Runs P n f w {dst,op:=.index t x y,type:=ty,pos,after:=af,guard:=gd} v:=
 fun a ha=>by simp [execOp,ha.ev ex,ha.ev ey,h]
end
end Go.Proofs.YtaejcbpijdacmaaGreat.Walk

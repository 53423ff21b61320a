/- A base for the walks of this seat: floats and complex numbers, as the words of their parts. It speaks of no program. -/
import Derived.Test.YtaejcbpijdacmaaGreatRules
set_option linter.all false
namespace Go.Proofs.YtaejcbpijdacmaaGreat.Walk
open Go.RowKit Go.Proofs.YtaejcbpijdacmaaGreat.Sep
section
variable {P:Program} {n:Nat} {f:Fr} {w:World} {dst:Option Tmp} {gd:Option (Nat × Bool)} {ty:TypeId} {pos:String} {af:Array Edge}
def fcmp (op:BinOp) (x y:Nat):Bool:=
 match op with
 | .eql=>FloatKind.f64.format.order x y==some .eq
 | .leq=>FloatKind.f64.format.order x y==some .lt||FloatKind.f64.format.order x y==some .eq
 | .geq=>FloatKind.f64.format.order x y==some .gt||FloatKind.f64.format.order x y==some .eq
 |_=>false
theorem X.fcmp {op:BinOp} {t u:TypeId} {x y:Operand} {a b:Nat} (c:Bool) (hc:Walk.fcmp op a b=c) (ho:op=.eql∨op=.leq∨op=.geq) (ex:ev f x=some (.float .f64 a)) (ey:ev f y=some (.float .f64 b)):
  Runs P n f w {dst,op:=.binOp op t x y u,type:=ty,pos,after:=af,guard:=gd} (.bool c):=by
 refine X.bin _ ex ey (fun _=>?_) (fun _=>?_)
 ·subst hc
  rcases ho with e|e|e<;>subst e<;>simp [binOp,Op.floatCmp,Walk.fcmp]
 ·unfold eqGuard
  rcases ho with e|e|e<;>subst e<;>rfl
def fop:BinOp→Nat→Nat→Option Nat
 | .add,x,y=>FloatKind.f64.format.add x y
 | .sub,x,y=>FloatKind.f64.format.sub x y
 |_,_,_=>none
def cxop (op:BinOp) (a b:Nat × Nat):Option (Nat × Nat):=(fop op a.1 b.1).bind fun x=>(fop op a.2 b.2).bind fun y=>some (x,y)
theorem X.cxop {op:BinOp} {t u:TypeId} {x y:Operand} {a b r:Nat × Nat} (h:Walk.cxop op a b=some r) (ex:ev f x=some (.complex .f64 a.1 a.2)) (ey:ev f y=some (.complex .f64 b.1 b.2)):
  Runs P n f w {dst,op:=.binOp op t x y u,type:=ty,pos,after:=af,guard:=gd} (.complex .f64 r.1 r.2):=by
 unfold Walk.cxop at h
 obtain ⟨p,hp,h⟩:=Option.bind_eq_some_iff.1 h
 obtain ⟨q,hq,h⟩:=Option.bind_eq_some_iff.1 h
 injection h with h
 subst h
 cases op<;>simp only [fop] at hp hq<;>first|(cases hp;done)|skip
 all_goals
  refine X.bin _ ex ey (fun _=>?_) (fun _=>by unfold eqGuard;rfl)
  simp [binOp,Op.complexOp,Op.Complex.arith,Op.floatArith,hp,hq]
theorem X.i2f {s t:TypeId} {x:Operand} {k':IntKind} {a:Int} {ds:TypeDesc} (hs:P.underlying s=some ds) (ht:P.underlying t=some (.float .f64)) (ex:ev f x=some (.int k' a)):
  Runs P n f w {dst,op:=.convert s t x,type:=ty,pos,after:=af,guard:=gd} (.float .f64 (FloatKind.f64.nearest a)):=
 fun b ha=>by simp [execOp,ha.ev ex,convert,run_underlying hs,run_underlying ht,Conv.intToFloat]
def f2i (k:IntKind) (x:Nat):Option Int:=match (FloatKind.f64.decode x).toInt .zero with
 |some m=>if k.min≤m∧m≤k.max then some m else none
 |none=>none
theorem X.f2i {s t:TypeId} {x:Operand} {k:IntKind} {a:Nat} {r:Int} {ds:TypeDesc} (h:Walk.f2i k a=some r) (hs:P.underlying s=some ds) (ht:P.underlying t=some (.int k)) (ex:ev f x=some (.float .f64 a)):
  Runs P n f w {dst,op:=.convert s t x,type:=ty,pos,after:=af,guard:=gd} (.int k r):=fun b ha=>by
 unfold Walk.f2i at h
 cases e:(FloatKind.f64.decode a).toInt .zero with
 |none=>rw [e] at h;cases h
 |some m=>
  rw [e] at h
  simp only at h
  split at h
  ·rename_i c
   injection h with h
   subst h
   simp [execOp,ha.ev ex,convert,run_underlying hs,run_underlying ht,Conv.floatToInt,e,c]
  ·cases h
theorem X.real {ts:Array TypeId} {x:Operand} {a b:Nat} (ex:ev f x=some (.complex .f64 a b)):
  Runs P n f w {dst,op:=.call {callee:=.builtin .real,args:=#[x],argTypes:=ts},type:=ty,pos,after:=af,guard:=gd} (.float .f64 a):=
 fun c ha=>by
  have h:Builtin.real_ ts ty #[.complex .f64 a b]=pure (.float .f64 a):=rfl
  simp [execOp,resolve,invoke,builtin,ha.ev ex,h]
theorem X.imag {ts:Array TypeId} {x:Operand} {a b:Nat} (ex:ev f x=some (.complex .f64 a b)):
  Runs P n f w {dst,op:=.call {callee:=.builtin .imag,args:=#[x],argTypes:=ts},type:=ty,pos,after:=af,guard:=gd} (.float .f64 b):=
 fun c ha=>by
  have h:Builtin.imag_ ts ty #[.complex .f64 a b]=pure (.float .f64 b):=rfl
  simp [execOp,resolve,invoke,builtin,ha.ev ex,h]
end
end Go.Proofs.YtaejcbpijdacmaaGreat.Walk

/- A base for the walks of this seat: calls that are walked through in their place, closures. It speaks of no program. -/
import Derived.Test.YtaejcbpijdacmaaGreatRules
set_option linter.all false
namespace Go.Proofs.YtaejcbpijdacmaaGreat.Walk
open Go.RowKit Go.Proofs.YtaejcbpijdacmaaGreat.Sep
section
variable {P:Program} {ops:Array Oper} {n:Nat} {Q:Exit→Act→World→Prop} {l:List Oper} {f:Fr} {w:World}
variable {d:Nat} {dst:Option Tmp} {gd:Option (Nat × Bool)} {ty:TypeId} {pos:String} {af:Array Edge}
theorem W.inl {o:Oper} (h:Turns P Q n f w o (fun u w'=>W P ops n Q l ((d,u)::f) w')) (ho:o.dst=some d) (hg:o.guard=none) (hd:Nat.ble (d+1) n=true):W P ops n Q (o::l) f w:=W.ev h ho hg hd fun _ _ h=>h
theorem X.mkFunc {F:FuncId} {xs:List Operand} {vs:List Value} (ex:evs f xs=some vs):Runs P n f w {dst,op:=.makeFunc (.func F) #[] xs.toArray,type:=ty,pos,after:=af,guard:=gd} (.func (.func F) #[] vs.toArray):=fun a ha=>by
 have hx:xs.toArray.map a.eval=vs.toArray:=by rw [←ha.evs ex];simp
 simp only [execOp,Act.eval,Instr.makeFunc]
 rw [show (xs.toArray.map fun x=>a.eval x)=vs.toArray from hx]
 simp
theorem Y.callV {F:FuncId} {fn:Func} {x:Operand} {xs:List Operand} {ts:Array TypeId} {vs cs:List Value} {Φ:Value→World→Prop} (e0:ev f x=some (.func (.func F) #[] cs.toArray)) (hF:P.funcs[F]?=some fn) (hn:(fn.name=="runtime.NumGoroutine")=false) (hb:fn.body.isNone=false) (ex:evs f xs=some vs) (hc:Calls P F (vs++cs).toArray w (Ret Φ)):
  Turns P Q n f w {dst,op:=.call {callee:=.value x,args:=xs.toArray,argTypes:=ts},type:=ty,pos,after:=af,guard:=gd} Φ:=fun a ha K hK=>by
 have hx:xs.toArray.map a.eval=vs.toArray:=by rw [←ha.evs ex];simp
 have hr:(execOp a.eval {dst,op:=.call {callee:=.value x,args:=xs.toArray,argTypes:=ts},type:=ty,pos,after:=af,guard:=gd}).run P w=.ok (.enter F (vs++cs).toArray) w:=by
  have hn':¬(fn.name="runtime.NumGoroutine"):=by simpa using hn
  have hb':¬(fn.body=none):=by intro e;rw [e] at hb;simp at hb
  simp only [execOp,resolve,ha.ev e0,Deferred.ofValue,invoke,callFunc,program]
  rw [show (xs.toArray.map fun x=>a.eval x)=vs.toArray from hx]
  simp [hF,hn',hb',Sem.run]
 unfold Oper.wp
 rw [hr,Oper.upon_enter]
 refine hc.mono fun e w' he=>?_
 obtain ⟨v,rfl,hv⟩:=he
 exact hK _ _ hv
end
end Go.Proofs.YtaejcbpijdacmaaGreat.Walk

/- A base for the walks of this seat: one rule for each kind of operation. It speaks of no program. -/
import Derived.Test.YtaejcbpijdacmaaGreatWalk
set_option linter.all false
namespace Go.Proofs.YtaejcbpijdacmaaGreat.Walk
open Go.RowKit Go.Proofs.YtaejcbpijdacmaaGreat.Sep
abbrev w64 (n:Int):Int:=IntKind.i64.wrap n
theorem w64_eq (n:Int):w64 n=(n+9223372036854775808)%18446744073709551616-9223372036854775808:=IntKind.wrap_i64 n
theorem w64_in {n:Int} (h:-9223372036854775808≤n∧n≤9223372036854775807):w64 n=n:=by rw [w64_eq];omega
def iand (k:IntKind) (x y:Int):Int:=k.wrap (BitVec.ofInt k.bits x&&& BitVec.ofInt k.bits y).toNat
def ior (k:IntKind) (x y:Int):Int:=k.wrap (BitVec.ofInt k.bits x|||BitVec.ofInt k.bits y).toNat
def ixor (k:IntKind) (x y:Int):Int:=k.wrap (BitVec.ofInt k.bits x^^^BitVec.ofInt k.bits y).toNat
def iandn (k:IntKind) (x y:Int):Int:=k.wrap (BitVec.ofInt k.bits x&&& ~~~(BitVec.ofInt k.bits y)).toNat
def Ret (Φ:Value→World→Prop):Ending→World→Prop:=fun e w=>∃v,e=.returned v∧Φ v w
section
variable {P:Program} {ops:Array Oper} {n:Nat} {Q:Exit→Act→World→Prop} {l:List Oper} {f:Fr} {w w0:World} {L:List As}
variable {d:Nat} {dst:Option Tmp} {gd:Option (Nat × Bool)} {ty:TypeId} {pos:String} {af:Array Edge}
theorem X.move {x:Operand} {v:Value} (e:ev f x=some v):Runs P n f w {dst,op:=.move x,type:=ty,pos,after:=af,guard:=gd} v:=fun a ha=>by simp [execOp,ha.ev e]
theorem X.assign {x:Operand} {v:Value} (e:ev f x=some v):Runs P n f w {dst,op:=.assign x,type:=ty,pos,after:=af,guard:=gd} v:=fun a ha=>by simp [execOp,ha.ev e]
theorem X.pick {c x y:Operand} {t:Bool} {v u:Value} (ec:ev f c=some (.bool t)) (ex:t=true→ev f x=some v) (ey:t=false→ev f y=some u):Runs P n f w {dst,op:=.pick c x y,type:=ty,pos,after:=af,guard:=gd} (if t then v else u):=fun a ha=>by
 cases t with
 |true=>simp [execOp,ha.ev ec,ha.ev (ex rfl),asBool]
 |false=>simp [execOp,ha.ev ec,ha.ev (ey rfl),asBool]
theorem X.pickT {c x y:Operand} {v:Value} (ec:ev f c=some (.bool true)) (e:ev f x=some v):Runs P n f w {dst,op:=.pick c x y,type:=ty,pos,after:=af,guard:=gd} v:=fun a ha=>by simp [execOp,ha.ev ec,ha.ev e,asBool]
theorem X.pickF {c x y:Operand} {v:Value} (ec:ev f c=some (.bool false)) (e:ev f y=some v):Runs P n f w {dst,op:=.pick c x y,type:=ty,pos,after:=af,guard:=gd} v:=fun a ha=>by simp [execOp,ha.ev ec,ha.ev e,asBool]
theorem X.bin {op:BinOp} {t u:TypeId} {x y:Operand} {a b:Value} (v:Value) (ex:ev f x=some a) (ey:ev f y=some b) (h:∀w,(binOp op t a b).run P w=.ok v w) (hq:∀w,(eqGuard op t x y a b).run P w=.ok () w):
  Runs P n f w {dst,op:=.binOp op t x y u,type:=ty,pos,after:=af,guard:=gd} v:=fun a ha=>by simp [execOp,ha.ev ex,ha.ev ey,hq,h]
theorem eqGuard_int (op:BinOp) (t:TypeId) (x y:Operand) (k k':IntKind) (a b:Int):∀w,(eqGuard op t x y (.int k a) (.int k' b)).run P w=.ok () w:=fun w=>by
 unfold eqGuard;cases op<;>rfl
theorem X.add {t u:TypeId} {x y:Operand} {k:IntKind} {a b:Int} (ex:ev f x=some (.int k a)) (ey:ev f y=some (.int k b)):
  Runs P n f w {dst,op:=.binOp .add t x y u,type:=ty,pos,after:=af,guard:=gd} (.int k (k.wrap (a+b))):=X.bin _ ex ey (fun _=>by simp [binOp,Op.intArith]) (eqGuard_int _ _ _ _ _ _ _ _)
theorem X.sub {t u:TypeId} {x y:Operand} {k:IntKind} {a b:Int} (ex:ev f x=some (.int k a)) (ey:ev f y=some (.int k b)):
  Runs P n f w {dst,op:=.binOp .sub t x y u,type:=ty,pos,after:=af,guard:=gd} (.int k (k.wrap (a-b))):=X.bin _ ex ey (fun _=>by simp [binOp,Op.intArith]) (eqGuard_int _ _ _ _ _ _ _ _)
theorem X.mul {t u:TypeId} {x y:Operand} {k:IntKind} {a b:Int} (ex:ev f x=some (.int k a)) (ey:ev f y=some (.int k b)):
  Runs P n f w {dst,op:=.binOp .mul t x y u,type:=ty,pos,after:=af,guard:=gd} (.int k (k.wrap (a*b))):=X.bin _ ex ey (fun _=>by simp [binOp,Op.intArith]) (eqGuard_int _ _ _ _ _ _ _ _)
theorem X.quo {t u:TypeId} {x y:Operand} {k:IntKind} {a b:Int} (ex:ev f x=some (.int k a)) (ey:ev f y=some (.int k b)) (h0:¬b=0):
  Runs P n f w {dst,op:=.binOp .quo t x y u,type:=ty,pos,after:=af,guard:=gd} (.int k (k.wrap (a.tdiv b))):=X.bin _ ex ey (fun _=>by simp [binOp,Op.intDiv,h0]) (eqGuard_int _ _ _ _ _ _ _ _)
theorem X.rem {t u:TypeId} {x y:Operand} {k:IntKind} {a b:Int} (ex:ev f x=some (.int k a)) (ey:ev f y=some (.int k b)) (h0:¬b=0):
  Runs P n f w {dst,op:=.binOp .rem t x y u,type:=ty,pos,after:=af,guard:=gd} (.int k (a.tmod b)):=X.bin _ ex ey (fun _=>by simp [binOp,Op.intDiv,h0]) (eqGuard_int _ _ _ _ _ _ _ _)
theorem X.and {t u:TypeId} {x y:Operand} {k:IntKind} {a b:Int} (ex:ev f x=some (.int k a)) (ey:ev f y=some (.int k b)):
  Runs P n f w {dst,op:=.binOp .and t x y u,type:=ty,pos,after:=af,guard:=gd} (.int k (iand k a b)):=X.bin _ ex ey (fun _=>by simp [binOp,Op.intBits,iand]) (eqGuard_int _ _ _ _ _ _ _ _)
theorem X.or {t u:TypeId} {x y:Operand} {k:IntKind} {a b:Int} (ex:ev f x=some (.int k a)) (ey:ev f y=some (.int k b)):
  Runs P n f w {dst,op:=.binOp .or t x y u,type:=ty,pos,after:=af,guard:=gd} (.int k (ior k a b)):=X.bin _ ex ey (fun _=>by simp [binOp,Op.intBits,ior]) (eqGuard_int _ _ _ _ _ _ _ _)
theorem X.xor {t u:TypeId} {x y:Operand} {k:IntKind} {a b:Int} (ex:ev f x=some (.int k a)) (ey:ev f y=some (.int k b)):
  Runs P n f w {dst,op:=.binOp .xor t x y u,type:=ty,pos,after:=af,guard:=gd} (.int k (ixor k a b)):=X.bin _ ex ey (fun _=>by simp [binOp,Op.intBits,ixor]) (eqGuard_int _ _ _ _ _ _ _ _)
theorem X.andNot {t u:TypeId} {x y:Operand} {k:IntKind} {a b:Int} (ex:ev f x=some (.int k a)) (ey:ev f y=some (.int k b)):
  Runs P n f w {dst,op:=.binOp .andNot t x y u,type:=ty,pos,after:=af,guard:=gd} (.int k (iandn k a b)):=X.bin _ ex ey (fun _=>by simp [binOp,Op.intBits,iandn]) (eqGuard_int _ _ _ _ _ _ _ _)
theorem X.shl {t u:TypeId} {x y:Operand} {k k':IntKind} {a b:Int} (ex:ev f x=some (.int k a)) (ey:ev f y=some (.int k' b)) (h0:¬b<0):
  Runs P n f w {dst,op:=.binOp .shl t x y u,type:=ty,pos,after:=af,guard:=gd} (.int k (k.wrap (a*2^(min b.toNat k.bits)))):=X.bin _ ex ey (fun _=>by simp [binOp,Op.shift,h0]) (eqGuard_int _ _ _ _ _ _ _ _)
theorem X.shr {t u:TypeId} {x y:Operand} {k k':IntKind} {a b:Int} (ex:ev f x=some (.int k a)) (ey:ev f y=some (.int k' b)) (h0:¬b<0):
  Runs P n f w {dst,op:=.binOp .shr t x y u,type:=ty,pos,after:=af,guard:=gd} (.int k (a.fdiv (2^(min b.toNat k.bits)))):=X.bin _ ex ey (fun _=>by simp [binOp,Op.shift,h0]) (eqGuard_int _ _ _ _ _ _ _ _)
def cmpI:BinOp→Int→Int→Bool
 | .eql,x,y=>x==y
 | .neq,x,y=>x !=y
 | .lss,x,y=>x<y
 | .leq,x,y=>x≤y
 | .gtr,x,y=>x>y
 | .geq,x,y=>x≥y
 |_,_,_=>false
def isCmp:BinOp→Bool
 | .eql| .neq| .lss| .leq| .gtr| .geq=>true
 |_=>false
theorem X.cmp {op:BinOp} {t u:TypeId} {x y:Operand} {k:IntKind} {a b:Int} (c:Bool) (hc:cmpI op a b=c) (ho:isCmp op=true) (ex:ev f x=some (.int k a)) (ey:ev f y=some (.int k b)):
  Runs P n f w {dst,op:=.binOp op t x y u,type:=ty,pos,after:=af,guard:=gd} (.bool c):=by
 refine X.bin _ ex ey (fun _=>?_) (eqGuard_int _ _ _ _ _ _ _ _)
 subst hc
 cases op<;>first|(simp [isCmp] at ho;done)|simp [binOp,Op.intCmp,cmpI]
theorem X.eqS {t u:TypeId} {x y:Operand} {a b:ByteArray} (ex:ev f x=some (.string a)) (ey:ev f y=some (.string b)):
  Runs P n f w {dst,op:=.binOp .eql t x y u,type:=ty,pos,after:=af,guard:=gd} (.bool (a.toList==b.toList)):=
 X.bin _ ex ey (fun w=>by simp [binOp,Op.stringOp]) (fun w=>by unfold eqGuard;rfl)
theorem eqIn_ptr (w:World) (d:Nat) (t e:TypeId) (p:Option Addr) (h:P.underlying t=some (.pointer e)):(Op.equalIn (d+1) t (.pointer p) (.pointer none)).run P w=.ok p.isNone w:=by
 cases p<;>simp [Op.equalIn,run_underlying h]
theorem eqIn_sl (w:World) (d:Nat) (t e:TypeId) (a:Option Addr) (l c:Nat) (h:P.underlying t=some (.slice e)):(Op.equalIn (d+1) t (.slice a l c) (.slice none 0 0)).run P w=.ok a.isNone w:=by
 cases a<;>simp [Op.equalIn,run_underlying h]
theorem X.eqP {t u:TypeId} {x y:Operand} {e:TypeId} {a:Option Addr} (hu:P.underlying t=some (.pointer e)) (ex:ev f x=some (.pointer a)) (ey:ev f y=some (.pointer none)):
  Runs P n f w {dst,op:=.binOp .eql t x y u,type:=ty,pos,after:=af,guard:=gd} (.bool a.isNone):=
 X.bin _ ex ey (fun w=>by
  have h:(Op.equal t (.pointer a) (.pointer none)).run P w=.ok a.isNone w:=eqIn_ptr w 9999 t e a hu
  simp [binOp,h]) (fun w=>by unfold eqGuard;rfl)
theorem X.neP {t u:TypeId} {x y:Operand} {e:TypeId} {a:Option Addr} (hu:P.underlying t=some (.pointer e)) (ex:ev f x=some (.pointer a)) (ey:ev f y=some (.pointer none)):
  Runs P n f w {dst,op:=.binOp .neq t x y u,type:=ty,pos,after:=af,guard:=gd} (.bool (!a.isNone)):=
 X.bin _ ex ey (fun w=>by
  have h:(Op.equal t (.pointer a) (.pointer none)).run P w=.ok a.isNone w:=eqIn_ptr w 9999 t e a hu
  simp [binOp,h]) (fun w=>by unfold eqGuard;rfl)
theorem X.eqSl {t u:TypeId} {x y:Operand} {e:TypeId} {a:Option Addr} {m c:Nat} (hu:P.underlying t=some (.slice e)) (ex:ev f x=some (.slice a m c)) (ey:ev f y=some (.slice none 0 0)):
  Runs P n f w {dst,op:=.binOp .eql t x y u,type:=ty,pos,after:=af,guard:=gd} (.bool a.isNone):=
 X.bin _ ex ey (fun w=>by
  have h:(Op.equal t (.slice a m c) (.slice none 0 0)).run P w=.ok a.isNone w:=eqIn_sl w 9999 t e a m c hu
  simp [binOp,h]) (fun w=>by unfold eqGuard;rfl)
theorem X.not {t:TypeId} {x:Operand} {b:Bool} (ex:ev f x=some (.bool b)):
  Runs P n f w {dst,op:=.unOp .not t x,type:=ty,pos,after:=af,guard:=gd} (.bool (!b)):=
 fun a ha=>by simp [execOp,ha.ev ex,Op.unary]
def icom (k:IntKind) (x:Int):Int:=ixor k (if k.signed then -1 else k.max) x
theorem X.com {t:TypeId} {x:Operand} {k:IntKind} {a:Int} (ex:ev f x=some (.int k a)):
  Runs P n f w {dst,op:=.unOp .xor t x,type:=ty,pos,after:=af,guard:=gd} (.int k (icom k a)):=
 fun a ha=>by simp [execOp,ha.ev ex,Op.unary,Op.intBits,icom,ixor]
theorem X.conv {s t:TypeId} {x:Operand} {k k':IntKind} {a:Int} {ds:TypeDesc} (hs:P.underlying s=some ds) (ht:P.underlying t=some (.int k)) (ex:ev f x=some (.int k' a)):
  Runs P n f w {dst,op:=.convert s t x,type:=ty,pos,after:=af,guard:=gd} (.int k (k.wrap a)):=
 fun a ha=>by simp [execOp,ha.ev ex,convert,run_underlying hs,run_underlying ht,Conv.intToInt]
theorem X.nilCheck {x:Operand} {a:Addr} (ex:ev f x=some (.pointer (some a))):
  Runs P n f w {dst,op:=.nilCheck x,type:=ty,pos,after:=af,guard:=gd} (.pointer (some a)):=
 fun a ha=>by simp [execOp,ha.ev ex]
def fieldOff (P:Program) (s:TypeId) (k:Nat):Option Nat:=
 match P.underlying s with
 |some (.struct fs)=>match fs[k]? with
  |some g=>match P.info? g.type with
   |some i=>if i.size=0 then none else some g.offset
   |none=>none
  |none=>none
 |_=>none
theorem X.fieldAddr {s:TypeId} {x:Operand} {i:Nat} {b o:Nat} (q:Nat) (hq:fieldOff P s i=some q) (ex:ev f x=some (.pointer (some ⟨b,o,none⟩))):
  Runs P n f w {dst,op:=.fieldAddr s x i,type:=ty,pos,after:=af,guard:=gd} (.pointer (some ⟨b,o+q,none⟩)):=
 fun a ha=>by
  unfold fieldOff at hq
  cases hu:P.underlying s with
  |none=>simp [hu] at hq
  |some ds=>
   rw [hu] at hq
   cases ds<;>simp at hq
   rename_i fs
   cases hf:fs[i]? with
   |none=>simp [hf] at hq
   |some g=>
    rw [hf] at hq
    simp only at hq
    cases hi:P.info? g.type with
    |none=>simp [hi] at hq
    |some j=>
     rw [hi] at hq
     simp only at hq
     split at hq
     ·cases hq
     ·rename_i hz
      simp at hq
      subst hq
      simp [execOp,ha.ev ex,Instr.fieldAt,run_underlying hu,hf,Instr.sureAddr,fieldPlace,sizeOf,typeInfo,hi,hz,Addr.add_lit]
theorem X.indexSl {t:TypeId} {x y:Operand} {e:TypeId} {b o:Nat} {m c:Nat} {k:IntKind} {i:Int} {sz:Nat} (ht:P.underlying t=some (.slice e)) (hz:(P.info? e).map (·.size)=some sz) (ex:ev f x=some (.slice (some ⟨b,o,none⟩) m c)) (ey:ev f y=some (.int k i)) (h0:0≤i) (h1:i<(m:Int)):
  Runs P n f w {dst,op:=.indexAddr t x y,type:=ty,pos,after:=af,guard:=gd} (.pointer (some ⟨b,o+i.toNat*sz,none⟩)):=
 fun a ha=>by
  cases hi:P.info? e with
  |none=>simp [hi] at hz
  |some j=>
   simp [hi] at hz
   subst hz
   simp [execOp,ha.ev ex,ha.ev ey,Instr.indexAt,asIntOf,run_underlying ht,sizeOf,typeInfo,hi,h0,h1,Addr.add_lit]
theorem X.indexAr {t:TypeId} {x y:Operand} {e:TypeId} {b o:Nat} {m:Nat} {k:IntKind} {i:Int} {sz:Nat} (ht:P.underlying t=some (.array m e)) (hz:(P.info? e).map (·.size)=some sz) (ex:ev f x=some (.pointer (some ⟨b,o,none⟩))) (ey:ev f y=some (.int k i)) (h0:0≤i) (h1:i<(m:Int)):
  Runs P n f w {dst,op:=.indexAddr t x y,type:=ty,pos,after:=af,guard:=gd} (.pointer (some ⟨b,o+i.toNat*sz,none⟩)):=
 fun a ha=>by
  cases hi:P.info? e with
  |none=>simp [hi] at hz
  |some j=>
   simp [hi] at hz
   subst hz
   simp [execOp,ha.ev ex,ha.ev ey,Instr.indexAt,asIntOf,Instr.sureAddr,run_underlying ht,sizeOf,typeInfo,hi,h0,h1,Addr.add_lit]
theorem X.indexArK {t:TypeId} {x y:Operand} {e:TypeId} {b o:Nat} {m:Nat} {k:IntKind} {i:Int} {sz:Nat} (j:Nat) (hj:i=(j:Int)) (ht:P.underlying t=some (.array m e)) (hz:(P.info? e).map (·.size)=some sz) (ex:ev f x=some (.pointer (some ⟨b,o,none⟩))) (ey:ev f y=some (.int k i)) (h0:0≤i) (h1:i<(m:Int)):
  Runs P n f w {dst,op:=.indexAddr t x y,type:=ty,pos,after:=af,guard:=gd} (.pointer (some ⟨b,o+j*sz,none⟩)):=by
 subst hj
 exact X.indexAr ht hz ex ey h0 h1
def aggD:TypeDesc→Bool
 | .struct _| .array _ _=>true
 |_=>false
theorem run_isAgg {t:TypeId} {ds:TypeDesc} (h:P.underlying t=some ds) (w:World):(isAgg t).run P w=.ok (aggD ds) w:=by
 unfold isAgg
 rw [Sem.run_bind,run_underlying h]
 cases ds<;>rfl
theorem X.load {t:TypeId} {x:Operand} {a:Addr} {v:Value} {ds:TypeDesc} (hu:P.underlying t=some ds) (hg:aggD ds=false) (ex:ev f x=some (.pointer (some a))) (hc:w.cell? a=some v):
  Runs P n f w {dst,op:=.load t x,type:=ty,pos,after:=af,guard:=gd} (v):=
 fun a ha=>by simp [execOp,ha.ev ex,Instr.loadAt,Instr.sureAddr,loadVar,run_isAgg hu,hg,hc]
theorem X.loadAgg {t:TypeId} {x:Operand} {a:Addr} {vs:List Value} {ds:TypeDesc} (hu:P.underlying t=some ds) (hg:aggD ds=true) (hz:(P.info? t).map (·.size)=some vs.length) (ex:ev f x=some (.pointer (some a))) (hc:∀j v,vs[j]?=some v→w.cell? (a.add j)=some v):
  Runs P n f w {dst,op:=.load t x,type:=ty,pos,after:=af,guard:=gd} (.agg vs.toArray):=
 fun b ha=>by
  have hl:=run_loadCells_list (P:=P) w a vs hc
  cases hi:P.info? t with
  |none=>simp [hi] at hz
  |some j=>
   have hs:j.size=vs.length:=by simpa [hi] using hz
   simp [execOp,ha.ev ex,Instr.loadAt,Instr.sureAddr,loadVar,run_isAgg hu,hg,sizeOf,typeInfo,hi,hs,hl]
theorem X.loadAt (k:Nat) {t:TypeId} {x:Operand} {b i:Nat} {c:Array Value} {e:TypeId} {v:Value} {ds:TypeDesc} (hs:St L w0 w) (hL:L[k]?=some (blk b c e)) (hu:P.underlying t=some ds) (hg:aggD ds=false) (ex:ev f x=some (.pointer (some ⟨b,i,none⟩))) (hc:c[i]?=some v):
  Runs P n f w {dst,op:=.load t x,type:=ty,pos,after:=af,guard:=gd} v:=X.load hu hg ex (by rw [(hs.at k hL).cell];exact hc)
theorem Y.store {t:TypeId} {x y:Operand} {a:Addr} {v u:Value} (hz:(P.info? t).map (·.size)=some 1) (ex:ev f x=some (.pointer (some a))) (ey:ev f y=some v) (h1:v.oneCell'=true) (hc:w.cell? a=some u) (hf:w.frozen? a=false):
  Turns P Q n f w {dst,op:=.store t x y,type:=ty,pos,after:=af,guard:=gd} (fun _ w'=>w'=w.setCell a v):=fun b ha K hK=>by
 cases hi:P.info? t with
 |none=>simp [hi] at hz
 |some j=>
  have hs:j.size=1:=by simpa [hi] using hz
  have hcs:v.cells=#[v]:=by cases v<;>first|rfl|simp [Value.oneCell'] at h1
  have hadd:a.add 0=a:=by simp [Addr.add]
  have hst:(Go.store a v).run P w=.ok () (w.setCell a v):=by rw [run_store P w a v _ h1];simp [hc,hf]
  have hr:(execOp b.eval {dst,op:=.store t x y,type:=ty,pos,after:=af,guard:=gd}).run P w=.ok .skip (w.setCell a v):=by
   simp [execOp,ha.ev ex,ha.ev ey,Instr.storeAt,Instr.sureAddr,storeVar,sizeOf,typeInfo,hi,hs,hcs,storeCells,hadd,hst]
  unfold Oper.wp
  rw [hr,Oper.upon_skip]
  exact hK _ _ rfl
theorem Y.storeAt (k:Nat) {t:TypeId} {x y:Operand} {b i:Nat} {c c':Array Value} {e:TypeId} {v u:Value} {L':List As} (hs:St L w0 w) (hL:L[k]?=some (blk b c e)) (hz:(P.info? t).map (·.size)=some 1) (ex:ev f x=some (.pointer (some ⟨b,i,none⟩))) (ey:ev f y=some v) (h1:v.oneCell'=true) (hc:c[i]?=some u)
  (hc':c.setIfInBounds i v=c') (hL':L.set k (blk b c' e)=L'):Turns P Q n f w {dst,op:=.store t x y,type:=ty,pos,after:=af,guard:=gd} (fun _ w'=>St L' w0 w'):=fun a ha K hK=>by
 have hb:=hs.at k hL
 refine Y.store hz ex ey h1 (by rw [hb.cell];exact hc) (hb.free _) a ha K fun v' w' hw=>hK _ _ ?_
 subst hw
 subst hc'
 subst hL'
 exact St.back k hL (hb.set i v)
theorem Y.run {o:Oper} {v:Value} {w':World} (h:∀a,Fits n a f→(execOp a.eval o).run P w=.ok (.value v) w') {Φ:Value→World→Prop} (hΦ:Φ v w'):Turns P Q n f w o Φ:=fun a ha K hK=>by
 unfold Oper.wp
 rw [h a ha,Oper.upon_value]
 exact hK _ _ hΦ
theorem Y.box {e:TypeId} {x:Operand} {v:Value} (hs:St L w0 w) (ex:ev f x=some v):Turns P Q n f w {dst,op:=.box e x,type:=ty,pos,after:=af,guard:=gd} (fun u w'=>∃b,u=.pointer (some ⟨b,0,none⟩)∧St (blk b v.cells e::L) w0 w'):=
 Y.run (w':=w.alloc (.cells v.cells e)) (fun b ha=>by simp [execOp,ha.ev ex,Instr.box,newVar,newRow,newObj,Sem.run]) ⟨w.heap.size,rfl,hs.alloc v.cells e⟩
theorem Y.alloc {e:TypeId} {z:Value} (hs:St L w0 w) (hz:(P.info? e).bind (·.zero)=some z):Turns P Q n f w {dst,op:=.alloc e,type:=ty,pos,after:=af,guard:=gd} (fun u w'=>∃b,u=.pointer (some ⟨b,0,none⟩)∧St (blk b z.cells e::L) w0 w'):=
 Y.run (w':=w.alloc (.cells z.cells e)) (fun b ha=>by
  cases hi:P.info? e with
  |none=>simp [hi] at hz
  |some j=>
   have hs:j.zero=some z:=by simpa [hi] using hz
   simp [execOp,Instr.alloc,zeroValue,typeInfo,hi,hs,newVar,newRow,newObj,Sem.run]) ⟨w.heap.size,rfl,hs.alloc z.cells e⟩
theorem Y.buildSlice {t e:TypeId} {len size:Nat} {parts:Array (Nat × Operand)} {vs:Array (Nat × Value)} {c:Array Value} (hs:St L w0 w) (hp:∀a,Fits n a f→(parts.map fun (i,x)=>(i,a.eval x))=vs) (hl:len≤maxLen) (hc:c.size=len*size)
  (h:∀w,(Instr.buildSlice t len vs).run P w=.ok (.slice (some ⟨w.heap.size,0,none⟩) len len) (w.alloc (.cells c e))):Turns P Q n f w {dst,op:=.buildSlice t len parts,type:=ty,pos,after:=af,guard:=gd} (fun u w'=>St (row e size u len c.toList::L) w0 w'):=
 Y.run (fun a ha=>by simp only [execOp,hp a ha,Sem.run_bind,h];rfl) ((hs.alloc c e).row_of_blk (by simpa using hc) (Nat.le_refl _) hl (by rw [hc];simp) (by simp only [List.drop_zero];exact List.take_of_length_le (by simp [hc])))
theorem Y.append (k:Nat) {s x:Operand} {t e:TypeId} {i:TypeInfo} {z:Value} {size bytes:Nat} (ht:P.underlying t=some (.slice e)) (hi:P.info? e=some i) (hz:i.zero=some z) (hsize:i.size=size) (hby:i.bytes=bytes) (hzs:z.cells.size=size) (hsz:0<size)
  {v:Value} {m:Nat} {xs:List Value} (hs:St L w0 w) (hL:L[k]?=some (row e size v m xs)) (ev1:ev f s=some v) {ad:Option Addr} {m' c:Nat} {news:List Value} (ev2:ev f x=some (.slice ad m' c)) (hl:news.length=m'*size) (ha:ad=none→m'=0∧c=0)
  (hnews:∀b,ad=some b→∀j u,news[j]?=some u→w.cell? (b.add j)=some u) (h1:∀u∈news,u.oneCell'=true) (h63:m+m'≤maxLen) (hbytes:(m+m')*bytes≤140737488355328):
  Turns P Q n f w {dst,op:=.call {callee:=.builtin .append,args:=#[s,x],argTypes:=#[t,t]},type:=ty,pos,after:=af,guard:=gd} (fun u w'=>St (L.set k (row e size u (m+m') (xs++news))) w0 w'):=by
 obtain ⟨v',w',hrun,r1,_⟩:=run_append_sep (P:=P) t ty e i z size bytes ht hi hz hsize hby hzs hsz v m xs (hs.at k hL) ad m' c news hl ha hnews h1 h63 hbytes
 exact Y.run (fun a ha=>by simp [execOp,resolve,invoke,builtin,ha.ev ev1,ha.ev ev2,hrun]) (St.back k hL r1)
theorem X.build {t:TypeId} {parts:Array (Nat × Operand)} {vs:Array (Nat × Value)} {v:Value} (hp:∀a,Fits n a f→(parts.map fun (i,x)=>(i,a.eval x))=vs) (h:∀w,(Instr.build t vs).run P w=.ok v w):
  Runs P n f w {dst,op:=.build t parts,type:=ty,pos,after:=af,guard:=gd} (v):=
 fun a ha=>by simp only [execOp,hp a ha,Sem.run_bind,h];rfl
theorem X.extract {x:Operand} {i:Nat} {vs:Array Value} {v:Value} (ex:ev f x=some (.tuple vs)) (hv:vs[i]?=some v):
  Runs P n f w {dst,op:=.extract x i,type:=ty,pos,after:=af,guard:=gd} (v):=
 fun a ha=>by simp [execOp,ha.ev ex,Instr.extract,hv]
theorem X.lenSl {t:TypeId} {x:Operand} {e:TypeId} {a:Option Addr} {m c:Nat} (hu:P.underlying t=some (.slice e)) (ex:ev f x=some (.slice a m c)):
  Runs P n f w {dst,op:=.call {callee:=.builtin .len,args:=#[x],argTypes:=#[t]},type:=ty,pos,after:=af,guard:=gd} (.int .i64 m):=
 fun a ha=>by simp [execOp,resolve,invoke,builtin,ha.ev ex,Builtin.len_,run_underlying hu,goInt]
def imin (x y:Int):Int:=if y<x then y else x
def imax (x y:Int):Int:=if y>x then y else x
theorem X.min2 {ts:Array TypeId} {x y:Operand} {k k':IntKind} {a b:Int} (ex:ev f x=some (.int k a)) (ey:ev f y=some (.int k' b)):
  Runs P n f w {dst,op:=.call {callee:=.builtin .min,args:=#[x,y],argTypes:=ts},type:=ty,pos,after:=af,guard:=gd} (.int k (imin a b)):=
 fun a ha=>by simp [execOp,resolve,invoke,builtin,ha.ev ex,ha.ev ey,Builtin.min_,Builtin.min2,imin]
theorem X.max2 {ts:Array TypeId} {x y:Operand} {k k':IntKind} {a b:Int} (ex:ev f x=some (.int k a)) (ey:ev f y=some (.int k' b)):
  Runs P n f w {dst,op:=.call {callee:=.builtin .max,args:=#[x,y],argTypes:=ts},type:=ty,pos,after:=af,guard:=gd} (.int k (imax a b)):=
 fun a ha=>by simp [execOp,resolve,invoke,builtin,ha.ev ex,ha.ev ey,Builtin.max_,Builtin.max2,imax]
def evs (f:Fr):List Operand→Option (List Value)
 |[]=>some []
 |x::r=>match ev f x,evs f r with
  |some v,some vs=>some (v::vs)
  |_,_=>none
theorem Fits.evs {a:Act} (ha:Fits n a f):∀{xs:List Operand} {vs:List Value},Walk.evs f xs=some vs→xs.map a.eval=vs
 |[],vs,e=>by simp [Walk.evs] at e;simp [e]
 |x::r,vs,e=>by
  simp only [Walk.evs] at e
  cases hx:Walk.ev f x with
  |none=>simp [hx] at e
  |some v=>
   cases hr:Walk.evs f r with
   |none=>simp [hx,hr] at e
   |some us=>
    simp [hx,hr] at e
    subst e
    simp [ha.ev hx,ha.evs hr]
theorem Y.call {F:FuncId} {fn:Func} {xs:List Operand} {ts:Array TypeId} {vs:List Value} {Φ:Value→World→Prop} (hF:P.funcs[F]?=some fn) (hn:(fn.name=="runtime.NumGoroutine")=false) (hb:fn.body.isNone=false) (ex:evs f xs=some vs) (hc:Calls P F vs.toArray w (Ret Φ)):
  Turns P Q n f w {dst,op:=.call {callee:=.value (.func F),args:=xs.toArray,argTypes:=ts},type:=ty,pos,after:=af,guard:=gd} Φ:=fun a ha K hK=>by
 have hx:xs.toArray.map a.eval=vs.toArray:=by rw [←ha.evs ex];simp
 have hr:(execOp a.eval {dst,op:=.call {callee:=.value (.func F),args:=xs.toArray,argTypes:=ts},type:=ty,pos,after:=af,guard:=gd}).run P w=.ok (.enter F vs.toArray) w:=by
  have hn':¬(fn.name="runtime.NumGoroutine"):=by simpa using hn
  have hb':¬(fn.body=none):=by intro e;rw [e] at hb;simp at hb
  simp only [execOp,resolve,Act.eval,Deferred.ofValue,invoke,callFunc,program]
  rw [show (xs.toArray.map fun x=>a.eval x)=vs.toArray from hx]
  simp [hF,hn',hb',Sem.run]
 unfold Oper.wp
 rw [hr,Oper.upon_enter]
 refine hc.mono fun e w' he=>?_
 obtain ⟨v,rfl,hv⟩:=he
 exact hK _ _ hv
end
end Go.Proofs.YtaejcbpijdacmaaGreat.Walk

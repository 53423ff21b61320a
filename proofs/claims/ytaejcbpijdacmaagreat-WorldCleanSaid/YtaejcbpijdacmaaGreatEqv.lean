/- A base for the walks of this seat: equality of structs and arrays of scalars, whatever lies in what. It speaks of no program. -/
import Derived.Test.YtaejcbpijdacmaaGreatOps
import Derived.Laws.StructEq
import Derived.ChangeKeysEq
set_option linter.all false
namespace Go.Proofs.YtaejcbpijdacmaaGreat.Walk
open Go.RowKit Go.Proofs.YtaejcbpijdacmaaGreat.Sep
section
variable {P:Program}
def partO (P:Program) (t:TypeId) (cs:Array Value) (o:Nat):Option Value:=
 match P.underlying t,P.info? t with
 |some ds,some i=>if aggD ds then some (.agg (cs.extract o (o+i.size))) else cs[o]?
 |_,_=>none
theorem partO.run {t:TypeId} {cs:Array Value} {o:Nat} {v:Value} (h:partO P t cs o=some v) (w:World):(part t cs o).run P w=.ok v w:=by
 unfold partO at h
 split at h
 ·rename_i ds i hu hi
  split at h
  ·rename_i g
   injection h with h
   subst h
   simp [part,run_isAgg hu,g,sizeOf,typeInfo,hi]
  ·rename_i g
   have g':aggD ds=false:=by simpa using g
   simp [part,run_isAgg hu,g',h]
 ·cases h
end
section
variable {P:Program} {n:Nat} {f:Fr} {w:World} {dst:Option Tmp} {gd:Option (Nat × Bool)} {ty:TypeId} {pos:String} {af:Array Edge}
end
end Go.Proofs.YtaejcbpijdacmaaGreat.Walk

/- A base for the walks of this seat: equality of structs and arrays of scalars, whatever lies in what. It speaks of no program. -/
import Derived.Test.YtnlcafmkmfnobaaOps
import Derived.Laws.StructEq
import Derived.ChangeKeysEq
set_option linter.all false
namespace Go.Proofs.Ytnlcafmkmfnobaa.Walk
open Go.RowKit Go.Proofs.Ytnlcafmkmfnobaa.Sep
section
variable {P : Program}
def partO (P : Program) (t : TypeId) (cs : Array Value) (o : Nat) : Option Value :=
 match P.underlying t, P.info? t with
 | some ds, some i => if aggD ds then some (.agg (cs.extract o (o + i.size))) else cs[o]?
 | _, _ => none
theorem partO.run {t : TypeId} {cs : Array Value} {o : Nat} {v : Value} (h : partO P t cs o = some v) (w : World) : (part t cs o).run P w = .ok v w := by
 unfold partO at h
 split at h
 ·rename_i ds i hu hi
  split at h
  ·rename_i g
   injection h with h
   subst h
   simp [part, run_isAgg hu, g, sizeOf, typeInfo, hi]
  ·rename_i g
   have g' : aggD ds = false := by simpa using g
   simp [part, run_isAgg hu, g', h]
 ·cases h
def eqFs (P : Program) (q : TypeId → Value → Value → Option Bool) (xs ys : Array Value) : List Field → Option Bool
 | [] => some true
 | f :: fs => match f.name == "_", partO P f.type xs f.offset, partO P f.type ys f.offset with
  | false, some a, some b => match q f.type a b, eqFs P q xs ys fs with
   | some r, some s => some (r && s)
   | _, _ => none
  | _, _, _ => none
def eqIs (P : Program) (q : TypeId → Value → Value → Option Bool) (e : TypeId) (xs ys : Array Value) : List Nat → Option Bool
 | [] => some true
 | i :: is => match partO P e xs (i * P.cellsOf e), partO P e ys (i * P.cellsOf e) with
  | some a, some b => match q e a b, eqIs P q e xs ys is with
   | some r, some s => some (r && s)
   | _, _ => none
  | _, _ => none
def eqD (P : Program) : Nat → TypeId → Value → Value → Option Bool
 | 0, _, _, _ => none
 | d + 1, t, x, y => match P.underlying t, x, y with
  | some (.int _), .int k a, .int k' b => if k = k' then some (a == b) else none
  | some .bool, .bool a, .bool b => some (a == b)
  | some .string, .string a, .string b => some (a.toList == b.toList)
  | some (.struct _), .agg xs, .agg ys => match P.stoodInHeld t with
   | false => eqFs P (eqD P d) xs ys (P.fieldsOf t).toList
   | true => none
  | some (.array n e), .agg xs, .agg ys => match P.info? e with
   | some _ => eqIs P (eqD P d) e xs ys (List.range n)
   | none => none
  | _, _, _ => none
theorem eqFs_run {q : TypeId → Value → Value → Option Bool} {d : Nat} {xs ys : Array Value} (hq : ∀ t a b r (w : World), q t a b = some r → (Op.equalIn d t a b).run P w = .ok r w) : ∀ {fs : List Field} {r : Bool} {w : World}, eqFs P q xs ys fs = some r → (Op.eqFields d xs ys fs).run P w = .ok r w
 | [], r, w, h => by simp [eqFs] at h; subst h; simp [Op.eqFields]
 | f :: fs, r, w, h => by
  unfold eqFs at h
  split at h
  ·rename_i a b hn ha hb
   split at h
   ·rename_i u s hu hs
    injection h with h
    subst h
    have hn' : ¬ f.name = "_" := by simpa using hn
    have ih := eqFs_run hq (w := w) hs
    simp only [Op.eqFields, hn', ne_eq, not_false_eq_true, if_true, Sem.run_bind, ha, partO.run ha, partO.run hb, Result.andThen_ok, hq _ _ _ _ w hu]
    cases u with
    | false => simp
    | true => simpa using ih
   ·cases h
  ·cases h
theorem eqIs_run {q : TypeId → Value → Value → Option Bool} {d : Nat} {e : TypeId} {xs ys : Array Value} (hq : ∀ t a b r (w : World), q t a b = some r → (Op.equalIn d t a b).run P w = .ok r w) : ∀ {is : List Nat} {r : Bool} {w : World}, eqIs P q e xs ys is = some r → (Op.eqItems d e (P.cellsOf e) xs ys is).run P w = .ok r w
 | [], r, w, h => by simp [eqIs] at h; subst h; simp [Op.eqItems]
 | i :: is, r, w, h => by
  unfold eqIs at h
  split at h
  ·rename_i a b ha hb
   split at h
   ·rename_i u s hu hs
    injection h with h
    subst h
    have ih := eqIs_run hq (w := w) hs
    simp only [Op.eqItems, Sem.run_bind, partO.run ha, partO.run hb, Result.andThen_ok, hq _ _ _ _ w hu]
    cases u with
    | false => simp
    | true => simpa using ih
   ·cases h
  ·cases h
theorem fieldsOf_eq {t : TypeId} {fs : Array Field} (h : P.underlying t = some (.struct fs)) : P.fieldsOf t = fs := by simp [Program.fieldsOf, h]
theorem eqD_run (k : Nat) : ∀ (d : Nat) (t : TypeId) (x y : Value) (r : Bool) (w : World), eqD P d t x y = some r → (Op.equalIn (d + k) t x y).run P w = .ok r w
 | 0, t, x, y, r, w, h => by cases h
 | d + 1, t, x, y, r, w, h => by
  have hq : ∀ t a b r (w : World), eqD P d t a b = some r → (Op.equalIn (d + k) t a b).run P w = .ok r w := fun t a b r w => eqD_run k d t a b r w
  have e : d + 1 + k = (d + k) + 1 := by omega
  rw [e]
  unfold eqD at h
  split at h
  ·rename_i k0 k1 a k2 b hu
   split at h
   ·rename_i hk
    subst hk
    injection h with h
    subst h
    exact run_equalIn_int w _ t _ _ _ _ hu
   ·cases h
  ·rename_i a b hu
   injection h with h
   subst h
   exact run_equalIn_bool' w _ t _ _ hu
  ·rename_i a b hu
   injection h with h
   subst h
   exact run_equalIn_string w _ t _ _ hu
  ·rename_i fs xs ys hu
   split at h
   ·rename_i hp
    rw [run_equalIn_agg w _ t xs ys (by rw [hu, fieldsOf_eq hu]) hp]
    exact eqFs_run hq h
   ·cases h
  ·rename_i n e xs ys hu
   split at h
   ·rename_i i hi
    rw [run_equalIn_array w _ xs ys hu hi]
    exact eqIs_run hq h
   ·cases h
  ·cases h
end
section
variable {P : Program} {n : Nat} {f : Fr} {w : World} {dst : Option Tmp} {gd : Option (Nat × Bool)} {ty : TypeId} {pos : String} {af : Array Edge}
theorem X.eqV {t u : TypeId} {x y : Operand} {a b : Array Value} {c : Bool} (h : eqD P 8 t (.agg a) (.agg b) = some c) (hm : P.eqGuardType P.depth t = false) (ex : ev f x = some (.agg a)) (ey : ev f y = some (.agg b)) :
  Runs P n f w { dst, op := .binOp .eql t x y u, type := ty, pos, after := af, guard := gd } (.bool c) :=
 X.bin _ ex ey (fun w => by rw [run_eql_struct, show (10000 : Nat) = 8 + 9992 from rfl, eqD_run 9992 8 _ _ _ _ w h]; rfl) (fun w => run_eqGuard_agg w _ t x y a b hm)
theorem X.neV {t u : TypeId} {x y : Operand} {a b : Array Value} {c : Bool} (h : eqD P 8 t (.agg a) (.agg b) = some c) (hm : P.eqGuardType P.depth t = false) (ex : ev f x = some (.agg a)) (ey : ev f y = some (.agg b)) :
  Runs P n f w { dst, op := .binOp .neq t x y u, type := ty, pos, after := af, guard := gd } (.bool (!c)) :=
 X.bin _ ex ey (fun w => by rw [run_neq_struct, show (10000 : Nat) = 8 + 9992 from rfl, eqD_run 9992 8 _ _ _ _ w h]; rfl) (fun w => run_eqGuard_agg w _ t x y a b hm)
end
end Go.Proofs.Ytnlcafmkmfnobaa.Walk

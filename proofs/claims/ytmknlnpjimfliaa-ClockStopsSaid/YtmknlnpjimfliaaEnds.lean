/- A base for the walks of this seat: the world in which a call begins, all of it frozen, and what its end says. It speaks of no program. -/
import Derived.Test.YtmknlnpjimfliaaOps
import Derived.Below
set_option linter.all false
namespace Go.Proofs.Ytmknlnpjimfliaa.Walk
open Go.RowKit Go.Proofs.Ytmknlnpjimfliaa.Sep

/-- All that a world holds, and nobody writes it. -/
def old (W : World) : As := fun h => ∀ r o, W.heap[r]? = some o → h r = some (true, o)
theorem St.begin (W : World) : St [old W] W W :=
  ⟨rfl, rfl, rfl, fun r => (W.heap[r]?).map fun o => (true, o), fun r f o e => by
    cases h : W.heap[r]? with
    | none => simp [h] at e
    | some x => simp [h] at e; rw [e.2], fun r => (W.heap[r]?).map fun o => (true, o), fun _ => none, fun _ => .inr (.inl rfl), Hp.le.refl _, (fun _ _ e => by cases e), fun r o e => by simp [e], trivial⟩
theorem St.below {W w : World} {l : List As} (hs : St (old W :: l) W w) : Below W.heap.size W w := by
  have key : ∀ k o, W.heap[k]? = some o → w.heap[k]? = some o := fun k o e => hs.tells 0 rfl fun h ho hon => hon _ _ _ (ho k o e)
  refine ⟨hs.os, hs.tape, hs.output, ?_, fun k hk => ?_⟩
  · rcases Nat.eq_zero_or_pos W.heap.size with h | h
    · omega
    · have e : W.heap[W.heap.size - 1]? = some W.heap[W.heap.size - 1] := Array.getElem?_eq_getElem (by omega)
      have := lt_of_block (key _ _ e)
      omega
  · rw [key k _ (Array.getElem?_eq_getElem hk), Array.getElem?_eq_getElem hk]
end Go.Proofs.Ytmknlnpjimfliaa.Walk

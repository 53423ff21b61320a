/- A base for the walks of this seat: the world in which a call begins, all of it frozen, and what its end says. It speaks of no program. -/
import Derived.Test.YtmknlnpjimfliaaOps
import Derived.Below
import Derived.ChangeSlices
import Derived.WideShapes
import Derived.Deep.Slices
set_option linter.all false
namespace Go.Proofs.Ytmknlnpjimfliaa.Walk
open Go.RowKit Go.Proofs.Ytmknlnpjimfliaa.Sep

/-- All that a world holds, and nobody writes it. -/
def old (W : World) : As := fun h => ∀ r o, W.heap[r]? = some o → h r = some (true, o)
theorem St.begin (W : World) : St [old W] W W :=
  ⟨rfl, rfl, rfl, fun r => (W.heap[r]?).map fun o => (true, o), fun r f o e => by
    cases h : W.heap[r]? with
    | none => simp [h] at e
    | some x => simp [h] at e; rw [e.2], fun r => (W.heap[r]?).map fun o => (true, o), fun _ => none, fun _ => .inr (.inl rfl), Hp.le.refl _, (fun _ _ e => by cases e), fun r o e => by simp [e], trivial⟩
theorem St.below {W w : World} {l : List As} (hs : St (old W :: l) W w) : Below W.heap.size W w := by
  have key : ∀ k o, W.heap[k]? = some o → w.heap[k]? = some o := fun k o e => hs.tells 0 rfl fun h ho hon => hon _ _ _ (ho k o e)
  refine ⟨hs.os, hs.tape, hs.output, ?_, fun k hk => ?_⟩
  · rcases Nat.eq_zero_or_pos W.heap.size with h | h
    · omega
    · have e : W.heap[W.heap.size - 1]? = some W.heap[W.heap.size - 1] := Array.getElem?_eq_getElem (by omega)
      have := lt_of_block (key _ _ e)
      omega
  · rw [key k _ (Array.getElem?_eq_getElem hk), Array.getElem?_eq_getElem hk]

/-! ### What comes in. -/
def oldHp (W : World) : Hp := fun r => (W.heap[r]?).map fun o => (true, o)
theorem old_le {W : World} {h : Hp} (ho : old W h) : (oldHp W).le h := fun r x e => by
  unfold oldHp at e
  cases hr : W.heap[r]? with
  | none => simp [hr] at e
  | some o => simp [hr] at e; subst e; exact ho r o hr
theorem cell_heap {W : World} {a : Addr} {v : Value} (h : W.cell? a = some v) : a.spot = none ∧ ∃ cur t fr, W.heap[a.block]? = some (.cells cur t fr) ∧ cur[a.off]? = some v := by
  unfold World.cell? at h
  split at h
  · rename_i c t fr hb
    cases hs : a.spot with
    | none => simp [hs] at h; exact ⟨rfl, c, t, fr, hb, h⟩
    | some s => simp [hs] at h
  · cases h
/-- A slice's cells as they came in. -/
theorem rd_old {W : World} {sz n c : Nat} {a : Option Addr} {cs : List Value} (hl : cs.length = n * sz) (hn : a = none → n = 0 ∧ c = 0) (hc : n ≤ c) (h : ∀ b, a = some b → ∀ j u, cs[j]? = some u → W.cell? (b.add j) = some u) : rdC (old W) sz (.slice a n c) n cs := by
  intro hp ho
  refine ⟨a, c, rfl, hl, hn, hc, fun b hb j u hu => ?_⟩
  have h0 : ∃ u0, cs[0]? = some u0 := by
    have : j < cs.length := (List.getElem?_eq_some_iff.1 hu).1
    exact ⟨cs[0], List.getElem?_eq_getElem (by omega)⟩
  obtain ⟨u0, hu0⟩ := h0
  have hs : b.spot = none := by
    have := (cell_heap (h b hb 0 u0 hu0)).1
    simpa [Addr.add] using this
  have he : b.add j = ⟨b.block, b.off + j, none⟩ := by
    unfold Addr.add
    split
    · rename_i hz; subst hz; obtain ⟨_, _, s⟩ := b; simp at hs; subst hs; simp
    · rfl
  have hj := h b hb j u hu
  rw [he] at hj
  obtain ⟨_, cur, t, fr, e1, e2⟩ := cell_heap hj
  exact ⟨hs, true, cur, t, fr, ho _ _ e1, e2⟩
theorem open_row {H : Type} {enc : TypeId × Value → H} {P : Program} {W : World} {base : Nat} {spare : Nat → Bool} {held : Bool} {r : Reach} {b0 : Nat} {t e : TypeId} {k : IntKind} {v : Value} {d : DataW H} {ps : List MemPlace}
    (ht : P.underlying t = some (.slice e)) (he : P.underlying e = some (.int k)) (hc : P.cellsOf e = 1) (hval : Value.okWide P W r b0 t v) (hd : DataW.Trod enc P W base spare held t v d ps) :
    ∃ (a : Option Addr) (c : Nat) (xs : List Int), v = .slice a xs.length c ∧ rdC (old W) 1 (.slice a xs.length c) xs.length (xs.map (Value.int k)) ∧ (∀ z ∈ xs, (Lit.int k z).wf = true) ∧ (xs.length : Int) ≤ 9223372036854775807 := by
  obtain ⟨a, len, cap, rfl⟩ := Go.WideShapes.okWide_slice ht hval
  obtain ⟨fuel, hf⟩ := hd
  have hf' : DataW.trod enc P W base spare held fuel t [.slice a len cap] = some (d, ps) := hf
  rcases Go.ChangeShapes.open_ints ht he hc hf' with ⟨hcs, _⟩ | ⟨a', len', cap', zs, hcs, hb, hl, hm, hlen, _, hcell, hwf⟩
  · simp at hcs
    obtain ⟨rfl, rfl, rfl⟩ := hcs
    exact ⟨none, 0, [], rfl, rdC.nil rfl, by simp, by simp⟩
  · simp at hcs
    obtain ⟨rfl, rfl, rfl⟩ := hcs
    have hle : len ≤ zs.length := by rw [hlen]; split <;> omega
    have hlt : (zs.take len).length = len := by rw [List.length_take]; omega
    refine ⟨some a', cap, zs.take len, by rw [hlt], ?_, fun z hz => hwf z (List.mem_of_mem_take hz), by rw [hlt]; unfold maxLen at hm; omega⟩
    rw [hlt]
    refine rd_old (by simp; omega) (fun h => nomatch h) hl fun b hb j u hu => ?_
    obtain rfl : a' = b := Option.some.inj hb
    have hj : j < len := by have := (List.getElem?_eq_some_iff.1 hu).1; simp at this; omega
    rw [hcell j (by omega)]
    simp [hj, show j < zs.length by omega] at hu
    rw [← hu]
    simp [List.getD, show j < zs.length by omega]
end Go.Proofs.Ytmknlnpjimfliaa.Walk

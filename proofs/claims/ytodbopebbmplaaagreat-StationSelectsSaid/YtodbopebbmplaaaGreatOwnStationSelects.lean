/- StationSelects: in the mode Active, pieces of the line that is not selected are ignored, and requests of the other station are heard on line 1: the few stations that there are, reckoned out by the kernel. Conditions: none beyond those of the given statement. -/
import Derived.Test.YtodbopebbmplaaaGreatRunStationSelects
import Derived.KernelRfl
set_option linter.all false
set_option maxRecDepth 100000
namespace Go.Proofs.YtodbopebbmplaaaGreat
open Go.RowKit Go.Proofs.YtodbopebbmplaaaGreat.Walk
def selB (l q : Nat) : Bool := (signalmanlaw20_StationSelects.f 1000 (l : Int) true (q : Int) == some true) && (signalmanlaw20_StationSelects.f 1000 (l : Int) false (q : Int) == some true)
theorem sel0 : ((List.range 9).all fun q => selB 0 q) = true := by kernel_rfl
theorem sel1 : ((List.range 9).all fun q => selB 1 q) = true := by kernel_rfl
theorem selA : signalmanlaw20_alive.f 1000 = some true := by kernel_rfl
theorem StationSelects : signalmanlaw20_StationSelects.Pure := by
 intro a0 a1 a2 _ _
 refine ⟨1000, ?_⟩
 have out : ∀ b, signalmanlaw20_StationSelects.j0 1000 a0 a1 a2 b true = some b := by intro b; unfold signalmanlaw20_StationSelects.j0; rw [if_pos rfl]
 by_cases c : (0 ≤ a0 ∧ a0 ≤ 1) ∧ 0 ≤ a2 ∧ a2 ≤ 8
 ·obtain ⟨⟨c1, c2⟩, c3, c4⟩ := c
  obtain ⟨q, rfl⟩ : ∃ q : Nat, a2 = q := ⟨a2.toNat, by omega⟩
  have key : ∀ l : Nat, ((List.range 9).all fun q => selB l q) = true → signalmanlaw20_StationSelects.f 1000 (l : Int) a1 (q : Int) = some true := by
   intro l h
   have := List.all_eq_true.1 h q (List.mem_range.2 (by omega))
   unfold selB at this
   simp only [Bool.and_eq_true, beq_iff_eq] at this
   cases a1
   ·exact this.2
   ·exact this.1
  rcases (show a0 = 0 ∨ a0 = 1 by omega) with e | e
  ·subst e; exact key 0 sel0
  ·subst e; exact key 1 sel1
 ·unfold signalmanlaw20_StationSelects.f
  rw [selA, Option.bind_some, if_pos rfl]
  by_cases c1 : a0 < 0
  ·rw [if_pos c1]; exact out _
  rw [if_neg c1]
  by_cases c2 : a0 > 1
  ·rw [if_pos c2]; exact out _
  rw [if_neg c2]
  by_cases c3 : a2 < 0
  ·rw [if_pos c3]; exact out _
  rw [if_neg c3, decide_eq_true (by omega)]; exact out _
end Go.Proofs.YtodbopebbmplaaaGreat

/- SignalReverts: the statement, out of what its law's function comes to. Conditions: none beyond those of the given statement. -/
import Derived.Test.YtgkjmdapodgnfaaGreatRows
import Derived.Test.YtgkjmdapodgnfaaGreatRunSignalReverts
import Derived.Test.YtgkjmdapodgnfaaGreatOwnSignalReverts
import Derived.Test.YtgkjmdapodgnfaaGreatEnds
import Derived.WalkKit
import Derived.ProofKit
import Derived.OpenShut
import Derived.ShutString
import Derived.ChangeOld
import Derived.Below
import Derived.SizedLaws
set_option linter.all false
namespace Go.Proofs.YtgkjmdapodgnfaaGreat.signalReverts
open Go.ChangeShapes Go.WideShapes Go.ChangeAt Go.RowKit Go.Proofs.YtgkjmdapodgnfaaGreat.Sep Go.Proofs.YtgkjmdapodgnfaaGreat.Walk
open Go.ChangeMaps (open_string shut_string)
theorem own : ownKnob Tryz.prog.godebug = none := by kernel_rfl
set_option maxRecDepth 100000 in
theorem lifted (os : Os) (started : os.Started) (H : Type) (enc : TypeId × Value → H) :
    ReturnsInHanded {} Tryz.checked os 3 .any (Rows.signalRevertsSpec.pre6 enc Tryz.prog Tryz.f3 Rows.signalRevertsRow.domain false) (Rows.signalRevertsSpec.post enc Tryz.prog Tryz.f3 false true false false) := by
  refine returnsInHanded_of_change_sized (C := Tryz.checked) own started (by kernel_rfl) Tryz.func3
    (ChangeSpec.witness6 (enc := enc) (C := Tryz.checked) false ⟨#[], #[.int .i64 0, .bool false, .int .i64 0], []⟩ 8 (by kernel_rfl) (by kernel_rfl) (by kernel_rfl) (by kernel_rfl)) ?_
  intro W base args ds gs before hval0 hW hcnd hsz0 _
  have hsz : (DataW.weightsEach Tryz.prog (Tryz.f3.params.toList ++ Rows.signalRevertsSpec.plain.varTypes Tryz.prog) (ds ++ gs)).all (· ≤ reachBytes) = true := hsz0
  have hval : ∀ (j : Nat) t v, Tryz.f3.params[j]? = some t → args[j]? = some v → Value.okWide Tryz.prog W .any base t v := hval0
  have hW' := hW
  obtain ⟨p, q, hA0, hV, rfl, hfz, hnd⟩ := hW
  have hA : DataW.TrodAll enc Tryz.prog W 0 (fun _ => true) true Tryz.f3.params.toList args.toList ds p := hA0
  rw [Tryz.params3] at hA hval hsz
  obtain ⟨v0, vs0, d0, ds0, p0, q0, hargs, rfl, rfl, h0, r0⟩ := trodAll_cons hA
  obtain ⟨v1, vs1, d1, ds1, p1, q1, rfl, rfl, rfl, h1, r1⟩ := trodAll_cons r0
  obtain ⟨v2, vs2, d2, ds2, p2, q2, rfl, rfl, rfl, h2, r2⟩ := trodAll_cons r1
  obtain ⟨rfl, rfl, rfl⟩ := trodAll_nil r2
  obtain rfl : args = #[v0, v1, v2] := by cases args; simp_all
  obtain ⟨rfl, rfl⟩ := trodVars_none hV
  obtain ⟨a0, rfl, rfl, rfl, w0⟩ := open_int Tryz.underlying3 (hval 0 3 v0 rfl rfl) h0
  obtain ⟨a1, rfl, rfl, rfl⟩ := open_bool Tryz.underlying4 (hval 1 4 v1 rfl rfl) h1
  obtain ⟨a2, rfl, rfl, rfl, w2⟩ := open_int Tryz.underlying3 (hval 2 3 v2 rfl rfl) h2
  clear hA0 hval0 hsz0 hsz
  obtain ⟨k, hk⟩ := SignalReverts a0 a1 a2 w0 w2
  refine (signalmanlaw25_SignalReverts.calls hk (Walk.St.begin W) ).mono fun e W' he => ?_
  obtain ⟨v, rfl, rfl, hs⟩ := he
  have bel := Walk.St.below hs
  exact ⟨_, rfl, _, _, _, [], _, [], hW', trodAll_mk1 (shut_bool Tryz.underlying4 _), (trodAll_cons_mk (shut_int Tryz.underlying3 w0) (trodAll_cons_mk (shut_bool Tryz.underlying4 a1) (trodAll_cons_mk (shut_int Tryz.underlying3 w2) trodAll_mk0))), rfl, bel.frame _, fun h => by cases h⟩
set_option maxHeartbeats 4000000 in
theorem over : Rows.signalRevertsRow.holds Tryz.pinned (OpenSpec.ofChange Rows.signalRevertsSpec) :=
  OpenClaim.holds_of_wide 3 Tryz.f3 (by as_aux_lemma => rfl) (by as_aux_lemma => rfl) (by as_aux_lemma => rfl) (by as_aux_lemma => rfl) (by as_aux_lemma => rfl) (by as_aux_lemma => rfl) (by as_aux_lemma => rfl) ⟨rfl, rfl, rfl, rfl, rfl⟩ (by as_aux_lemma => rfl) (by as_aux_lemma => rfl) (by as_aux_lemma => rfl) (by as_aux_lemma => rfl) (by as_aux_lemma => rfl) (by as_aux_lemma => kernel_rfl) Tryz.func3 (by as_aux_lemma => kernel_rfl)
    (of_decide_eq_true (by as_aux_lemma => kernel_rfl)) (by as_aux_lemma => unfold Func.isWrapper; first | (rw [if_pos (by decide +kernel)]; kernel_rfl) | (rw [if_neg (by decide +kernel)]; exact ⟨rfl, rfl⟩))
    (fun os started H enc _ => lifted os started H enc)
theorem proved : Rows.SignalRevertsSaid := over
end Go.Proofs.YtgkjmdapodgnfaaGreat.signalReverts
namespace Go.Proofs.YtgkjmdapodgnfaaGreat
/-- The row, under a short name, for the claim. -/
theorem signalReverts_holds : Rows.SignalRevertsSaid := signalReverts.proved
end Go.Proofs.YtgkjmdapodgnfaaGreat

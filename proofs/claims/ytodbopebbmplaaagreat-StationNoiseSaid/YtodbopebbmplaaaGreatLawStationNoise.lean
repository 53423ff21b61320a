/- StationNoise: the statement, out of what its law's function comes to. Conditions: none beyond those of the given statement. -/
import Derived.Test.YtodbopebbmplaaaGreatRows
import Derived.Test.YtodbopebbmplaaaGreatRunStationNoise
import Derived.Test.YtodbopebbmplaaaGreatOwnStationNoise
import Derived.Test.YtodbopebbmplaaaGreatEnds
import Derived.WalkKit
import Derived.ProofKit
import Derived.OpenShut
import Derived.ShutString
import Derived.ChangeOld
import Derived.Below
import Derived.SizedLaws
set_option linter.all false
namespace Go.Proofs.YtodbopebbmplaaaGreat.stationNoise
open Go.ChangeShapes Go.WideShapes Go.ChangeAt Go.RowKit Go.Proofs.YtodbopebbmplaaaGreat.Sep Go.Proofs.YtodbopebbmplaaaGreat.Walk
open Go.ChangeMaps (open_string shut_string)
theorem own : ownKnob Tryz.prog.godebug = none := by kernel_rfl
theorem fsl0 {W w0 w : World} {L : List As} {sz n : Nat} {v : Value} {cs : List Value} (k : Nat) (rd : rdC (old W) sz v n cs) (hs : St L w0 w) (e : L[k]? = some (old W)) : St (fsl sz v n cs :: L) w0 w :=
  hs.dup k e fun h o => by
    show seesC sz v n cs h.fz.fz
    rw [Hp.fz_fz]
    exact rd _ fun r x q => by unfold Hp.fz; rw [o r x q]
set_option maxRecDepth 100000 in
theorem lifted (os : Os) (started : os.Started) (H : Type) (enc : TypeId × Value → H) :
    ReturnsInHanded {} Tryz.checked os 4 .any (Rows.stationNoiseSpec.pre6 enc Tryz.prog Tryz.f4 Rows.stationNoiseRow.domain false) (Rows.stationNoiseSpec.post enc Tryz.prog Tryz.f4 false true false false) := by
  refine returnsInHanded_of_change_sized (C := Tryz.checked) own started (by kernel_rfl) Tryz.func4
    (ChangeSpec.witness6 (enc := enc) (C := Tryz.checked) false ⟨#[], #[.int .i64 0, .bool false, .slice none 0 0, .slice none 0 0, .int .i64 0], []⟩ 8 (by kernel_rfl) (by kernel_rfl) (by kernel_rfl) (by kernel_rfl)) ?_
  intro W base args ds gs before hval0 hW hcnd hsz0 _
  have hsz : (DataW.weightsEach Tryz.prog (Tryz.f4.params.toList ++ Rows.stationNoiseSpec.plain.varTypes Tryz.prog) (ds ++ gs)).all (· ≤ reachBytes) = true := hsz0
  have hval : ∀ (j : Nat) t v, Tryz.f4.params[j]? = some t → args[j]? = some v → Value.okWide Tryz.prog W .any base t v := hval0
  have hW' := hW
  obtain ⟨p, q, hA0, hV, rfl, hfz, hnd⟩ := hW
  have hA : DataW.TrodAll enc Tryz.prog W 0 (fun _ => true) true Tryz.f4.params.toList args.toList ds p := hA0
  rw [Tryz.params4] at hA hval hsz
  obtain ⟨v0, vs0, d0, ds0, p0, q0, hargs, rfl, rfl, h0, r0⟩ := trodAll_cons hA
  obtain ⟨v1, vs1, d1, ds1, p1, q1, rfl, rfl, rfl, h1, r1⟩ := trodAll_cons r0
  obtain ⟨v2, vs2, d2, ds2, p2, q2, rfl, rfl, rfl, h2, r2⟩ := trodAll_cons r1
  obtain ⟨v3, vs3, d3, ds3, p3, q3, rfl, rfl, rfl, h3, r3⟩ := trodAll_cons r2
  obtain ⟨v4, vs4, d4, ds4, p4, q4, rfl, rfl, rfl, h4, r4⟩ := trodAll_cons r3
  obtain ⟨rfl, rfl, rfl⟩ := trodAll_nil r4
  obtain rfl : args = #[v0, v1, v2, v3, v4] := by cases args; simp_all
  obtain ⟨rfl, rfl⟩ := trodVars_none hV
  obtain ⟨a0, rfl, rfl, rfl, w0⟩ := open_int Tryz.underlying3 (hval 0 3 v0 rfl rfl) h0
  obtain ⟨a1, rfl, rfl, rfl⟩ := open_bool Tryz.underlying4 (hval 1 4 v1 rfl rfl) h1
  have h2k := h2
  obtain ⟨sa2, sc2, a2, rfl, hr2, w2, l2⟩ := open_row Tryz.underlying32 Tryz.underlying5 (by kernel_rfl) (hval 2 32 v2 rfl rfl) h2
  have h3k := h3
  obtain ⟨sa3, sc3, a3, rfl, hr3, w3, l3⟩ := open_row Tryz.underlying32 Tryz.underlying5 (by kernel_rfl) (hval 3 32 v3 rfl rfl) h3
  obtain ⟨a4, rfl, rfl, rfl, w4⟩ := open_int Tryz.underlying3 (hval 4 3 v4 rfl rfl) h4
  clear hA0 hval0 hsz0 hsz
  obtain ⟨k, hk⟩ := StationNoise a0 a1 a2 a3 a4 w0 w2 l2 w3 l3 w4
  refine (signalmanlaw20_StationNoise.calls hk (fsl0 1 hr2 (fsl0 0 hr3 (Walk.St.begin W) rfl) rfl)).mono fun e W' he => ?_
  obtain ⟨v, rfl, rfl, hs⟩ := he
  have bel := Walk.St.below hs
  have hlt2 : ∀ x ∈ p2, x.block < W.heap.size := fun x hx => by have := hW'.lt x (by simp [hx]); simpa using this
  have hlt3 : ∀ x ∈ p3, x.block < W.heap.size := fun x hx => by have := hW'.lt x (by simp [hx]); simpa using this
  exact ⟨_, rfl, _, _, _, [], _, [], hW', trodAll_mk1 (shut_bool Tryz.underlying4 _), (trodAll_cons_mk (shut_int Tryz.underlying3 w0) (trodAll_cons_mk (shut_bool Tryz.underlying4 a1) (trodAll_cons_mk (Below.trod (by kernel_rfl) (by kernel_rfl) (of_decide_eq_true (by kernel_rfl)) h2k bel hlt2) (trodAll_cons_mk (Below.trod (by kernel_rfl) (by kernel_rfl) (of_decide_eq_true (by kernel_rfl)) h3k bel hlt3) (trodAll_cons_mk (shut_int Tryz.underlying3 w4) trodAll_mk0))))), rfl, bel.frame _, fun h => by cases h⟩
set_option maxHeartbeats 4000000 in
theorem over : Rows.stationNoiseRow.holds Tryz.pinned (OpenSpec.ofChange Rows.stationNoiseSpec) :=
  OpenClaim.holds_of_wide 4 Tryz.f4 (by as_aux_lemma => rfl) (by as_aux_lemma => rfl) (by as_aux_lemma => rfl) (by as_aux_lemma => rfl) (by as_aux_lemma => rfl) (by as_aux_lemma => rfl) (by as_aux_lemma => rfl) ⟨rfl, rfl, rfl, rfl, rfl⟩ (by as_aux_lemma => rfl) (by as_aux_lemma => rfl) (by as_aux_lemma => rfl) (by as_aux_lemma => rfl) (by as_aux_lemma => rfl) (by as_aux_lemma => kernel_rfl) Tryz.func4 (by as_aux_lemma => kernel_rfl)
    (of_decide_eq_true (by as_aux_lemma => kernel_rfl)) (by as_aux_lemma => unfold Func.isWrapper; first | (rw [if_pos (by decide +kernel)]; kernel_rfl) | (rw [if_neg (by decide +kernel)]; exact ⟨rfl, rfl⟩))
    (fun os started H enc _ => lifted os started H enc)
theorem proved : Rows.StationNoiseSaid := over
end Go.Proofs.YtodbopebbmplaaaGreat.stationNoise
namespace Go.Proofs.YtodbopebbmplaaaGreat
/-- The row, under a short name, for the claim. -/
theorem stationNoise_holds : Rows.StationNoiseSaid := stationNoise.proved
end Go.Proofs.YtodbopebbmplaaaGreat

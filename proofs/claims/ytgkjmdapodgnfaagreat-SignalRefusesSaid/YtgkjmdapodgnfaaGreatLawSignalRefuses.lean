/- SignalRefuses: the statement, out of what its law's function comes to. Conditions: none beyond those of the given statement. -/
import Derived.Test.YtgkjmdapodgnfaaGreatRows
import Derived.Test.YtgkjmdapodgnfaaGreatRunSignalRefuses
import Derived.Test.YtgkjmdapodgnfaaGreatOwnSignalRefuses
import Derived.Test.YtgkjmdapodgnfaaGreatEnds
import Derived.WalkKit
import Derived.ProofKit
import Derived.OpenShut
import Derived.ShutString
import Derived.ChangeOld
import Derived.Below
import Derived.SizedLaws
set_option linter.all false
namespace Go.Proofs.YtgkjmdapodgnfaaGreat.signalRefuses
open Go.ChangeShapes Go.WideShapes Go.ChangeAt Go.RowKit Go.Proofs.YtgkjmdapodgnfaaGreat.Sep Go.Proofs.YtgkjmdapodgnfaaGreat.Walk
open Go.ChangeMaps (open_string shut_string)
theorem own : ownKnob Tryz.prog.godebug = none := by kernel_rfl
set_option maxRecDepth 100000 in
theorem lifted (os : Os) (started : os.Started) (H : Type) (enc : TypeId × Value → H) :
    ReturnsInHanded {} Tryz.checked os 10 .any (Rows.signalRefusesSpec.pre6 enc Tryz.prog Tryz.f10 Rows.signalRefusesRow.domain false) (Rows.signalRefusesSpec.post enc Tryz.prog Tryz.f10 false true false false) := by
  refine returnsInHanded_of_change_sized (C := Tryz.checked) own started (by kernel_rfl) Tryz.func10
    (ChangeSpec.witness6 (enc := enc) (C := Tryz.checked) false ⟨#[], #[.agg #[.int .i64 0, .int .i64 0, .int .i64 0, .int .i64 0, .int .i64 0, .int .i64 0, .int .i64 0, .int .i64 0, .int .i64 0, .int .i64 0, .int .i64 0, .int .i64 0, .int .i64 0, .int .i64 0, .bool false, .bool false], .slice none 0 0, .int .i64 0], []⟩ 8 (by kernel_rfl) (by kernel_rfl) (by kernel_rfl) (by kernel_rfl)) ?_
  intro W base args ds gs before hval0 hW hcnd hsz0 _
  have hsz : (DataW.weightsEach Tryz.prog (Tryz.f10.params.toList ++ Rows.signalRefusesSpec.plain.varTypes Tryz.prog) (ds ++ gs)).all (· ≤ reachBytes) = true := hsz0
  have hval : ∀ (j : Nat) t v, Tryz.f10.params[j]? = some t → args[j]? = some v → Value.okWide Tryz.prog W .any base t v := hval0
  have hW' := hW
  obtain ⟨p, q, hA0, hV, rfl, hfz, hnd⟩ := hW
  have hA : DataW.TrodAll enc Tryz.prog W 0 (fun _ => true) true Tryz.f10.params.toList args.toList ds p := hA0
  rw [Tryz.params10] at hA hval hsz
  obtain ⟨v0, vs0, d0, ds0, p0, q0, hargs, rfl, rfl, h0, r0⟩ := trodAll_cons hA
  obtain ⟨v1, vs1, d1, ds1, p1, q1, rfl, rfl, rfl, h1, r1⟩ := trodAll_cons r0
  obtain ⟨v2, vs2, d2, ds2, p2, q2, rfl, rfl, rfl, h2, r2⟩ := trodAll_cons r1
  obtain ⟨rfl, rfl, rfl⟩ := trodAll_nil r2
  obtain rfl : args = #[v0, v1, v2] := by cases args; simp_all
  obtain ⟨rfl, rfl⟩ := trodVars_none hV
  have h0k := h0
  obtain ⟨cs0, a0, rfl, hu0, w0⟩ := open_st Tryz.underlying24 (Opens.iso (fun x => (x.Mode, (x.Modulus, (x.Window, (x.T1, (x.N2, (x.Hold, (x.Wait, (x.Keep, (x.Queue, (x.Size, (x.Ring, (x.Rate, (x.Bad, (x.Good, (x.Revert, (x.Wide, ()))))))))))))))))) (fun y => (⟨y.1, y.2.1, y.2.2.1, y.2.2.2.1, y.2.2.2.2.1, y.2.2.2.2.2.1, y.2.2.2.2.2.2.1, y.2.2.2.2.2.2.2.1, y.2.2.2.2.2.2.2.2.1, y.2.2.2.2.2.2.2.2.2.1, y.2.2.2.2.2.2.2.2.2.2.1, y.2.2.2.2.2.2.2.2.2.2.2.1, y.2.2.2.2.2.2.2.2.2.2.2.2.1, y.2.2.2.2.2.2.2.2.2.2.2.2.2.1, y.2.2.2.2.2.2.2.2.2.2.2.2.2.2.1, y.2.2.2.2.2.2.2.2.2.2.2.2.2.2.2.1⟩ : api_Config)) (fun _ => rfl) (Opens.struct Tryz.underlying24 (by kernel_rfl) (OpensF.cons rfl (by kernel_rfl) (Opens.int Tryz.underlying3) (OpensF.cons rfl (by kernel_rfl) (Opens.int Tryz.underlying3) (OpensF.cons rfl (by kernel_rfl) (Opens.int Tryz.underlying3) (OpensF.cons rfl (by kernel_rfl) (Opens.int Tryz.underlying3) (OpensF.cons rfl (by kernel_rfl) (Opens.int Tryz.underlying3) (OpensF.cons rfl (by kernel_rfl) (Opens.int Tryz.underlying3) (OpensF.cons rfl (by kernel_rfl) (Opens.int Tryz.underlying3) (OpensF.cons rfl (by kernel_rfl) (Opens.int Tryz.underlying3) (OpensF.cons rfl (by kernel_rfl) (Opens.int Tryz.underlying3) (OpensF.cons rfl (by kernel_rfl) (Opens.int Tryz.underlying3) (OpensF.cons rfl (by kernel_rfl) (Opens.int Tryz.underlying3) (OpensF.cons rfl (by kernel_rfl) (Opens.int Tryz.underlying3) (OpensF.cons rfl (by kernel_rfl) (Opens.int Tryz.underlying3) (OpensF.cons rfl (by kernel_rfl) (Opens.int Tryz.underlying3) (OpensF.cons rfl (by kernel_rfl) (Opens.bool Tryz.underlying4) (OpensF.cons rfl (by kernel_rfl) (Opens.bool Tryz.underlying4) OpensF.nil)))))))))))))))))) (hval 0 24 v0 rfl rfl) h0
  obtain ⟨hl0, _⟩ := api_Config.unpack hu0
  obtain rfl : cs0 = #[Value.int .i64 (a0.Mode), Value.int .i64 (a0.Modulus), Value.int .i64 (a0.Window), Value.int .i64 (a0.T1), Value.int .i64 (a0.N2), Value.int .i64 (a0.Hold), Value.int .i64 (a0.Wait), Value.int .i64 (a0.Keep), Value.int .i64 (a0.Queue), Value.int .i64 (a0.Size), Value.int .i64 (a0.Ring), Value.int .i64 (a0.Rate), Value.int .i64 (a0.Bad), Value.int .i64 (a0.Good), Value.bool (a0.Revert), Value.bool (a0.Wide)] := Array.toList_inj.1 hl0
  have h1k := h1
  obtain ⟨sa1, sc1, sd1, a1, rfl, hr1, ht1, w1, l1⟩ := open_rowE Tryz.underlying30 (by kernel_rfl) (Opens.iso (fun x => (x.Kind, (x.At, (x.Line, (x.N, (x.Fault, (x.B, ()))))))) (fun y => (⟨y.1, y.2.1, y.2.2.1, y.2.2.2.1, y.2.2.2.2.1, y.2.2.2.2.2.1⟩ : api_Op)) (fun _ => rfl) (Opens.struct Tryz.underlying29 (by kernel_rfl) (OpensF.cons rfl (by kernel_rfl) (Opens.int Tryz.underlying3) (OpensF.cons rfl (by kernel_rfl) (Opens.int Tryz.underlying3) (OpensF.cons rfl (by kernel_rfl) (Opens.int Tryz.underlying3) (OpensF.cons rfl (by kernel_rfl) (Opens.int Tryz.underlying3) (OpensF.cons rfl (by kernel_rfl) (Opens.int Tryz.underlying3) (OpensF.cons rfl (by kernel_rfl) (Opens.slice Tryz.underlying27 (by kernel_rfl) (Opens.int Tryz.underlying5)) OpensF.nil)))))))) (hval 1 30 v1 rfl rfl) h1
  obtain ⟨a2, rfl, rfl, rfl, w2⟩ := open_int Tryz.underlying3 (hval 2 3 v2 rfl rfl) h2
  clear hA0 hval0 hsz0 hsz
  obtain ⟨k, hk⟩ := SignalRefuses a0 a1 a2 w0 w1 l1 w2
  refine (signalmanlaw25_SignalRefuses.calls hk (Walk.St.begin W) hr1 ht1).mono fun e W' he => ?_
  obtain ⟨v, rfl, rfl, hs⟩ := he
  have bel := Walk.St.below hs
  have hlt0 : ∀ x ∈ p0, x.block < W.heap.size := fun x hx => by have := hW'.lt x (by simp [hx]); simpa using this
  have hlt1 : ∀ x ∈ p1, x.block < W.heap.size := fun x hx => by have := hW'.lt x (by simp [hx]); simpa using this
  exact ⟨_, rfl, _, _, _, [], _, [], hW', trodAll_mk1 (shut_bool Tryz.underlying4 _), (trodAll_cons_mk (Below.trod (by kernel_rfl) (by kernel_rfl) (of_decide_eq_true (by kernel_rfl)) h0k bel hlt0) (trodAll_cons_mk (Below.trod (by kernel_rfl) (by kernel_rfl) (of_decide_eq_true (by kernel_rfl)) h1k bel hlt1) (trodAll_cons_mk (shut_int Tryz.underlying3 w2) trodAll_mk0))), rfl, bel.frame _, fun h => by cases h⟩
set_option maxHeartbeats 4000000 in
theorem over : Rows.signalRefusesRow.holds Tryz.pinned (OpenSpec.ofChange Rows.signalRefusesSpec) :=
  OpenClaim.holds_of_wide 10 Tryz.f10 (by as_aux_lemma => rfl) (by as_aux_lemma => rfl) (by as_aux_lemma => rfl) (by as_aux_lemma => rfl) (by as_aux_lemma => rfl) (by as_aux_lemma => rfl) (by as_aux_lemma => rfl) ⟨rfl, rfl, rfl, rfl, rfl⟩ (by as_aux_lemma => rfl) (by as_aux_lemma => rfl) (by as_aux_lemma => rfl) (by as_aux_lemma => rfl) (by as_aux_lemma => rfl) (by as_aux_lemma => kernel_rfl) Tryz.func10 (by as_aux_lemma => kernel_rfl)
    (of_decide_eq_true (by as_aux_lemma => kernel_rfl)) (by as_aux_lemma => unfold Func.isWrapper; first | (rw [if_pos (by decide +kernel)]; kernel_rfl) | (rw [if_neg (by decide +kernel)]; exact ⟨rfl, rfl⟩))
    (fun os started H enc _ => lifted os started H enc)
theorem proved : Rows.SignalRefusesSaid := over
end Go.Proofs.YtgkjmdapodgnfaaGreat.signalRefuses
namespace Go.Proofs.YtgkjmdapodgnfaaGreat
/-- The row, under a short name, for the claim. -/
theorem signalRefuses_holds : Rows.SignalRefusesSaid := signalRefuses.proved
end Go.Proofs.YtgkjmdapodgnfaaGreat

/- WorldClean: the statement, out of what its law's function comes to. Conditions: none beyond those of the given statement. -/
import Derived.Test.YtaejcbpijdacmaaGreatRows
import Derived.Test.YtaejcbpijdacmaaGreatRunWorldClean
import Derived.Test.YtaejcbpijdacmaaGreatOwnWorldClean
import Derived.Test.YtaejcbpijdacmaaGreatEnds
import Derived.WalkKit
import Derived.ProofKit
import Derived.OpenShut
import Derived.ShutString
import Derived.ChangeOld
import Derived.Below
import Derived.SizedLaws
set_option linter.all false
namespace Go.Proofs.YtaejcbpijdacmaaGreat.worldClean
open Go.ChangeShapes Go.WideShapes Go.ChangeAt Go.RowKit Go.Proofs.YtaejcbpijdacmaaGreat.Sep Go.Proofs.YtaejcbpijdacmaaGreat.Walk
open Go.ChangeMaps (open_string shut_string)
theorem own:ownKnob Tryz.prog.godebug=none:=by kernel_rfl
set_option maxRecDepth 100000 in
theorem lifted (os:Os) (started:os.Started) (H:Type) (enc:TypeId × Value→H):
    ReturnsInHanded {} Tryz.checked os 7 .any (Rows.worldCleanSpec.pre6 enc Tryz.prog Tryz.f7 Rows.worldCleanRow.domain false) (Rows.worldCleanSpec.post enc Tryz.prog Tryz.f7 false true false false):=by
  refine returnsInHanded_of_change_sized (C:=Tryz.checked) own started (by kernel_rfl) Tryz.func7
    (ChangeSpec.witness6 (enc:=enc) (C:=Tryz.checked) false ⟨#[],#[.int .i64 0,.int .i64 0,.int .i64 0,.bool false,.slice none 0 0],[]⟩ 8 (by kernel_rfl) (by kernel_rfl) (by kernel_rfl) (by kernel_rfl)) ?_
  intro W base args ds gs before hval0 hW hcnd hsz0 _
  have hsz:(DataW.weightsEach Tryz.prog (Tryz.f7.params.toList++Rows.worldCleanSpec.plain.varTypes Tryz.prog) (ds++gs)).all (· ≤reachBytes)=true:=hsz0
  have hval:∀(j:Nat) t v,Tryz.f7.params[j]?=some t→args[j]?=some v→Value.okWide Tryz.prog W .any base t v:=hval0
  have hW':=hW
  obtain ⟨p,q,hA0,hV,rfl,hfz,hnd⟩:=hW
  have hA:DataW.TrodAll enc Tryz.prog W 0 (fun _=>true) true Tryz.f7.params.toList args.toList ds p:=hA0
  rw [Tryz.params7] at hA hval hsz
  obtain ⟨v0,vs0,d0,ds0,p0,q0,hargs,rfl,rfl,h0,r0⟩:=trodAll_cons hA
  obtain ⟨v1,vs1,d1,ds1,p1,q1,rfl,rfl,rfl,h1,r1⟩:=trodAll_cons r0
  obtain ⟨v2,vs2,d2,ds2,p2,q2,rfl,rfl,rfl,h2,r2⟩:=trodAll_cons r1
  obtain ⟨v3,vs3,d3,ds3,p3,q3,rfl,rfl,rfl,h3,r3⟩:=trodAll_cons r2
  obtain ⟨v4,vs4,d4,ds4,p4,q4,rfl,rfl,rfl,h4,r4⟩:=trodAll_cons r3
  obtain ⟨rfl,rfl,rfl⟩:=trodAll_nil r4
  obtain rfl:args=#[v0,v1,v2,v3,v4]:=by cases args;simp_all
  obtain ⟨rfl,rfl⟩:=trodVars_none hV
  obtain ⟨a0,rfl,rfl,rfl,w0⟩:=open_int Tryz.underlying3 (hval 0 3 v0 rfl rfl) h0
  obtain ⟨a1,rfl,rfl,rfl,w1⟩:=open_int Tryz.underlying3 (hval 1 3 v1 rfl rfl) h1
  obtain ⟨a2,rfl,rfl,rfl,w2⟩:=open_int Tryz.underlying3 (hval 2 3 v2 rfl rfl) h2
  obtain ⟨a3,rfl,rfl,rfl⟩:=open_bool Tryz.underlying4 (hval 3 4 v3 rfl rfl) h3
  have h4k:=h4
  obtain ⟨sa4,sc4,sd4,a4,rfl,hr4,ht4,w4,l4⟩:=open_rowE Tryz.underlying35 (by kernel_rfl) (Opens.slice Tryz.underlying48 (by kernel_rfl) (Opens.int Tryz.underlying5)) (hval 4 35 v4 rfl rfl) h4
  clear hA0 hval0 hsz0 hsz
  obtain ⟨k,hk⟩:=WorldClean a0 a1 a2 a3 a4 w0 w1 w2 w4 l4
  refine (aA.calls hk (Walk.St.begin W) hr4 ht4).mono fun e W' he=>?_
  obtain ⟨v,rfl,rfl,hs⟩:=he
  have bel:=Walk.St.below hs
  have hlt4:∀x∈p4,x.block<W.heap.size:=fun x hx=>by have:=hW'.lt x (by simp [hx]);simpa using this
  exact ⟨_,rfl,_,_,_,[],_,[],hW',trodAll_mk1 (shut_bool Tryz.underlying4 _),(trodAll_cons_mk (shut_int Tryz.underlying3 w0) (trodAll_cons_mk (shut_int Tryz.underlying3 w1) (trodAll_cons_mk (shut_int Tryz.underlying3 w2) (trodAll_cons_mk (shut_bool Tryz.underlying4 a3) (trodAll_cons_mk (Below.trod (by kernel_rfl) (by kernel_rfl) (of_decide_eq_true (by kernel_rfl)) h4k bel hlt4) trodAll_mk0))))),rfl,bel.frame _,fun h=>by cases h⟩
set_option maxHeartbeats 4000000 in
theorem over:Rows.worldCleanRow.holds Tryz.pinned (OpenSpec.ofChange Rows.worldCleanSpec):=
  OpenClaim.holds_of_wide 7 Tryz.f7 (by as_aux_lemma=>rfl) (by as_aux_lemma=>rfl) (by as_aux_lemma=>rfl) (by as_aux_lemma=>rfl) (by as_aux_lemma=>rfl) (by as_aux_lemma=>rfl) (by as_aux_lemma=>rfl) ⟨rfl,rfl,rfl,rfl,rfl⟩ (by as_aux_lemma=>rfl) (by as_aux_lemma=>rfl) (by as_aux_lemma=>rfl) (by as_aux_lemma=>rfl) (by as_aux_lemma=>rfl) (by as_aux_lemma=>kernel_rfl) Tryz.func7 (by as_aux_lemma=>kernel_rfl)
    (of_decide_eq_true (by as_aux_lemma=>kernel_rfl)) (by as_aux_lemma=>unfold Func.isWrapper;first|(rw [if_pos (by decide +kernel)];kernel_rfl)|(rw [if_neg (by decide +kernel)];exact ⟨rfl,rfl⟩))
    (fun os started H enc _=>lifted os started H enc)
theorem proved:Rows.WorldCleanSaid:=over
end Go.Proofs.YtaejcbpijdacmaaGreat.worldClean
namespace Go.Proofs.YtaejcbpijdacmaaGreat
/-- The row, under a short name, for the claim. -/
theorem worldClean_holds:Rows.WorldCleanSaid:=worldClean.proved
end Go.Proofs.YtaejcbpijdacmaaGreat

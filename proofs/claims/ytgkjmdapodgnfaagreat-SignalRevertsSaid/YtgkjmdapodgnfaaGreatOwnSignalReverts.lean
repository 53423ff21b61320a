/- SignalReverts: after a failure of the working line a link with revert is back on it when the wait is over, one without stays on the other. Conditions: none beyond those of the given statement. -/
import Derived.Test.YtgkjmdapodgnfaaGreatLibSignalReverts
import Derived.KernelRfl
set_option linter.all false
set_option maxRecDepth 100000
namespace Go.Proofs.YtgkjmdapodgnfaaGreat
open Go.RowKit Go.Proofs.YtgkjmdapodgnfaaGreat.Walk
open Aq
open Fr (By)
variable {a : arq_Arq} {C : Nat} {S : Int}
open Fr (By)
open Fr (By)
open Aq (AI big)
open Bo (BO)
namespace St
open Fr (By)
open Aq (AI big)
open Bo (BO)
theorem apass_ok (a : aps_Aps) (x y : Int) : ∃ r, aps_Aps_Pass.f a x y = some r := by
 have hof : ∀ q, ∃ r, request_Of.f q = some r := by
  intro q; unfold request_Of.f request_Of.j0
  split
  ·exact ⟨_, if_pos (Eq.refl _)⟩
  ·split <;> exact ⟨_, Eq.refl _⟩
 have j0 : ∀ (z : aps_Aps) (q : Int), ∃ r, aps_Aps_Pass.j0 z q = some r := by
  intro z q
  unfold aps_Aps_Pass.j0 request_Wins.f
  obtain ⟨r1, h1⟩ := hof q
  obtain ⟨r2, h2⟩ := hof z.remote
  rw [h1, bsome, h2, bsome, bsome]
  have hl : ∀ q, ∃ r, request_Line.f q = some r := by
   intro q; unfold request_Line.f request_Line.j0
   repeat' split
   all_goals exact ⟨_, Eq.refl _⟩
  obtain ⟨r3, h3⟩ := hl (imax r1 r2)
  rw [h3, bsome]; exact ⟨_, Eq.refl _⟩
 have hh : ∃ r, aps_Aps_held.f a x = some r := by
  unfold aps_Aps_held.f
  repeat' split
  all_goals exact ⟨_, Eq.refl _⟩
 have hl : ∀ u v w, ∃ r, request_Local.f u v w = some r := by
  intro u v w; unfold request_Local.f
  repeat' split
  all_goals exact ⟨_, Eq.refl _⟩
 have ha : ∀ z : aps_Aps, ∃ r, aps_Aps_after.f z = some r := by
  intro z; unfold aps_Aps_after.f aps_Aps_after.j0
  repeat' split
  all_goals exact ⟨_, Eq.refl _⟩
 unfold aps_Aps_Pass.f
 obtain ⟨r1, h1⟩ := hh
 obtain ⟨r2, h2⟩ := hl a.command r1.1 y
 rw [h1, bsome, h2, bsome]
 split
 ·obtain ⟨r3, h3⟩ := ha r1.2
  rw [h3, bsome]; exact j0 _ _
 ·exact j0 _ _
structure Kp (s r : station_Station) : Prop where
 c : r.c = s.c
 tw : r.twins = s.twins
 r1 : r.sides.1.reader = s.sides.1.reader
 c1 : r.sides.1.counts = s.sides.1.counts
 r2 : r.sides.2.reader = s.sides.2.reader
 c2 : r.sides.2.counts = s.sides.2.counts
def emp (a : arq_Arq) : arq_Arq := { a with out := [] }
theorem j0_ok (t21 : Int × aps_Aps) {x : station_Station} {C : Nat} {S : Int} (h : SI x C S) (hC : C + 20000 ≤ big) : ∃ r : Told × station_Station, (∀ k, C + 1400000 ≤ k → station_Station_Step.j0 k t21 x = some r) ∧ SI r.2 (C + 7001) S ∧ TD r.1 r.2 ∧ Kp x r.2 ∧ r.2.arq = emp (Aq.pass x.arq 1) := by
 have A := Aq.pass_ai h.arq (by omega) 1
 have B := Bo.pass h.arq h.bo 1
 have hb : big = 1000000000000 := Eq.refl _
 have ho := A.out
 obtain ⟨r, hr, r1, r2, r3⟩ := step_l1 t21 ((Aq.pass x.arq 1).out, emp (Aq.pass x.arq 1)) (by dsimp only; omega) B.out (C := C + 7000) (S := S) (by omega) (Aq.pass x.arq 1).out.length 0 { x with arq := emp (Aq.pass x.arq 1), line := t21.1 } ([], []) (by dsimp only; omega)
  { h.more (D := C + 7000) (by omega) with arq := Bo.outp_ai A, bo := Bo.outp B } ⟨Nat.zero_le _, Nat.zero_le _, fun _ q => (nomatch q), fun _ q => (nomatch q)⟩
 refine ⟨r, fun k hk => ?_, r1, r3, ⟨r2.c, r2.tw, r2.r1, r2.c1, r2.r2, r2.c2⟩, r2.arq⟩
 unfold station_Station_Step.j0 arq_Arq_Output.f
 rw [Aq.passes_eq h.arq (by omega) 1 (by omega), bsome, bsome]
 exact hr k (by omega)
theorem step_ok {s : station_Station} {C : Nat} {S : Int} (h : SI s C S) (hC : C + 30000 ≤ big) : ∃ r : Told × station_Station, (∀ k, C + 1500000 ≤ k → station_Station_Step.f k s = some r) ∧ SI r.2 (C + 12000) S ∧ TD r.1 r.2 ∧ Kp s r.2 ∧ (r.2.arq = emp (Aq.pass s.arq 1) ∨ r.2.arq = emp (Aq.pass (Aq.again s.arq) 1)) := by
 obtain ⟨m1, hm1, i1⟩ := Mo.mpass_ok h.one.mon
 obtain ⟨m2, hm2, i2⟩ := Mo.mpass_ok h.two.mon
 obtain ⟨p, hp⟩ := apass_ok s.aps m1.1 m2.1
 have h1 : SI { s with aps := p.2, sides := ({ s.sides.1 with monitor := m1.2 }, { s.sides.2 with monitor := m2.2 }) } C S := { h with one := { h.one with mon := i1 }, two := { h.two with mon := i2 } }
 have hj : ∀ b : Bool, ∃ r : Told × station_Station, (∀ k, C + 1500000 ≤ k → station_Station_Step.j5 k s m1 m2 p b = some r) ∧ SI r.2 (C + 12000) S ∧ TD r.1 r.2 ∧ Kp s r.2 ∧ (r.2.arq = emp (Aq.pass s.arq 1) ∨ r.2.arq = emp (Aq.pass (Aq.again s.arq) 1)) := by
  intro b
  by_cases c : b = true
  ·obtain ⟨r, hr, r1, r2, r3, r4⟩ := j0_ok p (x := { s with arq := Aq.again s.arq, aps := p.2, sides := ({ s.sides.1 with monitor := m1.2 }, { s.sides.2 with monitor := m2.2 }) }) (C := C + 4096) (S := S) { h1.more (D := C + 4096) (by omega) with arq := Aq.again_ai h.arq, bo := Bo.again h.arq h.bo } (by omega)
   refine ⟨r, fun k hk => ?_, r1.more (by omega), r2, ⟨r3.c, r3.tw, r3.r1, r3.c1, r3.r2, r3.c2⟩, .inr r4⟩
   unfold station_Station_Step.j5
   rw [if_pos c]
   refine Eq.trans (congrArg (fun z => Option.bind z _) (Aq.again_eq h.arq (by omega) (by omega) : arq_Arq_Again.f k s.arq = _)) ?_
   rw [bsome]
   exact hr k (by omega)
  ·obtain ⟨r, hr, r1, r2, r3, r4⟩ := j0_ok p h1 (by omega)
   refine ⟨r, fun k hk => ?_, r1.more (by omega), r2, ⟨r3.c, r3.tw, r3.r1, r3.c1, r3.r2, r3.c2⟩, .inl r4⟩
   unfold station_Station_Step.j5
   rw [if_neg c]
   exact hr k (by omega)
 obtain ⟨r, hr, hr'⟩ := hj (if decide (s.c.Mode = 0) = true then false else (!(decide (p.1 = s.line))))
 refine ⟨r, fun k hk => ?_, hr'⟩
 rw [← hr k hk]
 unfold station_Station_Step.f
 rw [hm1, bsome, hm2, bsome, hp, bsome, twice_eq, bsome]
 split <;> rfl
def cs (x : api_Counts) : api_Counts := { x with Twins := 0 }
structure Cm (s r : station_Station) : Prop where
 c : r.c = s.c
 r1 : r.sides.1.reader = s.sides.1.reader
 m1 : r.sides.1.monitor = s.sides.1.monitor
 g1 : r.sides.1.ring = s.sides.1.ring
 c1 : cs r.sides.1.counts = cs s.sides.1.counts
 r2 : r.sides.2.reader = s.sides.2.reader
 m2 : r.sides.2.monitor = s.sides.2.monitor
 g2 : r.sides.2.ring = s.sides.2.ring
 c2 : cs r.sides.2.counts = cs s.sides.2.counts
theorem Cm.rfl (s : station_Station) : Cm s s := by constructor <;> exact Eq.refl _
theorem kread_ok (b : List Int) : ∃ r, kcode_Read.f b = some r := by
 have j0 : ∀ x, ∃ r, kcode_Read.j0 b x = some r := by intro x; unfold kcode_Read.j0; split <;> exact ⟨_, Eq.refl _⟩
 unfold kcode_Read.f
 split
 ·exact ⟨_, Eq.refl _⟩
 ·rw [if_pos (by omega)]
  split
  ·exact j0 _
  ·rw [if_pos (by omega)]
   repeat' split
   all_goals exact j0 _
theorem came_ok {s : station_Station} {C : Nat} {S : Int} (h : SI s C S) (hC : C + 30000 ≤ big) {l : Int} (hl : l = 0 ∨ l = 1) {b : List Int} (hb : By b) (h0 : 1 ≤ b.length) (h9 : b.length ≤ 1101) :
  ∃ r, (∀ k, C + 30000 ≤ k → station_Station_came.f k s l b = some r) ∧ SI r (C + 13000) S ∧ Cm s r ∧ (r.arq = s.arq ∨ r.arq = Aq.input s.arq (b.drop 5)) := by
 have h' := h.more (D := C + 13000) (by omega)
 have same : ∃ r, (∀ k, C + 30000 ≤ k → (some s : Option station_Station) = some r) ∧ SI r (C + 13000) S ∧ Cm s r ∧ (r.arq = s.arq ∨ r.arq = Aq.input s.arq (b.drop 5)) := ⟨s, fun _ _ => Eq.refl _, h', Cm.rfl s, .inl (Eq.refl _)⟩
 have cut_ok : ∀ n : Int, 0 ≤ n → n ≤ b.length → cut b n (b.length : Int) = b.drop n.toNat := fun n q _ => Aq.cut_drop b q
 have j1 : ∀ x, ∃ r, (∀ k, C + 30000 ≤ k → station_Station_came.j1 s b x = some r) ∧ SI r (C + 13000) S ∧ Cm s r ∧ (r.arq = s.arq ∨ r.arq = Aq.input s.arq (b.drop 5)) := by
  intro x
  unfold station_Station_came.j1
  split
  ·rw [if_pos ⟨by omega, by omega, by omega⟩]
   obtain ⟨q, hq⟩ := kread_ok (cut b 1 (b.length : Int))
   rw [hq, bsome]
   split
   ·unfold aps_Aps_Remote.f request_Of.f request_Of.j0
    have fin : ∀ q : Int, ∃ r, (∀ k, C + 30000 ≤ k → some ({ s with aps := { s.aps with remote := q } } : station_Station) = some r) ∧ SI r (C + 13000) S ∧ Cm s r ∧ (r.arq = s.arq ∨ r.arq = Aq.input s.arq (b.drop 5)) :=
     fun q => ⟨_, fun _ _ => Eq.refl _, { h' with }, by constructor <;> exact Eq.refl _, .inl (Eq.refl _)⟩
    repeat' split
    all_goals first | (rw [if_pos (Eq.refl _)]; exact fin _) | exact fin _
   ·exact same
  ·exact same
 have j2 : ∀ x, station_Station_came.j2 s b x = station_Station_came.j1 s b x := fun x => Eq.refl _
 have j0 : ∀ x, 5 ≤ b.length → ∃ r, (∀ k, C + 30000 ≤ k → station_Station_came.j0 k s l b x = some r) ∧ SI r (C + 13000) S ∧ Cm s r ∧ (r.arq = s.arq ∨ r.arq = Aq.input s.arq (b.drop 5)) := by
  intro x h5
  by_cases c : x = true
  ·obtain ⟨r, hr, hr'⟩ := same
   refine ⟨r, fun k hk => ?_, hr'⟩
   unfold station_Station_came.j0
   rw [if_pos c]; exact hr k hk
  ·have key : ∀ n : Int, ∃ t : Bool × twins_Table, (∀ k, 5000 ≤ k → twins_Table_Fresh.f k s.twins n = some t) ∧ Mo.TI t.2 := fun n => Mo.fresh_ok h.tw n
   obtain ⟨t, ht, hT⟩ := key (ior .u32 (ior .u32 (ior .u32 (IntKind.u32.wrap ((IntKind.u32.wrap (b.getD (1 : Int).toNat 0)) * 2 ^ (min (24 : Int).toNat IntKind.u32.bits))) (IntKind.u32.wrap ((IntKind.u32.wrap (b.getD (2 : Int).toNat 0)) * 2 ^ (min (16 : Int).toNat IntKind.u32.bits)))) (IntKind.u32.wrap ((IntKind.u32.wrap (b.getD (3 : Int).toNat 0)) * 2 ^ (min (8 : Int).toNat IntKind.u32.bits)))) (IntKind.u32.wrap (b.getD (4 : Int).toNat 0)))
   have hd : By (b.drop 5) := fun z hz => hb z (List.mem_of_mem_drop hz)
   have ec : cut b 5 (b.length : Int) = b.drop 5 := cut_ok 5 (by omega) (by omega)
   by_cases c2 : t.1 = true
   ·refine ⟨{ s with arq := Aq.input s.arq (b.drop 5), twins := t.2 }, fun k hk => ?_, { h' with arq := Aq.input_ai h.arq hd, bo := Bo.input h.arq h.bo hd, tw := hT }, by constructor <;> exact Eq.refl _, .inr (Eq.refl _)⟩
    unfold station_Station_came.j0
    rw [if_neg c, if_pos (by omega), if_pos (by omega), if_pos (by omega), if_pos (by omega), ht k (by omega), bsome, if_pos c2, if_pos (by omega), ec, Aq.input_eq h.arq (by omega) hd (by rw [List.length_drop]; omega) (by omega), bsome]
   ·by_cases c3 : l = 0
    ·refine ⟨{ s with twins := t.2, sides := ({ s.sides.1 with counts := { s.sides.1.counts with Twins := station_one.f s.sides.1.counts.Twins } }, s.sides.2) }, fun k hk => ?_, { h' with tw := hT, one := { h.one with } }, by constructor <;> exact Eq.refl _, .inl (Eq.refl _)⟩
     unfold station_Station_came.j0
     rw [if_neg c, if_pos (by omega), if_pos (by omega), if_pos (by omega), if_pos (by omega), ht k (by omega), bsome, if_neg c2, if_pos (by omega), if_pos c3]
    ·refine ⟨{ s with twins := t.2, sides := (s.sides.1, { s.sides.2 with counts := { s.sides.2.counts with Twins := station_one.f s.sides.2.counts.Twins } }) }, fun k hk => ?_, { h' with tw := hT, two := { h.two with } }, by constructor <;> exact Eq.refl _, .inl (Eq.refl _)⟩
     unfold station_Station_came.j0
     rw [if_neg c, if_pos (by omega), if_pos (by omega), if_pos (by omega), if_pos (by omega), ht k (by omega), bsome, if_neg c2, if_pos (by omega), if_neg c3]
 have head : ∀ k, station_Station_came.f k s l b = if b.getD (0 : Int).toNat 0 = 0 ∧ 5 ≤ b.length then station_Station_came.j0 k s l b (if decide (s.c.Mode = 0) = true then false else !(decide (l = s.aps.line))) else station_Station_came.j1 s b (if b.getD (0 : Int).toNat 0 = 1 then decide (l = 1) else false) := by
  intro k
  unfold station_Station_came.f
  rw [if_pos (by omega)]
  by_cases c1 : b.getD (0 : Int).toNat 0 = 0
  ·rw [if_pos c1]
   by_cases c2 : 5 ≤ b.length
   ·rw [if_pos (by omega), if_pos ⟨c1, c2⟩, twice_eq, bsome]
    unfold aps_Aps_Line.f
    rw [bsome]
    split <;> rfl
   ·rw [if_neg (show ¬ (b.length : Int) ≥ 5 by omega), if_neg (show ¬ b.getD (0 : Int).toNat 0 = 1 by omega), if_neg (fun q : _ ∧ 5 ≤ b.length => c2 q.2), if_neg (show ¬ b.getD (0 : Int).toNat 0 = 1 by omega)]
  ·rw [if_neg c1, if_neg (fun q : b.getD (0 : Int).toNat 0 = 0 ∧ _ => c1 q.1)]
   by_cases c3 : b.getD (0 : Int).toNat 0 = 1
   ·rw [if_pos c3, if_pos c3, j2]
   ·rw [if_neg c3, if_neg c3, j2]
 by_cases c : b.getD (0 : Int).toNat 0 = 0 ∧ 5 ≤ b.length
 ·obtain ⟨r, hr, hr'⟩ := j0 (if decide (s.c.Mode = 0) = true then false else !(decide (l = s.aps.line))) c.2
  exact ⟨r, fun k hk => by rw [head, if_pos c]; exact hr k hk, hr'⟩
 ·obtain ⟨r, hr, hr'⟩ := j1 (if b.getD (0 : Int).toNat 0 = 1 then decide (l = 1) else false)
  exact ⟨r, fun k hk => by rw [head, if_neg c]; exact hr k hk, hr'⟩
def tick (x : Int) (c : api_Counts) : api_Counts :=
 if x = 1 then { c with Good := station_one.f c.Good } else if x = 2 then { c with Runts := station_one.f c.Runts } else if x = 4 then { c with Bad := station_one.f c.Bad }
 else if x = 3 then { c with Giants := station_one.f c.Giants } else if x = 5 then { c with Aborts := station_one.f c.Aborts } else c
theorem push0 {s : station_Station} {C : Nat} {S : Int} (h : SI s C S) (hC : C + 30000 ≤ big) {c : Int} (hc : 0 ≤ c ∧ c < 256) :
  ∃ t : Int × List Int × station_Station, (∀ k, C + 100000 ≤ k → station_Station_Push.f k s 0 c = some t) ∧ SI t.2.2 (C + 13000) S ∧ (0 ≤ t.1 ∧ t.1 ≤ 5) ∧ cs t.2.2.sides.1.counts = cs (tick t.1 s.sides.1.counts) ∧ cs t.2.2.sides.2.counts = cs s.sides.2.counts ∧ t.2.2.c = s.c ∧ t.2.2.sides.1.ring = s.sides.1.ring ∧ t.2.2.sides.2.ring = s.sides.2.ring ∧ (t.2.2.arq = s.arq ∨ ∃ b, t.2.2.arq = Aq.input s.arq b ∧ By b) := by
 obtain ⟨x, hx, x1, x2, x3, x4, x5, x6, x7⟩ := Fr.push_ok h.one.reader hc
 have h' := h.more (D := C + 13000) (by omega)
 have hm := h.one.short
 have sh : x.2.2.most ≤ 1100 := by omega
 have hf : station_has.f 0 = some true := Eq.refl _
 obtain ⟨mT, hmT, iT⟩ := Mo.mnote_ok h.one.mon true
 obtain ⟨mF, hmF, iF⟩ := Mo.mnote_ok h.one.mon false
 have head : ∀ k, 70000 ≤ k → station_Station_Push.f k s 0 c = (if x.1 = 1 then ((monitor_Monitor_Note.f s.sides.1.monitor true).bind fun t12 => (station_Station_came.f k { s with sides := ({ s.sides.1 with reader := x.2.2, monitor := t12.2, counts := { s.sides.1.counts with Good := station_one.f s.sides.1.counts.Good } }, s.sides.2) } 0 x.2.1).bind fun t14 => some (x.1, x.2.1, t14)) else if x.1 = 2 then some (x.1, x.2.1, { s with sides := ({ s.sides.1 with reader := x.2.2, counts := { s.sides.1.counts with Runts := station_one.f s.sides.1.counts.Runts } }, s.sides.2) })
   else if x.1 = 4 then ((monitor_Monitor_Note.f s.sides.1.monitor false).bind fun t18 => some (x.1, x.2.1, { s with sides := ({ s.sides.1 with reader := x.2.2, monitor := t18.2, counts := { s.sides.1.counts with Bad := station_one.f s.sides.1.counts.Bad } }, s.sides.2) })) else if x.1 = 3 then ((monitor_Monitor_Note.f s.sides.1.monitor false).bind fun t18 => some (x.1, x.2.1, { s with sides := ({ s.sides.1 with reader := x.2.2, monitor := t18.2, counts := { s.sides.1.counts with Giants := station_one.f s.sides.1.counts.Giants } }, s.sides.2) }))
   else if x.1 = 5 then ((monitor_Monitor_Note.f s.sides.1.monitor false).bind fun t18 => some (x.1, x.2.1, { s with sides := ({ s.sides.1 with reader := x.2.2, monitor := t18.2, counts := { s.sides.1.counts with Aborts := station_one.f s.sides.1.counts.Aborts } }, s.sides.2) })) else some (x.1, x.2.1, { s with sides := ({ s.sides.1 with reader := x.2.2 }, s.sides.2) })) := by
  intro k hk
  unfold station_Station_Push.f
  rw [hf, bsome, if_pos (Eq.refl _), if_pos (by decide), if_pos (Eq.refl _), hx k hk, bsome]
 have hring : ∀ t : station_Station, t.sides.1.ring = s.sides.1.ring → True := fun _ _ => trivial
 by_cases c1 : x.1 = 1
 ·obtain ⟨r, hr, r1, r2, r3⟩ := came_ok (s := { s with sides := ({ s.sides.1 with reader := x.2.2, monitor := mT.2, counts := { s.sides.1.counts with Good := station_one.f s.sides.1.counts.Good } }, s.sides.2) }) (C := C) (S := S) { h with one := { h.one with reader := x1, short := sh, mon := iT } } hC (l := 0) (by decide) x5 (x6 c1) (by omega)
  refine ⟨(x.1, x.2.1, r), fun k hk => ?_, r1, x4, r2.c1.trans ?_, r2.c2, r2.c, r2.g1, r2.g2, r3.imp id fun q => ⟨_, q, fun z hz => x5 z (List.mem_of_mem_drop hz)⟩⟩
  ·rw [head k (by omega), if_pos c1, hmT, bsome, hr k (by omega), bsome]
  ·dsimp only; unfold tick; rw [if_pos c1]
 by_cases c2 : x.1 = 2
 ·refine ⟨(x.1, x.2.1, { s with sides := ({ s.sides.1 with reader := x.2.2, counts := { s.sides.1.counts with Runts := station_one.f s.sides.1.counts.Runts } }, s.sides.2) }), fun k hk => by rw [head k (by omega), if_neg c1, if_pos c2], { h' with one := { h'.one with reader := x1, short := sh } }, x4, ?_, Eq.refl _, Eq.refl _, Eq.refl _, Eq.refl _, .inl (Eq.refl _)⟩
  dsimp only; unfold tick; rw [if_neg c1, if_pos c2]
 by_cases c4 : x.1 = 4
 ·refine ⟨(x.1, x.2.1, { s with sides := ({ s.sides.1 with reader := x.2.2, monitor := mF.2, counts := { s.sides.1.counts with Bad := station_one.f s.sides.1.counts.Bad } }, s.sides.2) }), fun k hk => by rw [head k (by omega), if_neg c1, if_neg c2, if_pos c4, hmF, bsome], { h' with one := { h'.one with reader := x1, short := sh, mon := iF } }, x4, ?_, Eq.refl _, Eq.refl _, Eq.refl _, Eq.refl _, .inl (Eq.refl _)⟩
  dsimp only; unfold tick; rw [if_neg c1, if_neg c2, if_pos c4]
 by_cases c3 : x.1 = 3
 ·refine ⟨(x.1, x.2.1, { s with sides := ({ s.sides.1 with reader := x.2.2, monitor := mF.2, counts := { s.sides.1.counts with Giants := station_one.f s.sides.1.counts.Giants } }, s.sides.2) }), fun k hk => by rw [head k (by omega), if_neg c1, if_neg c2, if_neg c4, if_pos c3, hmF, bsome], { h' with one := { h'.one with reader := x1, short := sh, mon := iF } }, x4, ?_, Eq.refl _, Eq.refl _, Eq.refl _, Eq.refl _, .inl (Eq.refl _)⟩
  dsimp only; unfold tick; rw [if_neg c1, if_neg c2, if_neg c4, if_pos c3]
 by_cases c5 : x.1 = 5
 ·refine ⟨(x.1, x.2.1, { s with sides := ({ s.sides.1 with reader := x.2.2, monitor := mF.2, counts := { s.sides.1.counts with Aborts := station_one.f s.sides.1.counts.Aborts } }, s.sides.2) }), fun k hk => by rw [head k (by omega), if_neg c1, if_neg c2, if_neg c4, if_neg c3, if_pos c5, hmF, bsome], { h' with one := { h'.one with reader := x1, short := sh, mon := iF } }, x4, ?_, Eq.refl _, Eq.refl _, Eq.refl _, Eq.refl _, .inl (Eq.refl _)⟩
  dsimp only; unfold tick; rw [if_neg c1, if_neg c2, if_neg c4, if_neg c3, if_pos c5]
 ·refine ⟨(x.1, x.2.1, { s with sides := ({ s.sides.1 with reader := x.2.2 }, s.sides.2) }), fun k hk => by rw [head k (by omega), if_neg c1, if_neg c2, if_neg c4, if_neg c3, if_neg c5], { h' with one := { h'.one with reader := x1, short := sh } }, x4, ?_, Eq.refl _, Eq.refl _, Eq.refl _, Eq.refl _, .inl (Eq.refl _)⟩
  dsimp only; unfold tick; rw [if_neg c1, if_neg c2, if_neg c4, if_neg c3, if_neg c5]
theorem push1 {s : station_Station} {C : Nat} {S : Int} (h : SI s C S) (hC : C + 30000 ≤ big) {c : Int} (hc : 0 ≤ c ∧ c < 256) :
  ∃ t : Int × List Int × station_Station, (∀ k, C + 100000 ≤ k → station_Station_Push.f k s 1 c = some t) ∧ SI t.2.2 (C + 13000) S ∧ (0 ≤ t.1 ∧ t.1 ≤ 5) ∧ cs t.2.2.sides.2.counts = cs (tick t.1 s.sides.2.counts) ∧ cs t.2.2.sides.1.counts = cs s.sides.1.counts ∧ t.2.2.c = s.c ∧ t.2.2.sides.1.ring = s.sides.1.ring ∧ t.2.2.sides.2.ring = s.sides.2.ring ∧ (t.2.2.arq = s.arq ∨ ∃ b, t.2.2.arq = Aq.input s.arq b ∧ By b) := by
 obtain ⟨x, hx, x1, x2, x3, x4, x5, x6, x7⟩ := Fr.push_ok h.two.reader hc
 have h' := h.more (D := C + 13000) (by omega)
 have hm := h.two.short
 have sh : x.2.2.most ≤ 1100 := by omega
 have hf : station_has.f 1 = some true := Eq.refl _
 obtain ⟨mT, hmT, iT⟩ := Mo.mnote_ok h.two.mon true
 obtain ⟨mF, hmF, iF⟩ := Mo.mnote_ok h.two.mon false
 have head : ∀ k, 70000 ≤ k → station_Station_Push.f k s 1 c = (if x.1 = 1 then ((monitor_Monitor_Note.f s.sides.2.monitor true).bind fun t12 => (station_Station_came.f k { s with sides := (s.sides.1, { s.sides.2 with reader := x.2.2, monitor := t12.2, counts := { s.sides.2.counts with Good := station_one.f s.sides.2.counts.Good } }) } 1 x.2.1).bind fun t14 => some (x.1, x.2.1, t14)) else if x.1 = 2 then some (x.1, x.2.1, { s with sides := (s.sides.1, { s.sides.2 with reader := x.2.2, counts := { s.sides.2.counts with Runts := station_one.f s.sides.2.counts.Runts } }) })
   else if x.1 = 4 then ((monitor_Monitor_Note.f s.sides.2.monitor false).bind fun t18 => some (x.1, x.2.1, { s with sides := (s.sides.1, { s.sides.2 with reader := x.2.2, monitor := t18.2, counts := { s.sides.2.counts with Bad := station_one.f s.sides.2.counts.Bad } }) })) else if x.1 = 3 then ((monitor_Monitor_Note.f s.sides.2.monitor false).bind fun t18 => some (x.1, x.2.1, { s with sides := (s.sides.1, { s.sides.2 with reader := x.2.2, monitor := t18.2, counts := { s.sides.2.counts with Giants := station_one.f s.sides.2.counts.Giants } }) }))
   else if x.1 = 5 then ((monitor_Monitor_Note.f s.sides.2.monitor false).bind fun t18 => some (x.1, x.2.1, { s with sides := (s.sides.1, { s.sides.2 with reader := x.2.2, monitor := t18.2, counts := { s.sides.2.counts with Aborts := station_one.f s.sides.2.counts.Aborts } }) })) else some (x.1, x.2.1, { s with sides := (s.sides.1, { s.sides.2 with reader := x.2.2 }) })) := by
  intro k hk
  unfold station_Station_Push.f
  rw [hf, bsome, if_pos (Eq.refl _), if_pos (by decide), if_neg (by decide), hx k hk, bsome]
 have hring : ∀ t : station_Station, t.sides.1.ring = s.sides.1.ring → True := fun _ _ => trivial
 by_cases c1 : x.1 = 1
 ·obtain ⟨r, hr, r1, r2, r3⟩ := came_ok (s := { s with sides := (s.sides.1, { s.sides.2 with reader := x.2.2, monitor := mT.2, counts := { s.sides.2.counts with Good := station_one.f s.sides.2.counts.Good } }) }) (C := C) (S := S) { h with two := { h.two with reader := x1, short := sh, mon := iT } } hC (l := 1) (by decide) x5 (x6 c1) (by omega)
  refine ⟨(x.1, x.2.1, r), fun k hk => ?_, r1, x4, r2.c2.trans ?_, r2.c1, r2.c, r2.g1, r2.g2, r3.imp id fun q => ⟨_, q, fun z hz => x5 z (List.mem_of_mem_drop hz)⟩⟩
  ·rw [head k (by omega), if_pos c1, hmT, bsome, hr k (by omega), bsome]
  ·dsimp only; unfold tick; rw [if_pos c1]
 by_cases c2 : x.1 = 2
 ·refine ⟨(x.1, x.2.1, { s with sides := (s.sides.1, { s.sides.2 with reader := x.2.2, counts := { s.sides.2.counts with Runts := station_one.f s.sides.2.counts.Runts } }) }), fun k hk => by rw [head k (by omega), if_neg c1, if_pos c2], { h' with two := { h'.two with reader := x1, short := sh } }, x4, ?_, Eq.refl _, Eq.refl _, Eq.refl _, Eq.refl _, .inl (Eq.refl _)⟩
  dsimp only; unfold tick; rw [if_neg c1, if_pos c2]
 by_cases c4 : x.1 = 4
 ·refine ⟨(x.1, x.2.1, { s with sides := (s.sides.1, { s.sides.2 with reader := x.2.2, monitor := mF.2, counts := { s.sides.2.counts with Bad := station_one.f s.sides.2.counts.Bad } }) }), fun k hk => by rw [head k (by omega), if_neg c1, if_neg c2, if_pos c4, hmF, bsome], { h' with two := { h'.two with reader := x1, short := sh, mon := iF } }, x4, ?_, Eq.refl _, Eq.refl _, Eq.refl _, Eq.refl _, .inl (Eq.refl _)⟩
  dsimp only; unfold tick; rw [if_neg c1, if_neg c2, if_pos c4]
 by_cases c3 : x.1 = 3
 ·refine ⟨(x.1, x.2.1, { s with sides := (s.sides.1, { s.sides.2 with reader := x.2.2, monitor := mF.2, counts := { s.sides.2.counts with Giants := station_one.f s.sides.2.counts.Giants } }) }), fun k hk => by rw [head k (by omega), if_neg c1, if_neg c2, if_neg c4, if_pos c3, hmF, bsome], { h' with two := { h'.two with reader := x1, short := sh, mon := iF } }, x4, ?_, Eq.refl _, Eq.refl _, Eq.refl _, Eq.refl _, .inl (Eq.refl _)⟩
  dsimp only; unfold tick; rw [if_neg c1, if_neg c2, if_neg c4, if_pos c3]
 by_cases c5 : x.1 = 5
 ·refine ⟨(x.1, x.2.1, { s with sides := (s.sides.1, { s.sides.2 with reader := x.2.2, monitor := mF.2, counts := { s.sides.2.counts with Aborts := station_one.f s.sides.2.counts.Aborts } }) }), fun k hk => by rw [head k (by omega), if_neg c1, if_neg c2, if_neg c4, if_neg c3, if_pos c5, hmF, bsome], { h' with two := { h'.two with reader := x1, short := sh, mon := iF } }, x4, ?_, Eq.refl _, Eq.refl _, Eq.refl _, Eq.refl _, .inl (Eq.refl _)⟩
  dsimp only; unfold tick; rw [if_neg c1, if_neg c2, if_neg c4, if_neg c3, if_pos c5]
 ·refine ⟨(x.1, x.2.1, { s with sides := (s.sides.1, { s.sides.2 with reader := x.2.2 }) }), fun k hk => by rw [head k (by omega), if_neg c1, if_neg c2, if_neg c4, if_neg c3, if_neg c5], { h' with two := { h'.two with reader := x1, short := sh } }, x4, ?_, Eq.refl _, Eq.refl _, Eq.refl _, Eq.refl _, .inl (Eq.refl _)⟩
  dsimp only; unfold tick; rw [if_neg c1, if_neg c2, if_neg c4, if_neg c3, if_neg c5]
theorem status_eq (s : station_Station) : station_Station_Status.f s = some { State := s.arq.state, Line := if s.c.Mode = 0 then 0 else s.aps.line, Lines := (s.sides.1.monitor.state, s.sides.2.monitor.state), Sent := s.arq.sent, Acked := s.arq.acked, Lost := s.arq.lost } := by
 unfold station_Station_Status.f station_Station_Status.j0 station_Station_Status.j1 arq_Arq_State.f aps_Aps_Line.f arq_Arq_Counts.f monitor_Monitor_State.f
 rw [bsome, bsome, twice_eq, bsome]
 by_cases c : s.c.Mode = 0
 ·rw [decide_eq_true c, if_pos (Eq.refl _), if_pos c]; rfl
 ·rw [decide_eq_false c, if_neg (by simp), if_neg c]; rfl
end St
namespace St
open Fr (By)
open Aq (AI big)
open Bo (BO)
def wn (n l h : Int) : Bool := decide (l ≤ n) && decide (n ≤ h)
theorem within_eq (n l h : Int) : shape_within.f n l h = some (wn n l h) := by
 unfold shape_within.f wn
 by_cases c : n ≥ l
 ·rw [if_pos c, decide_eq_true (show l ≤ n from c)]; rfl
 ·rw [if_neg c, decide_eq_false (show ¬ l ≤ n from c)]; rfl
def mostR (c : api_Config) : Int := w64 ((w64 (2 * (w64 ((imax (1) (imin c.Size (1000))) + 16)))) + 2)
def okB (c : api_Config) : Bool :=
 ((c.Mode == 0 || c.Mode == 1) && (c.Modulus == 128 || c.Modulus == 32768)) &&
 (wn c.T1 1 1048576 && wn c.N2 1 100 && wn c.Hold 0 1048576 && wn c.Wait 1 1048576 && wn c.Keep 1 65536) &&
 (wn c.Window 1 (w64 (c.Modulus.tdiv 8)) && wn c.Queue 0 1000 && wn c.Size 1 1000 && wn c.Rate 1 4096 && wn c.Ring (mostR c) 1048576) &&
 (wn c.Bad 1 16 && wn c.Good 1 16) && decide (w64 (c.Keep * c.Rate) ≥ 32)
theorem check_eq (c : api_Config) : shape_Check.f c = some (if okB c = true then 0 else 1) := by
 have h4 : ∀ x, shape_Check.j4 x = some (if x = true then 0 else 1) := by intro x; unfold shape_Check.j4; cases x <;> rfl
 have h3 : ∀ a b d e, shape_Check.j3 c a b d e = some (if (a && b && d && e && decide (w64 (c.Keep * c.Rate) ≥ 32)) = true then 0 else 1) := by
  intro a b d e; unfold shape_Check.j3; simp only [h4]; cases a <;> cases b <;> cases d <;> cases e <;> rfl
 have h2 : ∀ a b d, shape_Check.j2 c a b d = some (if (a && b && d && (wn c.Bad 1 16 && wn c.Good 1 16) && decide (w64 (c.Keep * c.Rate) ≥ 32)) = true then 0 else 1) := by
  intro a b d; unfold shape_Check.j2; simp only [within_eq, h3, bsome]; cases wn c.Bad 1 16 <;> cases wn c.Good 1 16 <;> rfl
 have h1 : ∀ a b, shape_Check.j1 c a b = some (if (a && b && (wn c.Window 1 (w64 (c.Modulus.tdiv 8)) && wn c.Queue 0 1000 && wn c.Size 1 1000 && wn c.Rate 1 4096 && wn c.Ring (mostR c) 1048576) && (wn c.Bad 1 16 && wn c.Good 1 16) && decide (w64 (c.Keep * c.Rate) ≥ 32)) = true then 0 else 1) := by
  intro a b; unfold shape_Check.j1 shape_Most.f; simp only [within_eq, h2, bsome]
  cases wn c.Window 1 (w64 (c.Modulus.tdiv 8)) <;> cases wn c.Queue 0 1000 <;> cases wn c.Size 1 1000 <;> cases wn c.Rate 1 4096 <;> rfl
 have h0 : ∀ a, shape_Check.j0 c a = some (if (a && (wn c.T1 1 1048576 && wn c.N2 1 100 && wn c.Hold 0 1048576 && wn c.Wait 1 1048576 && wn c.Keep 1 65536) && (wn c.Window 1 (w64 (c.Modulus.tdiv 8)) && wn c.Queue 0 1000 && wn c.Size 1 1000 && wn c.Rate 1 4096 && wn c.Ring (mostR c) 1048576) && (wn c.Bad 1 16 && wn c.Good 1 16) && decide (w64 (c.Keep * c.Rate) ≥ 32)) = true then 0 else 1) := by
  intro a; unfold shape_Check.j0; simp only [within_eq, h1, bsome]
  cases wn c.T1 1 1048576 <;> cases wn c.N2 1 100 <;> cases wn c.Hold 0 1048576 <;> cases wn c.Wait 1 1048576 <;> rfl
 unfold shape_Check.f okB
 simp only [h0]
 by_cases m0 : c.Mode = 0
 ·by_cases m1 : c.Modulus = 128 <;> simp [m0, m1]
 ·by_cases m2 : c.Mode = 1
  ·by_cases m1 : c.Modulus = 128 <;> simp [m2, m1]
  ·simp [m0, m2]
structure Ok (c : api_Config) : Prop where
 mode : c.Mode = 0 ∨ c.Mode = 1
 mod : c.Modulus = 128 ∨ c.Modulus = 32768
 t1 : 1 ≤ c.T1 ∧ c.T1 ≤ 1048576
 n2 : 1 ≤ c.N2 ∧ c.N2 ≤ 100
 hold : 0 ≤ c.Hold ∧ c.Hold ≤ 1048576
 wait : 1 ≤ c.Wait ∧ c.Wait ≤ 1048576
 keep : 1 ≤ c.Keep ∧ c.Keep ≤ 65536
 win : 1 ≤ c.Window ∧ c.Window ≤ w64 (c.Modulus.tdiv 8)
 que : 0 ≤ c.Queue ∧ c.Queue ≤ 1000
 size : 1 ≤ c.Size ∧ c.Size ≤ 1000
 rate : 1 ≤ c.Rate ∧ c.Rate ≤ 4096
 ring : mostR c ≤ c.Ring ∧ c.Ring ≤ 1048576
 bad : 1 ≤ c.Bad ∧ c.Bad ≤ 16
 good : 1 ≤ c.Good ∧ c.Good ≤ 16
theorem ok_of {c : api_Config} (h : okB c = true) : Ok c := by
 unfold okB wn at h
 simp only [Bool.and_eq_true, Bool.or_eq_true, beq_iff_eq, decide_eq_true_eq] at h
 obtain ⟨⟨⟨⟨⟨m1, m2⟩, ⟨⟨⟨a1, a2⟩, a3⟩, a4⟩, a5⟩, ⟨⟨⟨b1, b2⟩, b3⟩, b4⟩, b5⟩, c1, c2⟩, _⟩ := h
 exact ⟨m1, m2, a1, a2, a3, a4, a5, b1, b2, b3, b4, b5, c1, c2⟩
def cnt0 : api_Counts := { Good := 0, Bad := 0, Aborts := 0, Runts := 0, Giants := 0, Dropped := 0, Twins := 0 }
theorem new_no {c : api_Config} (h : okB c ≠ true) (k : Nat) : station_New.f k c = some (none, 1) := by
 unfold station_New.f
 rw [check_eq, if_neg h, bsome, if_neg (by decide)]
theorem clampI {n a b : Int} (h : a ≤ n ∧ n ≤ b) : imax a (imin n b) = n := by unfold imax imin; (repeat' split) <;> omega
theorem new_ok {c : api_Config} (h : okB c = true) : ∃ s : station_Station, (∀ k, 1000 ≤ k → station_New.f k c = some (some s, 0)) ∧ SI s 0 0 ∧ s.c = c ∧ s.sides.1.counts = cnt0 ∧ s.sides.2.counts = cnt0 ∧ s.sides.1.ring.b = [] ∧ s.sides.2.ring.b = [] ∧
  s.arq = Aq.anew c.Modulus c.T1 c.N2 c.Size c.Window c.Queue := by
 have o := ok_of h
 have hz := o.size
 obtain ⟨t, ht, hT⟩ := Mo.tnew_ok (imin (w64 (c.Modulus.tdiv (2))) (1024))
 have e11 : w64 (c.Size + 11) = c.Size + 11 := w64_in ⟨by omega, by omega⟩
 obtain ⟨f, hf, hF, hM⟩ := Fr.new_ok (c.Size + 11) c.Wide (by omega)
 obtain ⟨m, hm, hMI⟩ := Mo.mnew_ok c.Bad c.Good (w64 (3 * c.Keep))
 obtain ⟨g, hg, hG, hG0⟩ := Mo.gnew_ok c.Ring
 have hmod : (if c.Modulus = 32768 then 32768 else 128 : Int) = c.Modulus := by have := o.mod; split <;> omega
 have hwin : c.Window ≤ c.Modulus / 8 := by
  have := o.win
  rcases o.mod with e | e <;> rw [e] at this ⊢ <;> exact this.2
 have ha : arq_New.f c = some (Aq.anew c.Modulus c.T1 c.N2 c.Size c.Window c.Queue) := by
  rw [Aq.new_eq, hmod, clampI o.t1, clampI o.n2, clampI o.size, clampI o.que, clampI ⟨o.win.1, hwin⟩]
 refine ⟨{ c := c, arq := Aq.anew c.Modulus c.T1 c.N2 c.Size c.Window c.Queue, aps := { hold := imax (0) (imin c.Hold (1048576)), wait := imax (1) (imin c.Wait (1048576)), revert := c.Revert, command := 0, remote := 0, own := 0, bad := 0, left := 0, line := 0 }, twins := t, number := 0, steps := 0, line := 0, sides := ({ reader := f, monitor := m, ring := g, counts := cnt0 }, { reader := f, monitor := m, ring := g, counts := cnt0 }) }, fun k hk => ?_, ?_, Eq.refl _, Eq.refl _, Eq.refl _, hG0, hG0, Eq.refl _⟩
 ·unfold station_New.f aps_New.f
  rw [check_eq, if_pos h, bsome, if_pos (Eq.refl _), ha, bsome, bsome, ht, bsome, e11, hf k (by omega), bsome, hm, bsome, hg, bsome, bsome, bsome, bsome]
  rfl
 ·have hr : f.most ≤ 1100 := by have := hM (by omega); omega
  exact ⟨o.keep, Aq.anew_ai o.mod o.t1 o.n2 o.size ⟨o.win.1, hwin⟩ o.que, Bo.new _ _ _ _ _ _, hT, by dsimp only; omega, by dsimp only; omega, ⟨hF, hr, hMI, hG⟩, ⟨hF, hr, hMI, hG⟩⟩
end St
namespace Po
open Aq
def pot (a : arq_Arq) : Nat := a.inds.length + (a.order.kept.length + a.order.ready.length)
variable {a : arq_Arq} {C : Nat}
theorem ind (n : Int) : pot (tellInd a n) = pot a + 1 := by unfold pot; show (a.inds ++ [n]).length + (a.order.kept.length + a.order.ready.length) = _; rw [List.length_append]; simp; omega
theorem frsh (st : Int) : pot (fresh a st) ≤ pot a := by unfold pot; show a.inds.length + (0 + a.order.ready.length) ≤ _; omega
theorem aend : pot (Aq.aend a) ≤ pot a + 1 := by unfold Aq.aend; rw [ind]; have := frsh (a := a) 0; omega
theorem out1 : pot (Aq.out1 a) = pot a := by unfold Aq.out1; show pot (if run a > 0 then _ else _) = _; split <;> rfl
theorem pumpL : ∀ (d : Nat) {a : arq_Arq}, pot (Aq.pumpL d a) = pot a
 | 0, _ => rfl
 | d + 1, a => by
  rw [Aq.pumpL]
  split
  ·rw [pumpL d, out1]
  ·rfl
theorem pump : pot (Aq.pump a) = pot a := by unfold Aq.pump; split; exact pumpL _; rfl
theorem resend : pot (Aq.resend a) = pot a := by unfold Aq.resend; split <;> rfl
theorem ackd (k : Int) : pot (Aq.ackd a k) = pot a := by unfold Aq.ackd; show pot (if a.log.out - k > 0 then _ else _) = _; split <;> rfl
theorem acknow (nr : Int) : pot (Aq.acknow a nr).2 = pot a := by
 unfold Aq.acknow
 by_cases c : ackOk a nr
 ·rw [if_pos c]
  dsimp only
  split
  ·rfl
  ·exact ackd _
 ·rw [if_neg c]
theorem answer (p : Bool) : pot (Aq.answer a p) = pot a := by unfold Aq.answer; split <;> rfl
theorem put (h : AI a C) (n : Int) (b : List Int) : pot (Aq.put a n b) ≤ pot a + 1 := by
 have o : Or.OI a.order (a.order.kept.length + a.order.ready.length) := ⟨h.ord.hm, h.ord.hwin, h.ord.hnext, Nat.le_refl _⟩
 have := (Or.put_oi o n b).held
 unfold pot Aq.put
 dsimp only
 omega
theorem come (h : AI a C) (c : api_Ctl) (b : List Int) : pot (Aq.come a c b) ≤ pot a + 1 := by unfold Aq.come; rw [answer]; exact put h _ _
theorem numbered (h : AI a C) (t : Int) (c : api_Ctl) (b : List Int) : pot (Aq.numbered a t c b) ≤ pot a + 1 := by
 unfold Aq.numbered
 split
 ·exact Nat.le_succ _
 split
 ·split
  ·exact aend (a := Aq.say a a.tag (ct 7 0 0 false) [])
  ·have A1 := acknow_ai h c.Nr
   have A2 : ∃ D, AI (if (Aq.acknow a c.Nr).1 = true ∧ c.Kind = 2 then Aq.resend (Aq.acknow a c.Nr).2 else (Aq.acknow a c.Nr).2) D := by split; exact ⟨_, resend_ai A1⟩; exact ⟨_, A1⟩
   have P2 : pot (if (Aq.acknow a c.Nr).1 = true ∧ c.Kind = 2 then Aq.resend (Aq.acknow a c.Nr).2 else (Aq.acknow a c.Nr).2) = pot a := by split; rw [resend, acknow]; rw [acknow]
   obtain ⟨D, A2⟩ := A2
   rw [pump]
   dsimp only
   split
   ·have := come A2 c b; omega
   ·omega
 ·exact Nat.le_succ _
theorem accept (t : Int) (p : Bool) : pot (Aq.accept a t p) ≤ pot a + 1 := by unfold Aq.accept; rw [ind]; exact Nat.succ_le_succ (frsh (a := a) 2)
theorem asked (t : Int) (p : Bool) : pot (Aq.asked a t p) ≤ pot a + 1 := by
 unfold Aq.asked
 repeat' split
 all_goals first | exact accept _ _ | exact Nat.le_succ _
theorem accepted : pot (Aq.accepted a) ≤ pot a + 1 := by
 unfold Aq.accepted
 split
 ·rw [pump, ind]; exact Nat.le_refl _
 split
 ·exact aend
 ·exact Nat.le_succ _
theorem closed (t : Int) (p : Bool) : pot (Aq.closed a t p) ≤ pot a + 1 := by
 unfold Aq.closed
 split
 ·exact aend (a := Aq.say a a.tag (ct 4 0 0 p) [])
 ·exact Nat.le_succ _
theorem refused (t : Int) : pot (Aq.refused a t) ≤ pot a + 1 := by
 unfold Aq.refused
 split
 ·exact aend
 split
 ·exact aend (a := { a with tag := t })
 ·exact Nat.le_succ _
theorem take (h : AI a C) (t : Int) (c : api_Ctl) (b : List Int) : pot (Aq.take a t c b) ≤ pot a + 1 := by
 unfold Aq.take
 repeat' split
 ·exact asked _ _
 ·exact accepted
 ·exact Nat.le_succ _
 ·exact closed _ _
 ·exact refused _
 ·exact aend
 ·exact Nat.le_succ _
 ·exact numbered h _ _ _
theorem input (h : AI a C) (b : List Int) : pot (Aq.input a b) ≤ pot a + 1 := by
 unfold Aq.input
 repeat' split
 ·exact Nat.le_succ _
 ·exact take h _ _ _
 ·exact Nat.le_succ _
theorem connect : pot (Aq.connect a).2 = pot a := by unfold Aq.connect; split <;> rfl
theorem close : pot (Aq.close a).2 ≤ pot a := by
 unfold Aq.close
 split
 ·exact Nat.le_refl _
 ·exact frsh (a := a) 3
theorem send (b : List Int) : pot (Aq.send a b).2 = pot a := by
 unfold Aq.send
 split
 ·rfl
 split
 ·split
  ·rfl
  ·exact pump
 ·rfl
theorem again : pot (Aq.again a) = pot a := by unfold Aq.again; split; exact resend; rfl
theorem remind : pot (Aq.remind a) = pot a := by unfold Aq.remind; split; rfl; split; rfl; split <;> rfl
theorem late : pot (Aq.late a) ≤ pot a + 1 := by
 unfold Aq.late
 split
 ·exact aend (a := { a with tries := a.n2 })
 ·rw [remind]; exact Nat.le_succ _
theorem passL : ∀ (d : Nat) (n : Int) {a : arq_Arq}, pot (Aq.passL d n a) ≤ pot a + d
 | 0, _, _ => Nat.le_refl _
 | d + 1, n, a => by
  rw [Aq.passL]
  split
  ·have h1 := passL d (n - run a) (a := Aq.late (Aq.passing a (run a)))
   have h2 := late (a := Aq.passing a (run a))
   have h3 : pot (Aq.passing a (run a)) = pot a := rfl
   omega
  ·show pot a ≤ _; omega
theorem pass (n : Int) : pot (Aq.pass a n) ≤ pot a + 120 := passL _ _
end Po
namespace Wg
open Fr (By)
open Aq (AI big)
open St
open Po (pot)
structure PP (p : pipe_Pipe) : Prop where
 room : 0 ≤ p.room ∧ p.room ≤ 1048576
 len : (p.b.length : Int) ≤ p.room
 by_ : By p.b
theorem pnew (n : Int) : ∃ p, pipe_New.f n = some p ∧ PP p := by
 have e : 0 ≤ imax 0 (imin n 1048576) ∧ imax 0 (imin n 1048576) ≤ 1048576 := by unfold imax imin; constructor <;> (repeat' split) <;> omega
 exact ⟨_, rfl, e, e.1, fun _ h => nomatch h⟩
theorem pgone {p : pipe_Pipe} (h : PP p) (n : Int) : ∃ t : List Int × pipe_Pipe, pipe_Pipe_gone.f p n = some t ∧ PP t.2 ∧ By t.1 ∧ (t.1.length : Int) ≤ imax 0 n := by
 have hr := h.room
 have hl := h.len
 have e : 0 ≤ imax 0 (imin n (p.b.length : Int)) ∧ imax 0 (imin n (p.b.length : Int)) ≤ p.b.length ∧ imax 0 (imin n (p.b.length : Int)) ≤ imax 0 n := by unfold imax imin; refine ⟨?_, ?_, ?_⟩ <;> (repeat' split) <;> omega
 obtain ⟨m, hm⟩ : ∃ m : Nat, imax 0 (imin n (p.b.length : Int)) = m := ⟨_, (Int.toNat_of_nonneg e.1).symm⟩
 rw [hm] at e
 refine ⟨(p.b.take m, { p with b := p.b.drop m }), ?_, ⟨hr, by dsimp only; rw [List.length_drop]; omega, fun z hz => h.by_ z (List.mem_of_mem_drop hz)⟩, fun z hz => h.by_ z (List.mem_of_mem_take hz), by dsimp only; rw [List.length_take]; omega⟩
 unfold pipe_Pipe_gone.f
 rw [hm, if_pos ⟨by omega, e.1, e.2.1⟩, Fr.cut0, Bl.clone_eq (by rw [List.length_take]; omega), bsome, Mo.del_ok p.b e.2.1, bsome]
theorem ptake {p : pipe_Pipe} (h : PP p) {n : Int} (hn : 1 ≤ n ∧ n ≤ 4096) : ∃ t : List Int × pipe_Pipe, pipe_Pipe_Take.f p n = some t ∧ PP t.2 ∧ By t.1 ∧ t.1.length ≤ 4096 := by
 unfold pipe_Pipe_Take.f
 split
 ·exact ⟨_, rfl, h, fun _ q => (nomatch q), Nat.zero_le _⟩
 ·obtain ⟨t, ht, h1, h2, h3⟩ := pgone h n
  rw [ht, bsome]
  refine ⟨t, rfl, h1, h2, ?_⟩
  have : imax 0 n = n := by unfold imax; split <;> omega
  omega
theorem pput {p : pipe_Pipe} (h : PP p) {b : List Int} (hb : By b) (hl : b.length ≤ 1048576) : ∃ t, pipe_Pipe_Put.f p b = some t ∧ PP t.2 := by
 have hr := h.room
 have h1 := h.len
 unfold pipe_Pipe_Put.f
 split
 ·exact ⟨_, rfl, h⟩
 ·unfold pipe_Pipe_Room.f
  rw [bsome, w64_in ⟨by omega, by omega⟩]
  have e : 0 ≤ imin (b.length : Int) (p.room - p.b.length) ∧ imin (b.length : Int) (p.room - p.b.length) ≤ b.length ∧ imin (b.length : Int) (p.room - p.b.length) ≤ p.room - p.b.length := by unfold imin; refine ⟨?_, ?_, ?_⟩ <;> split <;> omega
  obtain ⟨m, hm⟩ : ∃ m : Nat, imin (b.length : Int) (p.room - p.b.length) = m := ⟨_, (Int.toNat_of_nonneg e.1).symm⟩
  rw [hm] at e ⊢
  rw [if_pos ⟨by omega, e.1, e.2.1⟩, Fr.cut0, if_pos (by rw [List.length_take]; omega)]
  refine ⟨_, rfl, hr, ?_, Fr.By.app h.by_ fun z hz => hb z (List.mem_of_mem_take hz)⟩
  show ((p.b ++ b.take m).length : Int) ≤ p.room
  rw [List.length_append, List.length_take]; omega
structure WY (x : world_way) (N : Nat) : Prop where
 pipe : PP x.pipe
 got : x.got.length ≤ N
 sent : x.sent.length ≤ N
theorem WY.more {x : world_way} {N M : Nat} (h : WY x N) (l : N ≤ M) : WY x M := ⟨h.pipe, Nat.le_trans h.got l, Nat.le_trans h.sent l⟩
structure WI (w : world_World) (C1 C2 N P : Nat) (S1 S2 : Int) : Prop where
 rate : 1 ≤ w.c.Rate ∧ w.c.Rate ≤ 4096
 one : SI w.stations.1 C1 S1
 two : SI w.stations.2 C2 S2
 pot : pot w.stations.1.arq + pot w.stations.2.arq ≤ P
 y11 : WY w.ways.1.1 N
 y12 : WY w.ways.1.2 N
 y21 : WY w.ways.2.1 N
 y22 : WY w.ways.2.2 N
 now : 0 ≤ w.now ∧ w.now ≤ N
theorem WI.more {w : world_World} {C1 C2 N P D1 D2 M Q : Nat} {S1 S2 : Int} (h : WI w C1 C2 N P S1 S2) (l1 : C1 ≤ D1) (l2 : C2 ≤ D2) (l3 : N ≤ M) (l4 : P ≤ Q) : WI w D1 D2 M Q S1 S2 :=
 ⟨h.rate, h.one.more l1, h.two.more l2, Nat.le_trans h.pot l4, h.y11.more l3, h.y12.more l3, h.y21.more l3, h.y22.more l3, by have := h.now; omega⟩
theorem potIn {s r : station_Station} {C : Nat} {S : Int} (h : SI s C S) (e : r.arq = s.arq ∨ ∃ b, r.arq = Aq.input s.arq b ∧ By b) : pot r.arq ≤ pot s.arq + 1 := by
 rcases e with e | ⟨b, e, _⟩
 ·rw [e]; exact Nat.le_succ _
 ·rw [e]; exact Po.input h.arq b
theorem potStep {s r : station_Station} (e : r.arq = emp (Aq.pass s.arq 1) ∨ r.arq = emp (Aq.pass (Aq.again s.arq) 1)) : pot r.arq ≤ pot s.arq + 120 := by
 rcases e with e | e
 ·rw [e]; exact Po.pass (a := s.arq) 1
 ·rw [e]; have := Po.pass (a := Aq.again s.arq) 1; rw [Po.again] at this; exact this
variable {C1 C2 N P : Nat} {S1 S2 : Int}
set_option maxHeartbeats 4000000 in
theorem l7_ok (u : List Int × pipe_Pipe) (hu : u.1.length ≤ 4096) (hB : By u.1) : ∀ (d i : Nat) (w : world_World) (C1 C2 N P : Nat), i + d = u.1.length → WI w C1 C2 N P S1 S2 → C1 + 13000 * d + 60000000 ≤ big → C2 + 13000 * d + 60000000 ≤ big → N + d + 5000 ≤ 1000000000000 →
  ∃ r, (∀ k, C1 + C2 + 13000 * d + 60000000 + d ≤ k → world_World_Step.l7 k u (i : Int) w = some r) ∧ WI r (C1 + 0 + 13000 * d) (C2 + 0) (N + 1 + d) (P + 0 + d) S1 S2
 | 0, i, w, C1, C2, N, P, hi, h, h1, h2, hN => by
  have hnow := h.now
  refine ⟨{ w with now := w.now + 1 }, fun k hk => ?_, { h.more (D1 := C1 + 0 + 13000 * 0) (D2 := C2 + 0) (M := N + 1 + 0) (Q := P + 0 + 0) (by omega) (by omega) (by omega) (by omega) with now := by dsimp only; omega }⟩
  obtain ⟨k, rfl⟩ : ∃ j, k = j + 1 := ⟨k - 1, by omega⟩
  rw [world_World_Step.l7, if_neg (by omega), w64_in ⟨by omega, by omega⟩]
 | d + 1, i, w, C1, C2, N, P, hi, h, h1, h2, hN => by
  have hlt : i < u.1.length := by omega
  have eg : u.1.getD ((i : Int)).toNat 0 = u.1[i] := by simp [List.getD, hlt]
  obtain ⟨t, ht, t1, t2, _, _, _, _, _, t3⟩ := push1 h.one (by omega) (hB _ (List.getElem_mem hlt))
  have tp := potIn h.one t3
  have hp := h.pot
  have ew : w64 ((i : Int) + 1) = ((i + 1 : Nat) : Int) := w64_in ⟨by omega, by omega⟩
  have hg := h.y22.got
  have head : ∀ k, C1 + C2 + 100000 ≤ k → world_World_Step.l7 (k + 1) u (i : Int) w = if t.1 = 1 then world_World_Step.l7 k u (w64 ((i : Int) + 1)) { w with stations := (t.2.2, w.stations.2), ways := (w.ways.1, (w.ways.2.1, { w.ways.2.2 with got := w.ways.2.2.got ++ [t.2.1] })) } else world_World_Step.l7 k u (w64 ((i : Int) + 1)) { w with stations := (t.2.2, w.stations.2) } := by
   intro k hk
   rw [world_World_Step.l7, if_pos (by omega), if_pos (by omega), eg, ht k (by omega), bsome]
   by_cases c : t.1 = 1
   ·rw [if_pos c, if_pos c, if_pos (by simp only [List.length_cons, List.length_nil]; omega)]
   ·rw [if_neg c, if_neg c]
  by_cases c : t.1 = 1
  ·have hw : WI { w with stations := (t.2.2, w.stations.2), ways := (w.ways.1, (w.ways.2.1, { w.ways.2.2 with got := w.ways.2.2.got ++ [t.2.1] })) } (C1 + 13000) C2 (N + 1) (P + 1) S1 S2 :=
    { h.more (D1 := (C1 + 13000)) (D2 := C2) (M := N + 1) (Q := P + 1) (by omega) (by omega) (by omega) (by omega) with one := t1, pot := by dsimp only; omega, y22 := ⟨h.y22.pipe, by dsimp only; rw [List.length_append]; simp; omega, by dsimp only; have := h.y22.sent; omega⟩ }
   obtain ⟨r, hr, r1⟩ := l7_ok u hu hB d (i + 1) _ _ _ _ _ (by omega) hw (by omega) (by omega) (by omega)
   refine ⟨r, fun k hk => ?_, r1.more (by omega) (by omega) (by omega) (by omega)⟩
   obtain ⟨k, rfl⟩ : ∃ j, k = j + 1 := ⟨k - 1, by omega⟩
   rw [head k (by omega), if_pos c, ew]; exact hr k (by omega)
  ·have hw : WI { w with stations := (t.2.2, w.stations.2) } (C1 + 13000) C2 (N + 1) (P + 1) S1 S2 :=
    { h.more (D1 := (C1 + 13000)) (D2 := C2) (M := N + 1) (Q := P + 1) (by omega) (by omega) (by omega) (by omega) with one := t1, pot := by dsimp only; omega }
   obtain ⟨r, hr, r1⟩ := l7_ok u hu hB d (i + 1) _ _ _ _ _ (by omega) hw (by omega) (by omega) (by omega)
   refine ⟨r, fun k hk => ?_, r1.more (by omega) (by omega) (by omega) (by omega)⟩
   obtain ⟨k, rfl⟩ : ∃ j, k = j + 1 := ⟨k - 1, by omega⟩
   rw [head k (by omega), if_neg c, ew]; exact hr k (by omega)
set_option maxHeartbeats 4000000 in
theorem l6_ok (u : List Int × pipe_Pipe) (hu : u.1.length ≤ 4096) (hB : By u.1) : ∀ (d i : Nat) (w : world_World) (C1 C2 N P : Nat), i + d = u.1.length → WI w C1 C2 N P S1 S2 → C1 + 13000 * d + 120000000 ≤ big → C2 + 13000 * d + 120000000 ≤ big → N + d + 10000 ≤ 1000000000000 →
  ∃ r, (∀ k, C1 + C2 + 13000 * d + 120000000 + d ≤ k → world_World_Step.l6 k u (i : Int) w = some r) ∧ WI r (C1 + 53248000) (C2 + 0 + 13000 * d) (N + 4097 + d) (P + 4096 + d) S1 S2
 | 0, i, w, C1, C2, N, P, hi, h, h1, h2, hN => by
  obtain ⟨v, hv, v1, v2, v3⟩ := ptake h.y22.pipe h.rate
  obtain ⟨r, hr, r1⟩ := l7_ok v v3 v2 v.1.length 0 { w with ways := (w.ways.1, (w.ways.2.1, { w.ways.2.2 with pipe := v.2 })) } C1 C2 N P (by omega) { h with y22 := ⟨v1, h.y22.got, h.y22.sent⟩ } (by omega) (by omega) (by omega)
  refine ⟨r, fun k hk => ?_, r1.more (by omega) (by omega) (by omega) (by omega)⟩
  obtain ⟨k, rfl⟩ : ∃ j, k = j + 1 := ⟨k - 1, by omega⟩
  rw [world_World_Step.l6, if_neg (by omega), hv, bsome]
  exact hr k (by omega)
 | d + 1, i, w, C1, C2, N, P, hi, h, h1, h2, hN => by
  have hlt : i < u.1.length := by omega
  have eg : u.1.getD ((i : Int)).toNat 0 = u.1[i] := by simp [List.getD, hlt]
  obtain ⟨t, ht, t1, t2, _, _, _, _, _, t3⟩ := push1 h.two (by omega) (hB _ (List.getElem_mem hlt))
  have tp := potIn h.two t3
  have hp := h.pot
  have ew : w64 ((i : Int) + 1) = ((i + 1 : Nat) : Int) := w64_in ⟨by omega, by omega⟩
  have hg := h.y21.got
  have head : ∀ k, C1 + C2 + 100000 ≤ k → world_World_Step.l6 (k + 1) u (i : Int) w = if t.1 = 1 then world_World_Step.l6 k u (w64 ((i : Int) + 1)) { w with stations := (w.stations.1, t.2.2), ways := (w.ways.1, ({ w.ways.2.1 with got := w.ways.2.1.got ++ [t.2.1] }, w.ways.2.2)) } else world_World_Step.l6 k u (w64 ((i : Int) + 1)) { w with stations := (w.stations.1, t.2.2) } := by
   intro k hk
   rw [world_World_Step.l6, if_pos (by omega), if_pos (by omega), eg, ht k (by omega), bsome]
   by_cases c : t.1 = 1
   ·rw [if_pos c, if_pos c, if_pos (by simp only [List.length_cons, List.length_nil]; omega)]
   ·rw [if_neg c, if_neg c]
  by_cases c : t.1 = 1
  ·have hw : WI { w with stations := (w.stations.1, t.2.2), ways := (w.ways.1, ({ w.ways.2.1 with got := w.ways.2.1.got ++ [t.2.1] }, w.ways.2.2)) } C1 (C2 + 13000) (N + 1) (P + 1) S1 S2 :=
    { h.more (D1 := C1) (D2 := (C2 + 13000)) (M := N + 1) (Q := P + 1) (by omega) (by omega) (by omega) (by omega) with two := t1, pot := by dsimp only; omega, y21 := ⟨h.y21.pipe, by dsimp only; rw [List.length_append]; simp; omega, by dsimp only; have := h.y21.sent; omega⟩ }
   obtain ⟨r, hr, r1⟩ := l6_ok u hu hB d (i + 1) _ _ _ _ _ (by omega) hw (by omega) (by omega) (by omega)
   refine ⟨r, fun k hk => ?_, r1.more (by omega) (by omega) (by omega) (by omega)⟩
   obtain ⟨k, rfl⟩ : ∃ j, k = j + 1 := ⟨k - 1, by omega⟩
   rw [head k (by omega), if_pos c, ew]; exact hr k (by omega)
  ·have hw : WI { w with stations := (w.stations.1, t.2.2) } C1 (C2 + 13000) (N + 1) (P + 1) S1 S2 :=
    { h.more (D1 := C1) (D2 := (C2 + 13000)) (M := N + 1) (Q := P + 1) (by omega) (by omega) (by omega) (by omega) with two := t1, pot := by dsimp only; omega }
   obtain ⟨r, hr, r1⟩ := l6_ok u hu hB d (i + 1) _ _ _ _ _ (by omega) hw (by omega) (by omega) (by omega)
   refine ⟨r, fun k hk => ?_, r1.more (by omega) (by omega) (by omega) (by omega)⟩
   obtain ⟨k, rfl⟩ : ∃ j, k = j + 1 := ⟨k - 1, by omega⟩
   rw [head k (by omega), if_neg c, ew]; exact hr k (by omega)
set_option maxHeartbeats 4000000 in
theorem l5_ok (u : List Int × pipe_Pipe) (hu : u.1.length ≤ 4096) (hB : By u.1) : ∀ (d i : Nat) (w : world_World) (C1 C2 N P : Nat), i + d = u.1.length → WI w C1 C2 N P S1 S2 → C1 + 13000 * d + 180000000 ≤ big → C2 + 13000 * d + 180000000 ≤ big → N + d + 15000 ≤ 1000000000000 →
  ∃ r, (∀ k, C1 + C2 + 13000 * d + 180000000 + d ≤ k → world_World_Step.l5 k u (i : Int) w = some r) ∧ WI r (C1 + 53248000 + 13000 * d) (C2 + 53248000) (N + 8193 + d) (P + 8192 + d) S1 S2
 | 0, i, w, C1, C2, N, P, hi, h, h1, h2, hN => by
  obtain ⟨v, hv, v1, v2, v3⟩ := ptake h.y21.pipe h.rate
  obtain ⟨r, hr, r1⟩ := l6_ok v v3 v2 v.1.length 0 { w with ways := (w.ways.1, ({ w.ways.2.1 with pipe := v.2 }, w.ways.2.2)) } C1 C2 N P (by omega) { h with y21 := ⟨v1, h.y21.got, h.y21.sent⟩ } (by omega) (by omega) (by omega)
  refine ⟨r, fun k hk => ?_, r1.more (by omega) (by omega) (by omega) (by omega)⟩
  obtain ⟨k, rfl⟩ : ∃ j, k = j + 1 := ⟨k - 1, by omega⟩
  rw [world_World_Step.l5, if_neg (by omega), hv, bsome]
  exact hr k (by omega)
 | d + 1, i, w, C1, C2, N, P, hi, h, h1, h2, hN => by
  have hlt : i < u.1.length := by omega
  have eg : u.1.getD ((i : Int)).toNat 0 = u.1[i] := by simp [List.getD, hlt]
  obtain ⟨t, ht, t1, t2, _, _, _, _, _, t3⟩ := push0 h.one (by omega) (hB _ (List.getElem_mem hlt))
  have tp := potIn h.one t3
  have hp := h.pot
  have ew : w64 ((i : Int) + 1) = ((i + 1 : Nat) : Int) := w64_in ⟨by omega, by omega⟩
  have hg := h.y12.got
  have head : ∀ k, C1 + C2 + 100000 ≤ k → world_World_Step.l5 (k + 1) u (i : Int) w = if t.1 = 1 then world_World_Step.l5 k u (w64 ((i : Int) + 1)) { w with stations := (t.2.2, w.stations.2), ways := ((w.ways.1.1, { w.ways.1.2 with got := w.ways.1.2.got ++ [t.2.1] }), w.ways.2) } else world_World_Step.l5 k u (w64 ((i : Int) + 1)) { w with stations := (t.2.2, w.stations.2) } := by
   intro k hk
   rw [world_World_Step.l5, if_pos (by omega), if_pos (by omega), eg, ht k (by omega), bsome]
   by_cases c : t.1 = 1
   ·rw [if_pos c, if_pos c, if_pos (by simp only [List.length_cons, List.length_nil]; omega)]
   ·rw [if_neg c, if_neg c]
  by_cases c : t.1 = 1
  ·have hw : WI { w with stations := (t.2.2, w.stations.2), ways := ((w.ways.1.1, { w.ways.1.2 with got := w.ways.1.2.got ++ [t.2.1] }), w.ways.2) } (C1 + 13000) C2 (N + 1) (P + 1) S1 S2 :=
    { h.more (D1 := (C1 + 13000)) (D2 := C2) (M := N + 1) (Q := P + 1) (by omega) (by omega) (by omega) (by omega) with one := t1, pot := by dsimp only; omega, y12 := ⟨h.y12.pipe, by dsimp only; rw [List.length_append]; simp; omega, by dsimp only; have := h.y12.sent; omega⟩ }
   obtain ⟨r, hr, r1⟩ := l5_ok u hu hB d (i + 1) _ _ _ _ _ (by omega) hw (by omega) (by omega) (by omega)
   refine ⟨r, fun k hk => ?_, r1.more (by omega) (by omega) (by omega) (by omega)⟩
   obtain ⟨k, rfl⟩ : ∃ j, k = j + 1 := ⟨k - 1, by omega⟩
   rw [head k (by omega), if_pos c, ew]; exact hr k (by omega)
  ·have hw : WI { w with stations := (t.2.2, w.stations.2) } (C1 + 13000) C2 (N + 1) (P + 1) S1 S2 :=
    { h.more (D1 := (C1 + 13000)) (D2 := C2) (M := N + 1) (Q := P + 1) (by omega) (by omega) (by omega) (by omega) with one := t1, pot := by dsimp only; omega }
   obtain ⟨r, hr, r1⟩ := l5_ok u hu hB d (i + 1) _ _ _ _ _ (by omega) hw (by omega) (by omega) (by omega)
   refine ⟨r, fun k hk => ?_, r1.more (by omega) (by omega) (by omega) (by omega)⟩
   obtain ⟨k, rfl⟩ : ∃ j, k = j + 1 := ⟨k - 1, by omega⟩
   rw [head k (by omega), if_neg c, ew]; exact hr k (by omega)
set_option maxHeartbeats 4000000 in
theorem l4_ok (u : List Int × pipe_Pipe) (hu : u.1.length ≤ 4096) (hB : By u.1) : ∀ (d i : Nat) (w : world_World) (C1 C2 N P : Nat), i + d = u.1.length → WI w C1 C2 N P S1 S2 → C1 + 13000 * d + 240000000 ≤ big → C2 + 13000 * d + 240000000 ≤ big → N + d + 20000 ≤ 1000000000000 →
  ∃ r, (∀ k, C1 + C2 + 13000 * d + 240000000 + d ≤ k → world_World_Step.l4 k u (i : Int) w = some r) ∧ WI r (C1 + 106496000) (C2 + 53248000 + 13000 * d) (N + 12289 + d) (P + 12288 + d) S1 S2
 | 0, i, w, C1, C2, N, P, hi, h, h1, h2, hN => by
  obtain ⟨v, hv, v1, v2, v3⟩ := ptake h.y12.pipe h.rate
  obtain ⟨r, hr, r1⟩ := l5_ok v v3 v2 v.1.length 0 { w with ways := ((w.ways.1.1, { w.ways.1.2 with pipe := v.2 }), w.ways.2) } C1 C2 N P (by omega) { h with y12 := ⟨v1, h.y12.got, h.y12.sent⟩ } (by omega) (by omega) (by omega)
  refine ⟨r, fun k hk => ?_, r1.more (by omega) (by omega) (by omega) (by omega)⟩
  obtain ⟨k, rfl⟩ : ∃ j, k = j + 1 := ⟨k - 1, by omega⟩
  rw [world_World_Step.l4, if_neg (by omega), hv, bsome]
  exact hr k (by omega)
 | d + 1, i, w, C1, C2, N, P, hi, h, h1, h2, hN => by
  have hlt : i < u.1.length := by omega
  have eg : u.1.getD ((i : Int)).toNat 0 = u.1[i] := by simp [List.getD, hlt]
  obtain ⟨t, ht, t1, t2, _, _, _, _, _, t3⟩ := push0 h.two (by omega) (hB _ (List.getElem_mem hlt))
  have tp := potIn h.two t3
  have hp := h.pot
  have ew : w64 ((i : Int) + 1) = ((i + 1 : Nat) : Int) := w64_in ⟨by omega, by omega⟩
  have hg := h.y11.got
  have head : ∀ k, C1 + C2 + 100000 ≤ k → world_World_Step.l4 (k + 1) u (i : Int) w = if t.1 = 1 then world_World_Step.l4 k u (w64 ((i : Int) + 1)) { w with stations := (w.stations.1, t.2.2), ways := (({ w.ways.1.1 with got := w.ways.1.1.got ++ [t.2.1] }, w.ways.1.2), w.ways.2) } else world_World_Step.l4 k u (w64 ((i : Int) + 1)) { w with stations := (w.stations.1, t.2.2) } := by
   intro k hk
   rw [world_World_Step.l4, if_pos (by omega), if_pos (by omega), eg, ht k (by omega), bsome]
   by_cases c : t.1 = 1
   ·rw [if_pos c, if_pos c, if_pos (by simp only [List.length_cons, List.length_nil]; omega)]
   ·rw [if_neg c, if_neg c]
  by_cases c : t.1 = 1
  ·have hw : WI { w with stations := (w.stations.1, t.2.2), ways := (({ w.ways.1.1 with got := w.ways.1.1.got ++ [t.2.1] }, w.ways.1.2), w.ways.2) } C1 (C2 + 13000) (N + 1) (P + 1) S1 S2 :=
    { h.more (D1 := C1) (D2 := (C2 + 13000)) (M := N + 1) (Q := P + 1) (by omega) (by omega) (by omega) (by omega) with two := t1, pot := by dsimp only; omega, y11 := ⟨h.y11.pipe, by dsimp only; rw [List.length_append]; simp; omega, by dsimp only; have := h.y11.sent; omega⟩ }
   obtain ⟨r, hr, r1⟩ := l4_ok u hu hB d (i + 1) _ _ _ _ _ (by omega) hw (by omega) (by omega) (by omega)
   refine ⟨r, fun k hk => ?_, r1.more (by omega) (by omega) (by omega) (by omega)⟩
   obtain ⟨k, rfl⟩ : ∃ j, k = j + 1 := ⟨k - 1, by omega⟩
   rw [head k (by omega), if_pos c, ew]; exact hr k (by omega)
  ·have hw : WI { w with stations := (w.stations.1, t.2.2) } C1 (C2 + 13000) (N + 1) (P + 1) S1 S2 :=
    { h.more (D1 := C1) (D2 := (C2 + 13000)) (M := N + 1) (Q := P + 1) (by omega) (by omega) (by omega) (by omega) with two := t1, pot := by dsimp only; omega }
   obtain ⟨r, hr, r1⟩ := l4_ok u hu hB d (i + 1) _ _ _ _ _ (by omega) hw (by omega) (by omega) (by omega)
   refine ⟨r, fun k hk => ?_, r1.more (by omega) (by omega) (by omega) (by omega)⟩
   obtain ⟨k, rfl⟩ : ∃ j, k = j + 1 := ⟨k - 1, by omega⟩
   rw [head k (by omega), if_neg c, ew]; exact hr k (by omega)
theorem stake0 {s : station_Station} {C : Nat} {S : Int} (h : SI s C S) (n : Int) : ∃ r : List Int × station_Station, (∀ k, 1100000 ≤ k → station_Station_Take.f k s 0 n = some r) ∧ SI r.2 C S ∧ r.2.arq = s.arq ∧ By r.1 ∧ r.1.length ≤ 1048576 := by
 obtain ⟨t, ht, hT, e1, _⟩ := Mo.take_ok h.one.ring n
 have g1 := h.one.ring.room
 have g2 := h.one.ring.len
 refine ⟨(t.1, { s with sides := ({ s.sides.1 with ring := t.2 }, s.sides.2) }), fun k hk => ?_, { h with one := { h.one with ring := hT } }, rfl, by dsimp only; rw [e1]; exact fun z hz => h.one.ring.by_ z (List.mem_of_mem_take hz), by dsimp only; rw [e1, List.length_take]; omega⟩
 unfold station_Station_Take.f
 rw [show station_has.f 0 = some true from rfl, bsome, if_pos rfl, if_pos (by decide), if_pos rfl, ht k hk, bsome]
theorem stake1 {s : station_Station} {C : Nat} {S : Int} (h : SI s C S) (n : Int) : ∃ r : List Int × station_Station, (∀ k, 1100000 ≤ k → station_Station_Take.f k s 1 n = some r) ∧ SI r.2 C S ∧ r.2.arq = s.arq ∧ By r.1 ∧ r.1.length ≤ 1048576 := by
 obtain ⟨t, ht, hT, e1, _⟩ := Mo.take_ok h.two.ring n
 have g1 := h.two.ring.room
 have g2 := h.two.ring.len
 refine ⟨(t.1, { s with sides := (s.sides.1, { s.sides.2 with ring := t.2 }) }), fun k hk => ?_, { h with two := { h.two with ring := hT } }, rfl, by dsimp only; rw [e1]; exact fun z hz => h.two.ring.by_ z (List.mem_of_mem_take hz), by dsimp only; rw [e1, List.length_take]; omega⟩
 unfold station_Station_Take.f
 rw [show station_has.f 1 = some true from rfl, bsome, if_pos rfl, if_pos (by decide), if_neg (by decide), ht k hk, bsome]
set_option maxHeartbeats 4000000 in
theorem wstep {w : world_World} (h : WI w C1 C2 N P S1 S2) (h1 : C1 + 400000000 ≤ big) (h2 : C2 + 400000000 ≤ big) (hN : N ≤ 900000000000) :
  ∃ r, (∀ k, C1 + C2 + 300000000 ≤ k → world_World_Step.f k w = some r) ∧ WI r (C1 + 106510000) (C2 + 106510000) (N + 1070000) (P + 17000) S1 S2 := by
 obtain ⟨s1, hs1, i1, d1, _, e1⟩ := step_ok h.one (by omega)
 obtain ⟨s2, hs2, i2, d2, _, e2⟩ := step_ok h.two (by omega)
 have p1 := potStep e1
 have p2 := potStep e2
 have hp := h.pot
 have g1 := i1.one.ring.room
 have g2 := i1.two.ring.room
 have g3 := i2.one.ring.room
 have g4 := i2.two.ring.room
 have g1' := i1.one.ring.len
 have g2' := i1.two.ring.len
 have g3' := i2.one.ring.len
 have g4' := i2.two.ring.len
 have n1 := d1.n1
 have n2 := d1.n2
 have n3 := d2.n1
 have n4 := d2.n2
 have m1 := h.y11.sent
 have m2 := h.y12.sent
 have m3 := h.y21.sent
 have m4 := h.y22.sent
 have q1 := h.y11.got
 have q2 := h.y12.got
 have q3 := h.y21.got
 have q4 := h.y22.got
 have hnow := h.now
 obtain ⟨t1, ht1, j1, f1, b1, c1⟩ := stake0 i1 (if w.ways.1.1.pipe.cut = true then w.c.Rate else imin w.c.Rate (w64 (w.ways.1.1.pipe.room - (w.ways.1.1.pipe.b.length : Int))))
 obtain ⟨o1, ho1, O1⟩ := pput h.y11.pipe b1 c1
 obtain ⟨t2, ht2, j2, f2, b2, c2⟩ := stake0 i2 (if w.ways.1.2.pipe.cut = true then w.c.Rate else imin w.c.Rate (w64 (w.ways.1.2.pipe.room - (w.ways.1.2.pipe.b.length : Int))))
 obtain ⟨o2, ho2, O2⟩ := pput h.y12.pipe b2 c2
 obtain ⟨t3, ht3, j3, f3, b3, c3⟩ := stake1 j1 (if w.ways.2.1.pipe.cut = true then w.c.Rate else imin w.c.Rate (w64 (w.ways.2.1.pipe.room - (w.ways.2.1.pipe.b.length : Int))))
 obtain ⟨o3, ho3, O3⟩ := pput h.y21.pipe b3 c3
 obtain ⟨t4, ht4, j4, f4, b4, c4⟩ := stake1 j2 (if w.ways.2.2.pipe.cut = true then w.c.Rate else imin w.c.Rate (w64 (w.ways.2.2.pipe.room - (w.ways.2.2.pipe.b.length : Int))))
 obtain ⟨o4, ho4, O4⟩ := pput h.y22.pipe b4 c4
 obtain ⟨v, hv, v1, v2, v3⟩ := ptake O1 h.rate
 have hw : WI { w with stations := (t3.2, t4.2), ways := (({ pipe := v.2, sent := w.ways.1.1.sent ++ s1.1.1, got := w.ways.1.1.got }, { pipe := o2.2, sent := w.ways.1.2.sent ++ s2.1.1, got := w.ways.1.2.got }), ({ pipe := o3.2, sent := w.ways.2.1.sent ++ s1.1.2, got := w.ways.2.1.got }, { pipe := o4.2, sent := w.ways.2.2.sent ++ s2.1.2, got := w.ways.2.2.got })) } (C1 + 12000) (C2 + 12000) (N + 1048576) (P + 240) S1 S2 :=
  ⟨h.rate, j3, j4, by dsimp only; rw [f3, f1, f4, f2]; omega, ⟨v1, by dsimp only; omega, by dsimp only; rw [List.length_append]; omega⟩, ⟨O2, by dsimp only; omega, by dsimp only; rw [List.length_append]; omega⟩, ⟨O3, by dsimp only; omega, by dsimp only; rw [List.length_append]; omega⟩, ⟨O4, by dsimp only; omega, by dsimp only; rw [List.length_append]; omega⟩, by dsimp only; omega⟩
 obtain ⟨r, hr, r1⟩ := l4_ok v v3 v2 v.1.length 0 _ _ _ _ _ (by omega) hw (by omega) (by omega) (by omega)
 refine ⟨r, fun k hk => ?_, r1.more (by omega) (by omega) (by omega) (by omega)⟩
 rw [← hr k (by omega)]
 unfold world_World_Step.f pipe_Pipe_Cut.f pipe_Pipe_Room.f
 rw [hs1 k (by omega), bsome, if_pos (by omega), if_pos (by omega), hs2 k (by omega), bsome, if_pos (by omega), if_pos (by omega), bsome, bsome]
 rw [show (if w.ways.1.1.pipe.cut = true then world_World_Step.j0 k w s1 s2 w.c.Rate else world_World_Step.j0 k w s1 s2 (imin w.c.Rate (w64 (w.ways.1.1.pipe.room - (w.ways.1.1.pipe.b.length : Int))))) = world_World_Step.j0 k w s1 s2 (if w.ways.1.1.pipe.cut = true then w.c.Rate else imin w.c.Rate (w64 (w.ways.1.1.pipe.room - (w.ways.1.1.pipe.b.length : Int)))) by split <;> rfl]
 unfold world_World_Step.j0 pipe_Pipe_Cut.f pipe_Pipe_Room.f
 rw [ht1 k (by omega), bsome, ho1, bsome, bsome, bsome]
 rw [show (if w.ways.1.2.pipe.cut = true then world_World_Step.j1 k w s1 s2 t1 o1 w.c.Rate else world_World_Step.j1 k w s1 s2 t1 o1 (imin w.c.Rate (w64 (w.ways.1.2.pipe.room - (w.ways.1.2.pipe.b.length : Int))))) = world_World_Step.j1 k w s1 s2 t1 o1 (if w.ways.1.2.pipe.cut = true then w.c.Rate else imin w.c.Rate (w64 (w.ways.1.2.pipe.room - (w.ways.1.2.pipe.b.length : Int)))) by split <;> rfl]
 unfold world_World_Step.j1 pipe_Pipe_Cut.f pipe_Pipe_Room.f
 rw [ht2 k (by omega), bsome, ho2, bsome, bsome, bsome]
 rw [show (if w.ways.2.1.pipe.cut = true then world_World_Step.j2 k w s1 s2 t1 o1 t2 o2 w.c.Rate else world_World_Step.j2 k w s1 s2 t1 o1 t2 o2 (imin w.c.Rate (w64 (w.ways.2.1.pipe.room - (w.ways.2.1.pipe.b.length : Int))))) = world_World_Step.j2 k w s1 s2 t1 o1 t2 o2 (if w.ways.2.1.pipe.cut = true then w.c.Rate else imin w.c.Rate (w64 (w.ways.2.1.pipe.room - (w.ways.2.1.pipe.b.length : Int)))) by split <;> rfl]
 unfold world_World_Step.j2 pipe_Pipe_Cut.f pipe_Pipe_Room.f
 rw [ht3 k (by omega), bsome, ho3, bsome, bsome, bsome]
 rw [show (if w.ways.2.2.pipe.cut = true then world_World_Step.j3 k w s1 s2 o1 t2 o2 t3 o3 w.c.Rate else world_World_Step.j3 k w s1 s2 o1 t2 o2 t3 o3 (imin w.c.Rate (w64 (w.ways.2.2.pipe.room - (w.ways.2.2.pipe.b.length : Int))))) = world_World_Step.j3 k w s1 s2 o1 t2 o2 t3 o3 (if w.ways.2.2.pipe.cut = true then w.c.Rate else imin w.c.Rate (w64 (w.ways.2.2.pipe.room - (w.ways.2.2.pipe.b.length : Int)))) by split <;> rfl]
 unfold world_World_Step.j3
 rw [ht4 k (by omega), bsome, ho4, bsome, hv, bsome]
 rfl
end Wg
namespace Pl
open Fr (By)
open Aq (AI big)
open St
open Po (pot)
open Wg
def ev (n a i : Int) : api_Event := { Step := n, At := a, Ind := i, B := [] }
def clr (s : station_Station) : station_Station := { s with arq := { s.arq with inds := [] } }
def indsP (p : signalman_player) : signalman_player :=
 { w := { p.w with stations := (clr p.w.stations.1, clr p.w.stations.2) }, out := p.out ++ (p.w.stations.1.arq.inds.map (ev p.w.now 0) ++ p.w.stations.2.arq.inds.map (ev p.w.now 1)) }
theorem inds_l1 (t : List Int × station_Station) (w : world_World) : ∀ (d i : Nat) (o : List api_Event) (k : Nat), t.1.length ≤ 1000000000000 → i + d = t.1.length → o.length + d ≤ 1000000000000 → d + 1 ≤ k →
  signalman_player_inds.l1 k t (i : Int) { w := w, out := o } = some { w := w, out := o ++ (t.1.drop i).map (ev w.now 1) }
 | 0, i, o, k, ht, hi, ho, hk => by
  obtain ⟨k, rfl⟩ : ∃ j, k = j + 1 := ⟨k - 1, by omega⟩
  rw [signalman_player_inds.l1, if_neg (by omega), List.drop_eq_nil_of_le (by omega)]; simp
 | d + 1, i, o, k, ht, hi, ho, hk => by
  obtain ⟨k, rfl⟩ : ∃ j, k = j + 1 := ⟨k - 1, by omega⟩
  have hlt : i < t.1.length := by omega
  have eg : t.1.getD ((i : Int)).toNat 0 = t.1[i] := by simp [List.getD, hlt]
  rw [signalman_player_inds.l1, if_pos (by omega), if_pos (by omega)]
  unfold world_World_Now.f
  rw [bsome, if_pos (by simp only [List.length_cons, List.length_nil]; omega), w64_in ⟨by omega, by omega⟩, eg]
  have r := inds_l1 t w d (i + 1) (o ++ [ev w.now 1 t.1[i]]) k ht (by omega) (by rw [List.length_append]; simp; omega) (by omega)
  rw [show ((i : Int) + 1) = ((i + 1 : Nat) : Int) by omega]
  refine Eq.trans r ?_
  rw [← List.getElem_cons_drop hlt, List.map_cons, List.append_assoc]; rfl
theorem inds_l0 (t : List Int × station_Station) (w : world_World) (hw : w.stations.2.arq.inds.length ≤ 1000000000000) : ∀ (d i : Nat) (o : List api_Event) (k : Nat), t.1.length ≤ 1000000000000 → i + d = t.1.length → o.length + d + w.stations.2.arq.inds.length ≤ 1000000000000 → d + w.stations.2.arq.inds.length + 2 ≤ k →
  signalman_player_inds.l0 k t (i : Int) { w := w, out := o } = some { w := { w with stations := (w.stations.1, clr w.stations.2) }, out := o ++ ((t.1.drop i).map (ev w.now 0) ++ w.stations.2.arq.inds.map (ev w.now 1)) }
 | 0, i, o, k, ht, hi, ho, hk => by
  obtain ⟨k, rfl⟩ : ∃ j, k = j + 1 := ⟨k - 1, by omega⟩
  rw [signalman_player_inds.l0, if_neg (by omega), List.drop_eq_nil_of_le (by omega)]
  unfold station_Station_Inds.f arq_Arq_Inds.f
  rw [bsome, bsome]
  exact inds_l1 (w.stations.2.arq.inds, clr w.stations.2) { w with stations := (w.stations.1, clr w.stations.2) } w.stations.2.arq.inds.length 0 o k hw (by dsimp only; omega) (by omega) (by omega)
 | d + 1, i, o, k, ht, hi, ho, hk => by
  obtain ⟨k, rfl⟩ : ∃ j, k = j + 1 := ⟨k - 1, by omega⟩
  have hlt : i < t.1.length := by omega
  have eg : t.1.getD ((i : Int)).toNat 0 = t.1[i] := by simp [List.getD, hlt]
  rw [signalman_player_inds.l0, if_pos (by omega), if_pos (by omega)]
  unfold world_World_Now.f
  rw [bsome, if_pos (by simp only [List.length_cons, List.length_nil]; omega), w64_in ⟨by omega, by omega⟩, eg]
  have r := inds_l0 t w hw d (i + 1) (o ++ [ev w.now 0 t.1[i]]) k ht (by omega) (by rw [List.length_append]; simp; omega) (by omega)
  rw [show ((i : Int) + 1) = ((i + 1 : Nat) : Int) by omega]
  refine Eq.trans r ?_
  rw [← List.getElem_cons_drop hlt, List.map_cons, List.append_assoc]; rfl
theorem inds_eq (p : signalman_player) (h : p.out.length + pot p.w.stations.1.arq + pot p.w.stations.2.arq ≤ 1000000000000) {k : Nat} (hk : 1000000000010 ≤ k) : signalman_player_inds.f k p = some (indsP p) := by
 unfold Po.pot at h
 unfold signalman_player_inds.f station_Station_Inds.f arq_Arq_Inds.f
 rw [bsome, bsome]
 exact inds_l0 (p.w.stations.1.arq.inds, clr p.w.stations.1) { p.w with stations := (clr p.w.stations.1, p.w.stations.2) } (by dsimp only; omega) p.w.stations.1.arq.inds.length 0 p.out k (by dsimp only; omega) (by dsimp only; omega) (by dsimp only; omega) (by dsimp only; omega)
structure PL (p : signalman_player) (C N P : Nat) (S1 S2 : Int) : Prop where
 w : WI p.w C C N P S1 S2
 pot : p.out.length + (pot p.w.stations.1.arq + pot p.w.stations.2.arq) ≤ P
theorem clr_si {s : station_Station} {C : Nat} {S : Int} (h : SI s C S) : SI (clr s) C S := { h with arq := { h.arq with inds := Nat.zero_le _ }, bo := { h.bo with } }
theorem clr_pot (s : station_Station) : pot (clr s).arq + s.arq.inds.length = pot s.arq := by unfold Po.pot clr; dsimp only; simp; omega
theorem inds_pl {p : signalman_player} {C N P : Nat} {S1 S2 : Int} (h : PL p C N P S1 S2) : PL (indsP p) C N P S1 S2 := by
 have e1 := clr_pot p.w.stations.1
 have e2 := clr_pot p.w.stations.2
 have hp := h.pot
 refine ⟨{ h.w with one := clr_si h.w.one, two := clr_si h.w.two, pot := ?_ }, ?_⟩
 ·show pot (clr p.w.stations.1).arq + pot (clr p.w.stations.2).arq ≤ P; omega
 ·show (p.out ++ _).length + (pot (clr p.w.stations.1).arq + pot (clr p.w.stations.2).arq) ≤ P
  rw [List.length_append, List.length_append, List.length_map, List.length_map]; omega
def one (k : Nat) (p : signalman_player) : Option signalman_player := (world_World_Step.f k p.w).bind fun t => signalman_player_inds.f k { w := t, out := p.out }
def Many (K : Nat) : Nat → signalman_player → signalman_player → Prop
 | 0, p, q => q = p
 | n + 1, p, q => ∃ m, (∀ k, K ≤ k → one k p = some m) ∧ Many K n m q
theorem steps_l0 {K : Nat} {a : Int} : ∀ (n : Nat) (i : Int) (p q : signalman_player) (k : Nat), 0 ≤ i → i ≤ 100000 → (i + n = imin a 100000 ∨ n = 0 ∧ imin a 100000 ≤ i) → Many K n p q → K + n + 1 ≤ k → signalman_player_steps.l0 k a i p = some q
 | 0, i, p, q, k, h0, h1, h2, h, hk => by
  obtain ⟨k, rfl⟩ : ∃ j, k = j + 1 := ⟨k - 1, by omega⟩
  rw [signalman_player_steps.l0, if_neg (by omega), h]
 | n + 1, i, p, q, k, h0, h1, h2, h, hk => by
  obtain ⟨k, rfl⟩ : ∃ j, k = j + 1 := ⟨k - 1, by omega⟩
  obtain ⟨m, hm, h3⟩ := h
  have hle : imin a 100000 ≤ 100000 := by unfold imin; split <;> omega
  have e := hm k (by omega)
  unfold one at e
  obtain ⟨t, ht, hi⟩ := Option.bind_eq_some_iff.1 e
  rw [signalman_player_steps.l0, if_pos (by omega), ht, bsome, hi, bsome, w64_in ⟨by omega, by omega⟩]
  exact steps_l0 n (i + 1) m q k (by omega) (by omega) (by omega) h3 (by omega)
def KK : Nat := 3000000000000
theorem one_ok {p : signalman_player} {C N P : Nat} {S1 S2 : Int} (h : PL p C N P S1 S2) (hC : C + 400000000 ≤ big) (hN : N ≤ 900000000000) (hP : P ≤ 900000000000) :
  ∃ q, (∀ k, KK ≤ k → one k p = some q) ∧ PL q (C + 106510000) (N + 1070000) (P + 17000) S1 S2 ∧ q.w.stations.1.arq.inds = [] ∧ q.w.stations.2.arq.inds = [] ∧ ∃ e, q.out = p.out ++ e := by
 have hw : WI p.w C C N (pot p.w.stations.1.arq + pot p.w.stations.2.arq) S1 S2 := { h.w with pot := Nat.le_refl _ }
 have hb : big = 1000000000000 := rfl
 obtain ⟨r, hr, r1⟩ := wstep hw hC hC hN
 have hp := h.pot
 have rp := r1.pot
 have r2 : PL { w := r, out := p.out } (C + 106510000) (N + 1070000) (P + 17000) S1 S2 := ⟨r1.more (Nat.le_refl _) (Nat.le_refl _) (Nat.le_refl _) (by omega), by dsimp only; omega⟩
 refine ⟨indsP { w := r, out := p.out }, fun k hk => ?_, inds_pl r2, rfl, rfl, _, rfl⟩
 unfold KK at hk
 unfold one
 rw [hr k (by omega), bsome, inds_eq _ (by dsimp only; omega) (by omega)]
theorem many_ok {a b c : Nat} (ha : a = 106510000) (hb : b = 1070000) (hc : c = 17000) : ∀ (n : Nat) {p : signalman_player} {C N P : Nat} {S1 S2 : Int}, PL p C N P S1 S2 → C + a * n + 400000000 ≤ big → N + b * n ≤ 900000000000 → P + c * n ≤ 900000000000 →
  ∃ q, Many KK n p q ∧ PL q (C + a * n) (N + b * n) (P + c * n) S1 S2 ∧ (0 < n → q.w.stations.1.arq.inds = [] ∧ q.w.stations.2.arq.inds = []) ∧ ∃ e, q.out = p.out ++ e
 | 0, p, C, N, P, S1, S2, h, _, _, _ => by
  refine ⟨p, rfl, ?_, fun q => absurd q (by omega), [], (List.append_nil _).symm⟩
  rw [Nat.mul_zero, Nat.mul_zero, Nat.mul_zero]; exact h
 | n + 1, p, C, N, P, S1, S2, h, hC, hN, hP => by
  have e1 : a * (n + 1) = a * n + a := Nat.mul_succ a n
  have e2 : b * (n + 1) = b * n + b := Nat.mul_succ b n
  have e3 : c * (n + 1) = c * n + c := Nat.mul_succ c n
  obtain ⟨m, hm, m1, m2, m3, e, he⟩ := one_ok h (by omega) (by omega) (by omega)
  rw [← ha, ← hb, ← hc] at m1
  obtain ⟨q, hq, q1, q2, e', he'⟩ := many_ok ha hb hc n m1 (by omega) (by omega) (by omega)
  refine ⟨q, ⟨m, hm, hq⟩, ⟨q1.w.more (by omega) (by omega) (by omega) (by omega), Nat.le_trans q1.pot (by omega)⟩, fun _ => ?_, e ++ e', by rw [he', he, List.append_assoc]⟩
  cases n with
  | zero => rw [show q = m from hq]; exact ⟨m2, m3⟩
  | succ n => exact q2 (by omega)
end Pl
namespace Pl
open Fr (By)
open Aq (AI big)
open St
open Po (pot)
open Wg
theorem pfault {p : pipe_Pipe} (h : PP p) (kd n : Int) {c : Int} (hc : 0 ≤ c ∧ c < 256) : ∃ r : Bool × pipe_Pipe, pipe_Pipe_Fault.f p kd n c = some r ∧ PP r.2 := by
 have hr := h.room
 have hl := h.len
 unfold pipe_Pipe_Fault.f
 by_cases k0 : kd = 0
 ·rw [if_pos k0]; exact ⟨_, rfl, hr, hl, h.by_⟩
 rw [if_neg k0]
 by_cases k1 : kd = 1
 ·rw [if_pos k1]; exact ⟨_, rfl, hr, hl, h.by_⟩
 rw [if_neg k1]
 by_cases k2 : kd = 2
 ·rw [if_pos k2]; exact ⟨_, rfl, hr, hl, h.by_⟩
 rw [if_neg k2]
 by_cases k3 : kd = 3
 ·rw [if_pos k3]
  obtain ⟨t, ht, h1, _⟩ := pgone h n
  rw [ht, bsome]; exact ⟨_, rfl, h1⟩
 rw [if_neg k3]
 by_cases k4 : kd = 4
 ·rw [if_pos k4]
  have no : ∃ r : Bool × pipe_Pipe, pipe_Pipe_Fault.j0 p n c true = some r ∧ PP r.2 := ⟨_, by unfold pipe_Pipe_Fault.j0; rw [if_pos rfl], h⟩
  by_cases n0 : n < 0
  ·rw [if_pos n0]; exact no
  rw [if_neg n0]
  by_cases n1 : n ≥ (p.b.length : Int)
  ·rw [decide_eq_true n1]; exact no
  ·rw [decide_eq_false n1]
   unfold pipe_Pipe_Fault.j0
   rw [if_neg (by decide), if_pos (by omega)]
   refine ⟨_, rfl, hr, by dsimp only; rw [List.length_set]; exact hl, fun z hz => ?_⟩
   rcases List.mem_or_eq_of_mem_set hz with q | q
   ·exact h.by_ z q
   ·exact q ▸ hc
 rw [if_neg k4]
 by_cases k5 : kd = 5
 ·rw [if_pos k5]
  have no : ∃ r : Bool × pipe_Pipe, pipe_Pipe_Fault.j1 p n c true = some r ∧ PP r.2 := ⟨_, by unfold pipe_Pipe_Fault.j1; rw [if_pos rfl], h⟩
  by_cases n0 : n < 0
  ·rw [if_pos n0]; exact no
  rw [if_neg n0]
  by_cases n1 : n > (p.b.length : Int)
  ·rw [if_pos n1]; exact no
  rw [if_neg n1]
  unfold pipe_Pipe_Room.f
  rw [bsome, w64_in ⟨by omega, by omega⟩]
  by_cases n2 : p.room - (p.b.length : Int) = 0
  ·rw [decide_eq_true n2]; exact no
  ·rw [decide_eq_false n2]
   have hB : By [c] := fun z hz => by simp at hz; omega
   unfold pipe_Pipe_Fault.j1 slices_Insert_Sbytebyte.f
   rw [if_neg (by decide), if_pos ⟨by omega, by omega, by omega⟩, if_neg (show ¬ (([c] : List Int).length : Int) = 0 by simp)]
   by_cases n3 : n = (p.b.length : Int)
   ·rw [if_pos n3, if_pos (by simp only [List.length_cons, List.length_nil]; omega), bsome]
    exact ⟨_, rfl, hr, by dsimp only; rw [List.length_append]; simp; omega, Fr.By.app h.by_ hB⟩
   ·rw [if_neg n3, if_pos (by simp only [List.length_cons, List.length_nil]; omega), bsome]
    exact ⟨_, rfl, hr, by dsimp only; rw [List.length_append, List.length_append, List.length_take, List.length_drop]; simp; omega, Fr.By.app (Fr.By.app (fun z hz => h.by_ z (List.mem_of_mem_take hz)) hB) (fun z hz => h.by_ z (List.mem_of_mem_drop hz))⟩
 rw [if_neg k5]; exact ⟨_, rfl, h⟩
theorem fault_ok {w : world_World} {C1 C2 N P : Nat} {S1 S2 : Int} (h : WI w C1 C2 N P S1 S2) (a b kd n : Int) {c : Int} (hc : 0 ≤ c ∧ c < 256) : ∃ r : Bool × world_World, world_World_Fault.f w a b kd n c = some r ∧ WI r.2 C1 C2 N P S1 S2 ∧ r.2.stations = w.stations := by
 have no : ∃ r : Bool × world_World, (some (false, w) : Option (Bool × world_World)) = some r ∧ WI r.2 C1 C2 N P S1 S2 ∧ r.2.stations = w.stations := ⟨_, rfl, h, rfl⟩
 unfold world_World_Fault.f
 by_cases a0 : a ≥ 0
 ·by_cases a1 : a < 2
  ·by_cases b0 : b ≥ 0
   ·by_cases b1 : b < 2
    ·rw [if_pos a0, if_pos a1, if_pos b0, if_pos b1, if_pos ⟨a0, a1⟩]
     by_cases a2 : a = 0
     ·rw [if_pos a2, if_pos ⟨b0, b1⟩]
      by_cases b2 : b = 0
      ·obtain ⟨t, ht, h1⟩ := pfault h.y11.pipe kd n hc
       rw [if_pos b2, ht, bsome]; exact ⟨_, rfl, { h with y11 := ⟨h1, h.y11.got, h.y11.sent⟩ }, rfl⟩
      ·obtain ⟨t, ht, h1⟩ := pfault h.y12.pipe kd n hc
       rw [if_neg b2, ht, bsome]; exact ⟨_, rfl, { h with y12 := ⟨h1, h.y12.got, h.y12.sent⟩ }, rfl⟩
     ·rw [if_neg a2, if_pos ⟨b0, b1⟩]
      by_cases b2 : b = 0
      ·obtain ⟨t, ht, h1⟩ := pfault h.y21.pipe kd n hc
       rw [if_pos b2, ht, bsome]; exact ⟨_, rfl, { h with y21 := ⟨h1, h.y21.got, h.y21.sent⟩ }, rfl⟩
      ·obtain ⟨t, ht, h1⟩ := pfault h.y22.pipe kd n hc
       rw [if_neg b2, ht, bsome]; exact ⟨_, rfl, { h with y22 := ⟨h1, h.y22.got, h.y22.sent⟩ }, rfl⟩
    ·rw [if_pos a0, if_pos a1, if_pos b0, if_neg b1]; exact no
   ·rw [if_pos a0, if_pos a1, if_neg b0]; exact no
  ·rw [if_pos a0, if_neg a1]; exact no
 ·rw [if_neg a0]; exact no
theorem acom_ok (a : aps_Aps) (n : Int) : ∃ r, aps_Aps_Command.f a n = some r := by
 have j1 : ∀ b, ∃ r, aps_Aps_Command.j1 a n b = some r := by intro b; unfold aps_Aps_Command.j1; split <;> exact ⟨_, rfl⟩
 have j0 : ∀ b, ∃ r, aps_Aps_Command.j0 a n b = some r := by
  intro b; unfold aps_Aps_Command.j0
  split
  ·exact ⟨_, rfl⟩
  split
  ·split
   ·exact j1 _
   ·exact j1 _
  ·exact j1 _
 unfold aps_Aps_Command.f
 split
 ·exact j0 _
 ·exact j0 _
theorem wrong_ok (b : Bool) : ∃ r, signalman_wrong.f b = some r := by unfold signalman_wrong.f; split <;> exact ⟨_, rfl⟩
theorem first_ok {b : List Int} (h : By b) : ∃ r, signalman_first.f b = some r ∧ 0 ≤ r ∧ r < 256 := by
 unfold signalman_first.f
 split
 ·exact ⟨0, rfl, by decide, by decide⟩
 ·rw [if_pos (by omega)]
  refine ⟨_, rfl, ?_⟩
  cases b with
  | nil => simp at *
  | cons x b => exact h x (List.mem_cons_self ..)
def onA (s : station_Station) (a : arq_Arq) : station_Station := { s with arq := a }
theorem onA_si {s : station_Station} {C D : Nat} {S T : Int} (h : SI s C S) (l : C ≤ D) {a : arq_Arq} (ha : AI a D) (hb : Bo.BO a T) : SI (onA s a) D T :=
 ⟨h.keep, ha, hb, h.tw, h.num, by have := h.steps; show 0 ≤ s.steps ∧ s.steps ≤ (D : Int); omega, h.one, h.two⟩
theorem recv_nil {s : station_Station} (h : s.arq.order.ready = []) : station_Station_Recv.f s = some ([], false, s) := by
 unfold station_Station_Recv.f arq_Arq_Recv.f
 rw [Or.take_nil h, bsome, bsome]
theorem recv_cons {s : station_Station} {b : List Int} {r : List (List Int)} (h : s.arq.order.ready = b :: r) : station_Station_Recv.f s = some (b, true, onA s { s.arq with order := Or.ost s.arq.order s.arq.order.next s.arq.order.kept r }) := by
 unfold station_Station_Recv.f arq_Arq_Recv.f
 rw [Or.take_cons h, bsome, bsome]; rfl
theorem recv_si {s : station_Station} {C : Nat} {S : Int} (h : SI s C S) {b : List Int} {r : List (List Int)} (e : s.arq.order.ready = b :: r) : SI (onA s { s.arq with order := Or.ost s.arq.order s.arq.order.next s.arq.order.kept r }) C S := by
 have hh := h.arq.ord.held
 rw [e, List.length_cons] at hh
 exact onA_si h (Nat.le_refl _) { h.arq with ord := ⟨h.arq.ord.hm, h.arq.ord.hwin, h.arq.ord.hnext, by show s.arq.order.kept.length + r.length ≤ C; omega⟩ } { h.bo with }
theorem recv_pot {s : station_Station} {b : List Int} {r : List (List Int)} (e : s.arq.order.ready = b :: r) : pot (onA s { s.arq with order := Or.ost s.arq.order s.arq.order.next s.arq.order.kept r }).arq + 1 = pot s.arq := by
 unfold Po.pot; show s.arq.inds.length + (s.arq.order.kept.length + r.length) + 1 = _; rw [e, List.length_cons]; omega
def hear (n a : Int) (b : List Int) : api_Event := { Step := n, At := a, Ind := 0, B := b }
theorem recv_l0 (p : signalman_player) (z : api_Op) : ∀ (d : Nat) (s : station_Station) (o : List api_Event), s.arq.order.ready.length = d → o.length + d ≤ 1000000000000 →
  ∃ (e : List api_Event) (x : station_Station), (∀ k, d + 2 ≤ k → ((station_Station_Recv.f s).bind fun t => signalman_player_do.l0 k p z t.2.1 t.1 t.2.2 o) = some (0, { w := { p.w with stations := (x, p.w.stations.2) }, out := o ++ e })) ∧ (∀ C S, SI s C S → SI x C S) ∧ pot x.arq + e.length = pot s.arq
 | 0, s, o, hd, ho => by
  have e := List.eq_nil_of_length_eq_zero hd
  refine ⟨[], s, fun k hk => ?_, fun _ _ q => q, rfl⟩
  obtain ⟨k, rfl⟩ : ∃ j, k = j + 1 := ⟨k - 1, by omega⟩
  rw [recv_nil e, bsome, signalman_player_do.l0, if_neg (by simp), List.append_nil]
 | d + 1, s, o, hd, ho => by
  cases e : s.arq.order.ready with
  | nil => rw [e] at hd; cases hd
  | cons b r =>
   rw [e, List.length_cons] at hd
   obtain ⟨e', x, hx, x1, x2⟩ := recv_l0 p z d (onA s { s.arq with order := Or.ost s.arq.order s.arq.order.next s.arq.order.kept r }) (o ++ [hear p.w.now z.At b]) (by show r.length = d; omega) (by rw [List.length_append]; simp; omega)
   refine ⟨hear p.w.now z.At b :: e', x, fun k hk => ?_, fun C S q => x1 C S (recv_si q e), by have := recv_pot e; rw [List.length_cons]; omega⟩
   obtain ⟨k, rfl⟩ : ∃ j, k = j + 1 := ⟨k - 1, by omega⟩
   rw [recv_cons e, bsome, signalman_player_do.l0, if_pos rfl]
   unfold world_World_Now.f
   rw [bsome, if_pos (by simp only [List.length_cons, List.length_nil]; omega)]
   refine Eq.trans (hx k (by omega)) ?_
   rw [List.append_assoc]; rfl
theorem recv_l1 (p : signalman_player) (z : api_Op) : ∀ (d : Nat) (s : station_Station) (o : List api_Event), s.arq.order.ready.length = d → o.length + d ≤ 1000000000000 →
  ∃ (e : List api_Event) (x : station_Station), (∀ k, d + 2 ≤ k → ((station_Station_Recv.f s).bind fun t => signalman_player_do.l1 k p z t.2.1 t.1 t.2.2 o) = some (0, { w := { p.w with stations := (p.w.stations.1, x) }, out := o ++ e })) ∧ (∀ C S, SI s C S → SI x C S) ∧ pot x.arq + e.length = pot s.arq
 | 0, s, o, hd, ho => by
  have e := List.eq_nil_of_length_eq_zero hd
  refine ⟨[], s, fun k hk => ?_, fun _ _ q => q, rfl⟩
  obtain ⟨k, rfl⟩ : ∃ j, k = j + 1 := ⟨k - 1, by omega⟩
  rw [recv_nil e, bsome, signalman_player_do.l1, if_neg (by simp), List.append_nil]
 | d + 1, s, o, hd, ho => by
  cases e : s.arq.order.ready with
  | nil => rw [e] at hd; cases hd
  | cons b r =>
   rw [e, List.length_cons] at hd
   obtain ⟨e', x, hx, x1, x2⟩ := recv_l1 p z d (onA s { s.arq with order := Or.ost s.arq.order s.arq.order.next s.arq.order.kept r }) (o ++ [hear p.w.now z.At b]) (by show r.length = d; omega) (by rw [List.length_append]; simp; omega)
   refine ⟨hear p.w.now z.At b :: e', x, fun k hk => ?_, fun C S q => x1 C S (recv_si q e), by have := recv_pot e; rw [List.length_cons]; omega⟩
   obtain ⟨k, rfl⟩ : ∃ j, k = j + 1 := ⟨k - 1, by omega⟩
   rw [recv_cons e, bsome, signalman_player_do.l1, if_pos rfl]
   unfold world_World_Now.f
   rw [bsome, if_pos (by simp only [List.length_cons, List.length_nil]; omega)]
   refine Eq.trans (hx k (by omega)) ?_
   rw [List.append_assoc]; rfl
end Pl
namespace Pl
open Fr (By)
open Aq (AI big)
open St
open Po (pot)
open Wg
def upS (z : api_Op) (at_ e S : Int) : Int := S + if z.Kind = 4 ∧ z.At = at_ ∧ e = 0 then 1 else 0
theorem upS_no {z : api_Op} (h : z.Kind ≠ 4) (at_ e S : Int) : upS z at_ e S = S := by unfold upS; rw [if_neg (fun q => h q.1), Int.add_zero]
theorem upS_at {z : api_Op} {at_ : Int} (h : z.At ≠ at_) (e S : Int) : upS z at_ e S = S := by unfold upS; rw [if_neg (fun q => h q.2.1), Int.add_zero]
def cost (z : api_Op) : Nat := if z.Kind = 1 then (imin z.N 100000).toNat else 0
theorem st_connect {s : station_Station} {C : Nat} {S : Int} (h : SI s C S) (hC : C + 30000 ≤ big) {k : Nat} (hk : 20 ≤ k) : station_Station_Connect.f k s = some ((Aq.connect s.arq).1, onA s (Aq.connect s.arq).2) := by
 unfold station_Station_Connect.f; rw [Aq.connect_eq h.arq (by omega) hk, bsome]; rfl
theorem st_close {s : station_Station} {C : Nat} {S : Int} (h : SI s C S) (hC : C + 30000 ≤ big) {k : Nat} (hk : 20 ≤ k) : station_Station_Close.f k s = some ((Aq.close s.arq).1, onA s (Aq.close s.arq).2) := by
 unfold station_Station_Close.f; rw [Aq.close_eq h.arq (by omega) hk, bsome]; rfl
theorem st_send {s : station_Station} {C : Nat} {S : Int} (h : SI s C S) (hC : C + 30000 ≤ big) (b : List Int) {k : Nat} (hk : 5000 ≤ k) : station_Station_Send.f k s b = some ((Aq.send s.arq b).1, onA s (Aq.send s.arq b).2) := by
 unfold station_Station_Send.f; rw [Aq.send_eq h.arq (by omega) b hk, bsome]; rfl
variable {p : signalman_player} {C N P : Nat} {S1 S2 : Int}
theorem PL.more {D M Q : Nat} (h : PL p C N P S1 S2) (l1 : C ≤ D) (l2 : N ≤ M) (l3 : P ≤ Q) : PL p D M Q S1 S2 := ⟨h.w.more l1 l1 l2 l3, Nat.le_trans h.pot l3⟩
theorem set0 (h : PL p C N P S1 S2) {a : arq_Arq} {T : Int} (ha : AI a (C + 20000)) (hb : Bo.BO a T) (hp : pot a ≤ pot p.w.stations.1.arq) : PL { w := { p.w with stations := (onA p.w.stations.1 a, p.w.stations.2) }, out := p.out } (C + 20000) N P T S2 := by
 have h1 := h.pot
 have h2 := h.w.pot
 refine ⟨{ h.w.more (D1 := C + 20000) (D2 := C + 20000) (M := N) (Q := P) (by omega) (by omega) (by omega) (by omega) with one := onA_si h.w.one (by omega) ha hb, pot := ?_ }, ?_⟩
 ·show pot a + pot p.w.stations.2.arq ≤ P; omega
 ·show p.out.length + (pot a + pot p.w.stations.2.arq) ≤ P; omega
theorem set1 (h : PL p C N P S1 S2) {a : arq_Arq} {T : Int} (ha : AI a (C + 20000)) (hb : Bo.BO a T) (hp : pot a ≤ pot p.w.stations.2.arq) : PL { w := { p.w with stations := (p.w.stations.1, onA p.w.stations.2 a) }, out := p.out } (C + 20000) N P S1 T := by
 have h1 := h.pot
 have h2 := h.w.pot
 refine ⟨{ h.w.more (D1 := C + 20000) (D2 := C + 20000) (M := N) (Q := P) (by omega) (by omega) (by omega) (by omega) with two := onA_si h.w.two (by omega) ha hb, pot := ?_ }, ?_⟩
 ·show pot p.w.stations.1.arq + pot a ≤ P; omega
 ·show p.out.length + (pot p.w.stations.1.arq + pot a) ≤ P; omega
def Done (p : signalman_player) (z : api_Op) (e : Int) (q : signalman_player) : Prop := ∀ k, KK + 200000 ≤ k → signalman_player_do.f k p z = some (e, q)
theorem do_0 (h : PL p C N P S1 S2) (hC : C + 1000000 ≤ big) (hP : P ≤ 900000000000) {z : api_Op} (k1 : z.Kind ≠ 1) (k7 : z.Kind ≠ 7) (ha : z.At = 0) (hB : By z.B) :
  ∃ e q, Done p z e q ∧ PL q (C + 20000) N P (upS z 0 e S1) (upS z 1 e S2) ∧ ∃ e', q.out = p.out ++ e' := by
 have ho := h.w.one
 have hpot := h.pot
 have KKv : KK = 3000000000000 := rfl
 have other : ∀ e S, upS z 1 e S = S := fun e S => upS_at (by omega) e S
 have head : ∀ k, signalman_player_do.f k p z = (if z.Kind = 2 then ((station_Station_Connect.f k p.w.stations.1).bind fun t => some (t.1, ({ w := { p.w with stations := (t.2, p.w.stations.2) }, out := p.out } : signalman_player))) else if z.Kind = 3 then ((station_Station_Close.f k p.w.stations.1).bind fun t => some (t.1, { w := { p.w with stations := (t.2, p.w.stations.2) }, out := p.out }))
   else if z.Kind = 4 then ((station_Station_Send.f k p.w.stations.1 z.B).bind fun t => some (t.1, { w := { p.w with stations := (t.2, p.w.stations.2) }, out := p.out })) else if z.Kind = 5 then ((station_Station_Recv.f p.w.stations.1).bind fun t => signalman_player_do.l0 k p z t.2.1 t.1 t.2.2 p.out)
   else if z.Kind = 6 then ((station_Station_Command.f p.w.stations.1 z.N).bind fun t => (signalman_wrong.f (!t.1)).bind fun u => some (u, { w := { p.w with stations := (t.2, p.w.stations.2) }, out := p.out })) else some (1, p)) := by
  intro k
  unfold signalman_player_do.f
  rw [if_neg k1, if_neg k7, if_pos (by omega), if_pos (by omega), if_pos (by omega), if_pos ha]
 by_cases k2 : z.Kind = 2
 ·refine ⟨(Aq.connect p.w.stations.1.arq).1, { w := { p.w with stations := (onA p.w.stations.1 (Aq.connect p.w.stations.1.arq).2, p.w.stations.2) }, out := p.out }, fun k hk => ?_, ?_, [], (List.append_nil _).symm⟩
  ·rw [head, if_pos k2, st_connect ho (by omega) (by omega), bsome]
  ·rw [upS_no (by omega), upS_no (by omega)]
   exact set0 h ((Aq.connect_ai ho.arq).more (by omega)) (Bo.connect ho.arq ho.bo) (by rw [Po.connect]; exact Nat.le_refl _)
 by_cases k3 : z.Kind = 3
 ·refine ⟨(Aq.close p.w.stations.1.arq).1, { w := { p.w with stations := (onA p.w.stations.1 (Aq.close p.w.stations.1.arq).2, p.w.stations.2) }, out := p.out }, fun k hk => ?_, ?_, [], (List.append_nil _).symm⟩
  ·rw [head, if_neg k2, if_pos k3, st_close ho (by omega) (by omega), bsome]
  ·rw [upS_no (by omega), upS_no (by omega)]
   exact set0 h ((Aq.close_ai ho.arq).more (by omega)) (Bo.close ho.arq ho.bo) Po.close
 by_cases k4 : z.Kind = 4
 ·refine ⟨(Aq.send p.w.stations.1.arq z.B).1, { w := { p.w with stations := (onA p.w.stations.1 (Aq.send p.w.stations.1.arq z.B).2, p.w.stations.2) }, out := p.out }, fun k hk => ?_, ?_, [], (List.append_nil _).symm⟩
  ·rw [head, if_neg k2, if_neg k3, if_pos k4, st_send ho (by omega) z.B (by omega), bsome]
  ·rw [other]
   have e : ∀ S, upS z 0 (Aq.send p.w.stations.1.arq z.B).1 S = S + if (Aq.send p.w.stations.1.arq z.B).1 = 0 then 1 else 0 := by
    intro S; unfold upS
    by_cases c : (Aq.send p.w.stations.1.arq z.B).1 = 0
    ·rw [if_pos c, if_pos ⟨k4, ha, c⟩]
    ·rw [if_neg c, if_neg (fun q => c q.2.2)]
   rw [e]
   exact set0 h ((Aq.send_ai ho.arq z.B).more (by omega)) (Bo.send ho.arq ho.bo hB) (by rw [Po.send]; exact Nat.le_refl _)
 by_cases k5 : z.Kind = 5
 ·obtain ⟨e', x, hx, x1, x2⟩ := recv_l0 p z p.w.stations.1.arq.order.ready.length p.w.stations.1 p.out rfl (by unfold Po.pot at hpot; omega)
  refine ⟨0, { w := { p.w with stations := (x, p.w.stations.2) }, out := p.out ++ e' }, fun k hk => ?_, ?_, e', rfl⟩
  ·rw [head, if_neg k2, if_neg k3, if_neg k4, if_pos k5]
   exact hx k (by unfold Po.pot at hpot; omega)
  ·rw [upS_no (by omega), upS_no (by omega)]
   have h2 := h.w.pot
   refine ⟨{ h.w.more (D1 := C + 20000) (D2 := C + 20000) (M := N) (Q := P) (by omega) (by omega) (by omega) (by omega) with one := (x1 _ _ ho).more (by omega), pot := ?_ }, ?_⟩
   ·dsimp only; omega
   ·dsimp only; rw [List.length_append]; omega
 by_cases k6 : z.Kind = 6
 ·obtain ⟨a, hac⟩ := acom_ok p.w.stations.1.aps z.N
  obtain ⟨u, hu⟩ := wrong_ok (!a.1)
  refine ⟨u, { w := { p.w with stations := ({ p.w.stations.1 with aps := a.2 }, p.w.stations.2) }, out := p.out }, fun k hk => ?_, ?_, [], (List.append_nil _).symm⟩
  ·rw [head, if_neg k2, if_neg k3, if_neg k4, if_neg k5, if_pos k6]
   unfold station_Station_Command.f
   rw [hac, bsome, bsome, hu, bsome]
  ·rw [upS_no (by omega), upS_no (by omega)]
   exact ⟨{ h.w.more (D1 := C + 20000) (D2 := C + 20000) (M := N) (Q := P) (by omega) (by omega) (by omega) (by omega) with one := { ho.more (D := C + 20000) (by omega) with } }, h.pot⟩
 ·refine ⟨1, p, fun k hk => by rw [head, if_neg k2, if_neg k3, if_neg k4, if_neg k5, if_neg k6], ?_, [], (List.append_nil _).symm⟩
  rw [upS_no k4, upS_no k4]
  exact h.more (by omega) (Nat.le_refl _) (Nat.le_refl _)
theorem do_1 (h : PL p C N P S1 S2) (hC : C + 1000000 ≤ big) (hP : P ≤ 900000000000) {z : api_Op} (k1 : z.Kind ≠ 1) (k7 : z.Kind ≠ 7) (ha : z.At = 1) (hB : By z.B) :
  ∃ e q, Done p z e q ∧ PL q (C + 20000) N P (upS z 0 e S1) (upS z 1 e S2) ∧ ∃ e', q.out = p.out ++ e' := by
 have ho := h.w.two
 have hpot := h.pot
 have KKv : KK = 3000000000000 := rfl
 have other : ∀ e S, upS z 0 e S = S := fun e S => upS_at (by omega) e S
 have head : ∀ k, signalman_player_do.f k p z = (if z.Kind = 2 then ((station_Station_Connect.f k p.w.stations.2).bind fun t => some (t.1, ({ w := { p.w with stations := (p.w.stations.1, t.2) }, out := p.out } : signalman_player))) else if z.Kind = 3 then ((station_Station_Close.f k p.w.stations.2).bind fun t => some (t.1, { w := { p.w with stations := (p.w.stations.1, t.2) }, out := p.out }))
   else if z.Kind = 4 then ((station_Station_Send.f k p.w.stations.2 z.B).bind fun t => some (t.1, { w := { p.w with stations := (p.w.stations.1, t.2) }, out := p.out })) else if z.Kind = 5 then ((station_Station_Recv.f p.w.stations.2).bind fun t => signalman_player_do.l1 k p z t.2.1 t.1 t.2.2 p.out)
   else if z.Kind = 6 then ((station_Station_Command.f p.w.stations.2 z.N).bind fun t => (signalman_wrong.f (!t.1)).bind fun u => some (u, { w := { p.w with stations := (p.w.stations.1, t.2) }, out := p.out })) else some (1, p)) := by
  intro k
  unfold signalman_player_do.f
  rw [if_neg k1, if_neg k7, if_pos (by omega), if_pos (by omega), if_pos (by omega), if_neg (by omega)]
 by_cases k2 : z.Kind = 2
 ·refine ⟨(Aq.connect p.w.stations.2.arq).1, { w := { p.w with stations := (p.w.stations.1, onA p.w.stations.2 (Aq.connect p.w.stations.2.arq).2) }, out := p.out }, fun k hk => ?_, ?_, [], (List.append_nil _).symm⟩
  ·rw [head, if_pos k2, st_connect ho (by omega) (by omega), bsome]
  ·rw [upS_no (by omega), upS_no (by omega)]
   exact set1 h ((Aq.connect_ai ho.arq).more (by omega)) (Bo.connect ho.arq ho.bo) (by rw [Po.connect]; exact Nat.le_refl _)
 by_cases k3 : z.Kind = 3
 ·refine ⟨(Aq.close p.w.stations.2.arq).1, { w := { p.w with stations := (p.w.stations.1, onA p.w.stations.2 (Aq.close p.w.stations.2.arq).2) }, out := p.out }, fun k hk => ?_, ?_, [], (List.append_nil _).symm⟩
  ·rw [head, if_neg k2, if_pos k3, st_close ho (by omega) (by omega), bsome]
  ·rw [upS_no (by omega), upS_no (by omega)]
   exact set1 h ((Aq.close_ai ho.arq).more (by omega)) (Bo.close ho.arq ho.bo) Po.close
 by_cases k4 : z.Kind = 4
 ·refine ⟨(Aq.send p.w.stations.2.arq z.B).1, { w := { p.w with stations := (p.w.stations.1, onA p.w.stations.2 (Aq.send p.w.stations.2.arq z.B).2) }, out := p.out }, fun k hk => ?_, ?_, [], (List.append_nil _).symm⟩
  ·rw [head, if_neg k2, if_neg k3, if_pos k4, st_send ho (by omega) z.B (by omega), bsome]
  ·rw [other]
   have e : ∀ S, upS z 1 (Aq.send p.w.stations.2.arq z.B).1 S = S + if (Aq.send p.w.stations.2.arq z.B).1 = 0 then 1 else 0 := by
    intro S; unfold upS
    by_cases c : (Aq.send p.w.stations.2.arq z.B).1 = 0
    ·rw [if_pos c, if_pos ⟨k4, ha, c⟩]
    ·rw [if_neg c, if_neg (fun q => c q.2.2)]
   rw [e]
   exact set1 h ((Aq.send_ai ho.arq z.B).more (by omega)) (Bo.send ho.arq ho.bo hB) (by rw [Po.send]; exact Nat.le_refl _)
 by_cases k5 : z.Kind = 5
 ·obtain ⟨e', x, hx, x1, x2⟩ := recv_l1 p z p.w.stations.2.arq.order.ready.length p.w.stations.2 p.out rfl (by unfold Po.pot at hpot; omega)
  refine ⟨0, { w := { p.w with stations := (p.w.stations.1, x) }, out := p.out ++ e' }, fun k hk => ?_, ?_, e', rfl⟩
  ·rw [head, if_neg k2, if_neg k3, if_neg k4, if_pos k5]
   exact hx k (by unfold Po.pot at hpot; omega)
  ·rw [upS_no (by omega), upS_no (by omega)]
   have h2 := h.w.pot
   refine ⟨{ h.w.more (D1 := C + 20000) (D2 := C + 20000) (M := N) (Q := P) (by omega) (by omega) (by omega) (by omega) with two := (x1 _ _ ho).more (by omega), pot := ?_ }, ?_⟩
   ·dsimp only; omega
   ·dsimp only; rw [List.length_append]; omega
 by_cases k6 : z.Kind = 6
 ·obtain ⟨a, hac⟩ := acom_ok p.w.stations.2.aps z.N
  obtain ⟨u, hu⟩ := wrong_ok (!a.1)
  refine ⟨u, { w := { p.w with stations := (p.w.stations.1, { p.w.stations.2 with aps := a.2 }) }, out := p.out }, fun k hk => ?_, ?_, [], (List.append_nil _).symm⟩
  ·rw [head, if_neg k2, if_neg k3, if_neg k4, if_neg k5, if_pos k6]
   unfold station_Station_Command.f
   rw [hac, bsome, bsome, hu, bsome]
  ·rw [upS_no (by omega), upS_no (by omega)]
   exact ⟨{ h.w.more (D1 := C + 20000) (D2 := C + 20000) (M := N) (Q := P) (by omega) (by omega) (by omega) (by omega) with two := { ho.more (D := C + 20000) (by omega) with } }, h.pot⟩
 ·refine ⟨1, p, fun k hk => by rw [head, if_neg k2, if_neg k3, if_neg k4, if_neg k5, if_neg k6], ?_, [], (List.append_nil _).symm⟩
  rw [upS_no k4, upS_no k4]
  exact h.more (by omega) (Nat.le_refl _) (Nat.le_refl _)
theorem do_ok {a b c : Nat} (ea : a = 106510000) (eb : b = 1070000) (ec : c = 17000) (h : PL p C N P S1 S2) {z : api_Op} (hB : By z.B) (hC : C + a * cost z + 400000000 ≤ big) (hN : N + b * cost z ≤ 900000000000) (hP : P + c * cost z ≤ 900000000000) :
  ∃ e q, Done p z e q ∧ PL q (C + a * cost z + 20000) (N + b * cost z) (P + c * cost z) (upS z 0 e S1) (upS z 1 e S2) ∧ (z.Kind = 1 ∧ 0 < z.N → q.w.stations.1.arq.inds = [] ∧ q.w.stations.2.arq.inds = []) ∧ ∃ e', q.out = p.out ++ e' := by
 have KKv : KK = 3000000000000 := rfl
 by_cases k1 : z.Kind = 1
 ·have ez : cost z = (imin z.N 100000).toNat := if_pos k1
  have hm : imin z.N 100000 ≤ 100000 := by unfold imin; split <;> omega
  obtain ⟨q, hq, q1, q2, e', he'⟩ := many_ok ea eb ec (cost z) h hC hN hP
  obtain ⟨u, hu⟩ := wrong_ok (decide (z.N < 0))
  refine ⟨u, q, fun k hk => ?_, ?_, fun g => q2 (by rw [ez]; unfold imin; split <;> omega), e', he'⟩
  ·unfold signalman_player_do.f signalman_player_steps.f
   rw [if_pos k1, steps_l0 (cost z) 0 p q k (by decide) (by decide) (by omega) hq (by omega), bsome, hu, bsome]
  ·rw [upS_no (by omega), upS_no (by omega)]
   exact q1.more (by omega) (Nat.le_refl _) (Nat.le_refl _)
 have ez : cost z = 0 := if_neg k1
 rw [ez, Nat.mul_zero] at hC hN hP
 rw [ez, Nat.mul_zero, Nat.mul_zero, Nat.mul_zero]
 have no : (z.Kind = 1 ∧ 0 < z.N → ∀ X : Prop, X) := fun g => absurd g.1 k1
 by_cases k7 : z.Kind = 7
 ·obtain ⟨f, hf, f1⟩ := first_ok hB
  obtain ⟨r, hr, r1, r2⟩ := fault_ok h.w z.Line z.At z.Fault z.N f1
  obtain ⟨u, hu⟩ := wrong_ok (!r.1)
  refine ⟨u, { w := r.2, out := p.out }, fun k hk => ?_, ?_, fun g => absurd g.1 k1, [], (List.append_nil _).symm⟩
  ·unfold signalman_player_do.f
   rw [if_neg k1, if_pos k7, hf, bsome, hr, bsome, hu, bsome]
  ·rw [upS_no (by omega), upS_no (by omega)]
   refine PL.more (p := { w := r.2, out := p.out }) ⟨r1, ?_⟩ (by omega) (Nat.le_refl _) (Nat.le_refl _)
   dsimp only; rw [r2]; exact h.pot
 by_cases a0 : z.At = 0
 ·obtain ⟨e, q, h1, h2, h3⟩ := do_0 h (by omega) (by omega) k1 k7 a0 hB
  exact ⟨e, q, h1, h2, fun g => absurd g.1 k1, h3⟩
 by_cases a1 : z.At = 1
 ·obtain ⟨e, q, h1, h2, h3⟩ := do_1 h (by omega) (by omega) k1 k7 a1 hB
  exact ⟨e, q, h1, h2, fun g => absurd g.1 k1, h3⟩
 refine ⟨1, p, fun k hk => ?_, ?_, fun g => absurd g.1 k1, [], (List.append_nil _).symm⟩
 ·unfold signalman_player_do.f
  rw [if_neg k1, if_neg k7]
  by_cases a2 : z.At ≥ 0
  ·rw [if_pos a2, if_neg (by omega)]
  ·rw [if_neg a2]
 ·rw [upS_at a0, upS_at a1]; exact h.more (by omega) (Nat.le_refl _) (Nat.le_refl _)
end Pl
namespace Pl
open Fr (By)
open Aq (AI big)
open St
open Po (pot)
open Wg
def Runs : List api_Op → signalman_player → List Int → signalman_player → Prop
 | [], p, es, q => es = [] ∧ q = p
 | z :: l, p, es, q => ∃ e m es', Done p z e m ∧ Runs l m es' q ∧ es = e :: es'
def costs : List api_Op → Nat
 | [] => 0
 | z :: l => cost z + costs l
theorem runs_app : ∀ (l : List api_Op) {m : List api_Op} {p q r : signalman_player} {e f : List Int}, Runs l p e q → Runs m q f r → Runs (l ++ m) p (e ++ f) r
 | [], m, p, q, r, e, f, h1, h2 => by obtain ⟨rfl, rfl⟩ := h1; exact h2
 | z :: l, m, p, q, r, e, f, h1, h2 => by
  obtain ⟨x, y, es, a1, a2, rfl⟩ := h1
  exact ⟨x, y, es ++ f, a1, runs_app l a2 h2, rfl⟩
def ups (b : Int) : List api_Op → List Int → Int → Int
 | z :: l, e :: es, S => ups b l es (upS z b e S)
 | _, _, S => S
theorem runs_ok {a b c : Nat} (ea : a = 106510000) (eb : b = 1070000) (ec : c = 17000) : ∀ (l : List api_Op) {p : signalman_player} {C N P : Nat} {S1 S2 : Int}, PL p C N P S1 S2 → (∀ z ∈ l, By z.B) → C + a * costs l + 20000 * l.length + 400000000 ≤ big → N + b * costs l ≤ 900000000000 → P + c * costs l ≤ 900000000000 →
  ∃ es q, Runs l p es q ∧ PL q (C + a * costs l + 20000 * l.length) (N + b * costs l) (P + c * costs l) (ups 0 l es S1) (ups 1 l es S2) ∧ ∃ e', q.out = p.out ++ e'
 | [], p, C, N, P, S1, S2, h, _, _, _, _ => ⟨[], p, ⟨rfl, rfl⟩, by show PL p (C + a * 0 + 20000 * 0) (N + b * 0) (P + c * 0) S1 S2; rw [Nat.mul_zero, Nat.mul_zero, Nat.mul_zero, Nat.mul_zero]; exact h, [], (List.append_nil _).symm⟩
 | z :: l, p, C, N, P, S1, S2, h, hB, hC, hN, hP => by
  have e0 : costs (z :: l) = cost z + costs l := rfl
  have e1 : a * costs (z :: l) = a * cost z + a * costs l := by rw [e0, Nat.mul_add]
  have e2 : b * costs (z :: l) = b * cost z + b * costs l := by rw [e0, Nat.mul_add]
  have e3 : c * costs (z :: l) = c * cost z + c * costs l := by rw [e0, Nat.mul_add]
  have e4 : 20000 * (z :: l).length = 20000 * l.length + 20000 := by rw [List.length_cons, Nat.mul_succ]
  obtain ⟨e, m, m1, m2, _, f, hf⟩ := do_ok ea eb ec h (z := z) (hB z (List.mem_cons_self ..)) (by omega) (by omega) (by omega)
  obtain ⟨es, q, q1, q2, f', hf'⟩ := runs_ok ea eb ec l m2 (fun y hy => hB y (List.mem_cons_of_mem _ hy)) (by omega) (by omega) (by omega)
  exact ⟨e :: es, q, ⟨e, m, es, m1, q1, rfl⟩, q2.more (by omega) (by omega) (by omega), f ++ f', by rw [hf', hf, List.append_assoc]⟩
theorem play_l0 (l : List api_Op) (hl : l.length ≤ 1000000) {C N P : Nat} {S1 S2 : Int} : ∀ (d i : Nat) (p q : signalman_player) (acc es : List Int) (k : Nat), i + d = l.length → acc.length = i → Runs (l.drop i) p es q → PL q C N P S1 S2 → P ≤ 900000000000 → d + KK + 300000 ≤ k →
  signalman_play.l0 k l (i : Int) p acc = some (some (indsP q), acc ++ es)
 | 0, i, p, q, acc, es, k, hi, ha, h, hq, hP, hk => by
  have KKv : KK = 3000000000000 := rfl
  have hp := hq.pot
  obtain ⟨k, rfl⟩ : ∃ j, k = j + 1 := ⟨k - 1, by omega⟩
  rw [List.drop_eq_nil_of_le (by omega)] at h
  obtain ⟨rfl, rfl⟩ := h
  rw [signalman_play.l0, if_neg (by omega), inds_eq _ (by omega) (by omega), bsome, List.append_nil]
 | d + 1, i, p, q, acc, es, k, hi, ha, h, hq, hP, hk => by
  obtain ⟨k, rfl⟩ : ∃ j, k = j + 1 := ⟨k - 1, by omega⟩
  have hlt : i < l.length := by omega
  have eg : l.getD ((i : Int)).toNat default = l[i] := by simp [List.getD, hlt]
  rw [← List.getElem_cons_drop hlt] at h
  obtain ⟨e, m, es', h1, h2, rfl⟩ := h
  rw [signalman_play.l0, if_pos (by omega), if_pos (by omega), eg, h1 k (by omega), bsome, if_pos (by simp only [List.length_cons, List.length_nil]; omega), w64_in ⟨by omega, by omega⟩]
  have r := play_l0 l hl d (i + 1) m q (acc ++ [e]) es' k (by omega) (by rw [List.length_append]; simp; omega) h2 hq hP (by omega)
  rw [show ((i : Int) + 1) = ((i + 1 : Nat) : Int) by omega]
  refine Eq.trans r ?_
  rw [List.append_assoc]; rfl
theorem start_p {c : api_Config} (h : okB c = true) : ∃ p : signalman_player, PL p 0 0 0 0 0 ∧ p.out = [] ∧ ∀ (l : List api_Op), l.length ≤ 1000000 → ∀ (es : List Int) (q : signalman_player) (C N P : Nat) (S1 S2 : Int), Runs l p es q → PL q C N P S1 S2 → P ≤ 900000000000 →
  ∀ k, KK + 2000000 ≤ k → signalman_play.f k c l = some (some (indsP q), es) := by
 have KKv : KK = 3000000000000 := rfl
 obtain ⟨s, hs, hi, _, _, _, _, _, ha⟩ := new_ok h
 obtain ⟨x, hx, x1⟩ := pnew (w64 ((w64 (2 * c.Ring)) + c.Rate))
 have o := ok_of h
 have hp : pot s.arq = 0 := by rw [ha]; rfl
 have y : WY { pipe := x, sent := [], got := [] } 0 := ⟨x1, Nat.le_refl _, Nat.le_refl _⟩
 refine ⟨{ w := { c := c, stations := (s, s), ways := (({ pipe := x, sent := [], got := [] }, { pipe := x, sent := [], got := [] }), ({ pipe := x, sent := [], got := [] }, { pipe := x, sent := [], got := [] })), now := 0 }, out := [] }, ⟨⟨o.rate, hi, hi, by dsimp only; omega, y, y, y, y, by dsimp only; omega⟩, by dsimp only; rw [hp]; exact Nat.le_refl _⟩, rfl, fun l hl es q C N P S1 S2 hr hq hP k hk => ?_⟩
 have hw : world_New.f k c = some (some { c := c, stations := (s, s), ways := (({ pipe := x, sent := [], got := [] }, { pipe := x, sent := [], got := [] }), ({ pipe := x, sent := [], got := [] }, { pipe := x, sent := [], got := [] })), now := 0 }, 0) := by
  unfold world_New.f
  rw [hs _ (by omega), bsome, if_neg (show ¬ ((some s : Option station_Station).isNone = true) by simp), if_pos rfl, hx, bsome, bsome, bsome, if_neg (show ¬ ((some s : Option station_Station).isNone = true) by simp), if_pos rfl, bsome, bsome]
  rfl
 unfold signalman_play.f
 rw [hw, bsome, if_neg (show ¬ ((some _ : Option world_World).isNone = true) by simp), if_pos rfl]
 have r := play_l0 l hl l.length 0 _ q [] es k (by omega) rfl (by rw [List.drop_zero]; exact hr) hq hP (by omega)
 exact r
theorem start_ok {c : api_Config} (h : okB c = true) : ∃ p : signalman_player, PL p 0 0 0 0 0 ∧ p.out = [] ∧ ∀ (l : List api_Op), l.length ≤ 1000000 → ∀ (es : List Int) (q : signalman_player) (C N P : Nat) (S1 S2 : Int), Runs l p es q → PL q C N P S1 S2 → P ≤ 900000000000 →
  ∀ k, KK + 2000000 ≤ k → signalman_Play.f k c l = some ((indsP q).out, es) := by
 obtain ⟨p, h1, h2, h3⟩ := start_p h
 refine ⟨p, h1, h2, fun l hl es q C N P S1 S2 hr hq hP k hk => ?_⟩
 unfold signalman_Play.f
 rw [h3 l hl es q C N P S1 S2 hr hq hP k hk, bsome]
 exact if_neg (by simp)
theorem start_no {c : api_Config} (h : okB c ≠ true) (l : List api_Op) (k : Nat) : signalman_Play.f k c l = some ([], [1]) := by
 unfold signalman_Play.f signalman_play.f world_New.f
 rw [new_no h, bsome, if_pos (show (none : Option station_Station).isNone = true from rfl), if_neg (by decide), bsome, if_pos (show (none : Option world_World).isNone = true from rfl), if_neg (by decide), bsome]
 exact if_pos rfl
end Pl
namespace Rv
structure M where
 st : Int
 row : Int
 sil : Int
deriving DecidableEq
structure Sn where
 ap : aps_Aps
 st : Int
 r1 : frame_Reader
 m1 : M
 g1 : ring_Ring
 r2 : frame_Reader
 m2 : M
 g2 : ring_Ring
deriving DecidableEq
structure A where
 s1 : Sn
 s2 : Sn
 p11 : pipe_Pipe
 p12 : pipe_Pipe
 p21 : pipe_Pipe
 p22 : pipe_Pipe
deriving DecidableEq
def FK : Nat := 1100000
def tb : List (List Int × List Int × List Int) := [([1, 0, 255], [1, 0, 255, 104, 147], [126, 1, 0, 255, 104, 147, 126]), ([1, 16, 239], [1, 16, 239, 120, 22], [126, 1, 16, 239, 120, 22, 126]), ([1, 32, 223], [1, 32, 223, 89, 145], [126, 1, 32, 223, 89, 145, 126]), ([1, 80, 175], [1, 80, 175, 26, 18], [126, 1, 80, 175, 26, 18, 126]), ([1, 64, 191], [1, 64, 191, 10, 151], [126, 1, 64, 191, 10, 151, 126]), ([1, 112, 143], [1, 112, 143, 43, 16], [126, 1, 112, 143, 43, 16, 126]), ([1, 128, 127], [1, 128, 127, 172, 155], [126, 1, 128, 127, 172, 155, 126]), ([1, 48, 207], [1, 48, 207, 73, 20], [126, 1, 48, 207, 73, 20, 126]), ([1, 96, 159], [1, 96, 159, 59, 149], [126, 1, 96, 159, 59, 149, 126]), ([1, 1, 254], [1, 1, 254, 57, 155], [126, 1, 1, 254, 57, 155, 126]), ([1, 17, 238], [1, 17, 238, 41, 30], [126, 1, 17, 238, 41, 30, 126]), ([1, 33, 222], [1, 33, 222, 8, 153], [126, 1, 33, 222, 8, 153, 126]), ([1, 81, 174], [1, 81, 174, 75, 26], [126, 1, 81, 174, 75, 26, 126]), ([1, 65, 190], [1, 65, 190, 91, 159], [126, 1, 65, 190, 91, 159, 126]), ([1, 113, 142], [1, 113, 142, 122, 24], [126, 1, 113, 142, 122, 24, 126]), ([1, 129, 126], [1, 129, 126, 253, 147], [126, 1, 129, 125, 94, 253, 147, 126]), ([1, 49, 206], [1, 49, 206, 24, 28], [126, 1, 49, 206, 24, 28, 126]), ([1, 97, 158], [1, 97, 158, 106, 157], [126, 1, 97, 158, 106, 157, 126])]
def lookB (b : List Int) : List (List Int × List Int × List Int) → Option (List Int)
 | [] => none
 | e :: l => if e.2.1 = b then some e.1 else lookB b l
def lookF (b : List Int) : List (List Int × List Int × List Int) → Option (List Int)
 | [] => none
 | e :: l => if e.1 = b then some e.2.2 else lookF b l
def rpush (r : frame_Reader) (c : Int) : Option (Int × List Int × frame_Reader) :=
 if c = 126 ∧ r.state = 2 ∧ r.wide = false then
  match lookB r.b tb with
  | some x => some (1, x, { r with state := 1, b := [] })
  | none => frame_Reader_Push.f FK r c
 else frame_Reader_Push.f FK r c
def fput (b : List Int) : Option (List Int) :=
 match lookF b tb with
 | some x => some x
 | none => frame_Put.f FK b false
def EM (m : monitor_Monitor) : M := ⟨m.state, imin m.row 2, imin m.silence 96⟩
def ES (s : station_Station) : Sn := ⟨s.aps, s.steps % 32, s.sides.1.reader, EM s.sides.1.monitor, s.sides.1.ring, s.sides.2.reader, EM s.sides.2.monitor, s.sides.2.ring⟩
def EW (w : world_World) : A := ⟨ES w.stations.1, ES w.stations.2, w.ways.1.1.pipe, w.ways.1.2.pipe, w.ways.2.1.pipe, w.ways.2.2.pipe⟩
def qpass (m : M) : Int × M := if 96 ≤ m.sil + 1 then (2, ⟨2, 0, 96⟩) else (m.st, { m with sil := m.sil + 1 })
def qnote (m : M) : M := ⟨if m.st ≠ 0 ∧ 2 ≤ m.row + 1 then 0 else m.st, imin (m.row + 1) 2, 0⟩
def sstep (s : Sn) : Option Sn :=
  (aps_Aps_Pass.f s.ap (qpass s.m1).1 (qpass s.m2).1).bind fun t =>
   if s.st = 31 then
    (kcode_Put.f t.2.own t.1).bind fun q => (fput ([1] ++ q)).bind fun f =>
     (ring_Ring_Add.f s.g1 f).bind fun a => (ring_Ring_Add.f s.g2 f).bind fun b =>
      some { s with ap := t.2, st := 0, m1 := (qpass s.m1).2, g1 := a.2, m2 := (qpass s.m2).2, g2 := b.2 }
   else some { s with ap := t.2, st := s.st + 1, m1 := (qpass s.m1).2, m2 := (qpass s.m2).2 }
def rok (r : frame_Reader) : Bool := decide (r.most = 33 ∧ 0 ≤ r.state ∧ r.state ≤ 4 ∧ r.b.length ≤ 33) && r.b.all fun z => decide (0 ≤ z ∧ z < 256)
def gd (r : frame_Reader) (c : Int) : Bool := if c = 126 then rok r else true
def push1 (s : Sn) (c : Int) : Option Sn :=
 if gd s.r1 c = true then
  (rpush s.r1 c).bind fun t =>
   if t.1 = 1 then
    if t.2.1.getD 0 0 = 1 then some { s with r1 := t.2.2, m1 := qnote s.m1 } else none
   else if t.1 = 2 ∨ t.1 = 0 then some { s with r1 := t.2.2 }
   else none
 else none
def push2 (s : Sn) (c : Int) : Option Sn :=
 if gd s.r2 c = true then
  (rpush s.r2 c).bind fun t =>
   if t.1 = 1 then
    if t.2.1.getD 0 0 = 1 then
     (kcode_Read.f (cut t.2.1 1 t.2.1.length)).bind fun q =>
      if q.2.2 = 0 then (aps_Aps_Remote.f s.ap q.1).bind fun p => some { s with r2 := t.2.2, m2 := qnote s.m2, ap := p }
      else some { s with r2 := t.2.2, m2 := qnote s.m2 } else none
   else if t.1 = 2 ∨ t.1 = 0 then some { s with r2 := t.2.2 }
   else none
 else none
def pushes (f : Sn → Int → Option Sn) : List Int → Sn → Option Sn
 | [], s => some s
 | c :: l, s => (f s c).bind (pushes f l)
def room (p : pipe_Pipe) (rate : Int) : Int := if p.cut = true then rate else imin rate (w64 (p.room - (p.b.length : Int)))
def step (rate : Int) (a : A) : Option A :=
 (sstep a.s1).bind fun s1 => (sstep a.s2).bind fun s2 =>
  (ring_Ring_Take.f FK s1.g1 (room a.p11 rate)).bind fun t1 => (pipe_Pipe_Put.f a.p11 t1.1).bind fun o1 =>
  (ring_Ring_Take.f FK s2.g1 (room a.p12 rate)).bind fun t2 => (pipe_Pipe_Put.f a.p12 t2.1).bind fun o2 =>
  (ring_Ring_Take.f FK s1.g2 (room a.p21 rate)).bind fun t3 => (pipe_Pipe_Put.f a.p21 t3.1).bind fun o3 =>
  (ring_Ring_Take.f FK s2.g2 (room a.p22 rate)).bind fun t4 => (pipe_Pipe_Put.f a.p22 t4.1).bind fun o4 =>
  (pipe_Pipe_Take.f o1.2 rate).bind fun v1 => (pushes push1 v1.1 { s2 with g1 := t2.2, g2 := t4.2 }).bind fun x2 =>
  (pipe_Pipe_Take.f o2.2 rate).bind fun v2 => (pushes push1 v2.1 { s1 with g1 := t1.2, g2 := t3.2 }).bind fun x1 =>
  (pipe_Pipe_Take.f o3.2 rate).bind fun v3 => (pushes push2 v3.1 x2).bind fun y2 =>
  (pipe_Pipe_Take.f o4.2 rate).bind fun v4 => (pushes push2 v4.1 x1).bind fun y1 =>
   some ⟨y1, y2, v1.2, v2.2, v3.2, v4.2⟩
structure B where
 s1 : Sn
 s2 : Sn
 c11 : Bool
 c12 : Bool
 c21 : Bool
 c22 : Bool
deriving DecidableEq
def toB (a : A) : B := ⟨a.s1, a.s2, a.p11.cut, a.p12.cut, a.p21.cut, a.p22.cut⟩
def EB (w : world_World) : B := toB (EW w)
def tk8 (g : ring_Ring) : Option (List Int × ring_Ring) := if g.b.isEmpty = true then some ([], g) else if g.b.length ≤ 8 then ring_Ring_Take.f FK g 8 else none
def via (c : Bool) (l : List Int) : List Int := if c = true then [] else l
def stp (a : B) : Option B :=
 (sstep a.s1).bind fun s1 => (sstep a.s2).bind fun s2 =>
  (tk8 s1.g1).bind fun t1 => (tk8 s2.g1).bind fun t2 => (tk8 s1.g2).bind fun t3 => (tk8 s2.g2).bind fun t4 =>
  (pushes push1 (via a.c11 t1.1) { s2 with g1 := t2.2, g2 := t4.2 }).bind fun x2 =>
  (pushes push1 (via a.c12 t2.1) { s1 with g1 := t1.2, g2 := t3.2 }).bind fun x1 =>
  (pushes push2 (via a.c21 t3.1) x2).bind fun y2 => (pushes push2 (via a.c22 t4.1) x1).bind fun y1 =>
   some { a with s1 := y1, s2 := y2 }
def idle (a : B) : Bool := !(decide (a.s1.st = 31)) && !(decide (a.s2.st = 31)) && a.s1.g1.b.isEmpty && a.s1.g2.b.isEmpty && a.s2.g1.b.isEmpty && a.s2.g2.b.isEmpty
def stf (a : B) : Option B :=
 if idle a = true then (sstep a.s1).bind fun s1 => (sstep a.s2).bind fun s2 => some { a with s1 := s1, s2 := s2 } else stp a
def it : Nat → B → Option B
 | 0, a => some a
 | n + 1, a => (stf a).bind (it n)
end Rv
namespace Rv
open Fr (By)
open Aq (AI big)
theorem tb_ok : (tb.all fun e => decide (frame_Put.f FK e.1 false = some e.2.2) && decide (frame_Reader_Push.f FK ⟨false, 33, 2, e.2.1⟩ 126 = some (1, e.1, ⟨false, 33, 1, []⟩))) = true := by kernel_rfl
theorem lookB_mem {b x : List Int} : ∀ {l : List (List Int × List Int × List Int)}, lookB b l = some x → ∃ e ∈ l, e.2.1 = b ∧ e.1 = x
 | [], h => nomatch h
 | e :: l, h => by
  unfold lookB at h
  by_cases c : e.2.1 = b
  ·rw [if_pos c] at h; exact ⟨e, List.mem_cons_self .., c, Option.some.inj h⟩
  ·rw [if_neg c] at h
   obtain ⟨d, hd, q⟩ := lookB_mem h
   exact ⟨d, List.mem_cons_of_mem _ hd, q⟩
theorem lookF_mem {b x : List Int} : ∀ {l : List (List Int × List Int × List Int)}, lookF b l = some x → ∃ e ∈ l, e.1 = b ∧ e.2.2 = x
 | [], h => nomatch h
 | e :: l, h => by
  unfold lookF at h
  by_cases c : e.1 = b
  ·rw [if_pos c] at h; exact ⟨e, List.mem_cons_self .., c, Option.some.inj h⟩
  ·rw [if_neg c] at h
   obtain ⟨d, hd, q⟩ := lookF_mem h
   exact ⟨d, List.mem_cons_of_mem _ hd, q⟩
theorem rpush_eq (r : frame_Reader) (c : Int) : rpush r c = frame_Reader_Push.f FK r c := by
 unfold rpush
 by_cases h : c = 126 ∧ r.state = 2 ∧ r.wide = false
 case neg => rw [if_neg h]
 rw [if_pos h]
 cases e : lookB r.b tb with
 | none => rfl
 | some x =>
  obtain ⟨d, hd, d1, d2⟩ := lookB_mem e
  have t := List.all_eq_true.1 tb_ok d hd
  rw [Bool.and_eq_true, decide_eq_true_iff, decide_eq_true_iff, d1, d2] at t
  have t := t.2
  obtain ⟨w, m, st, b⟩ := r
  obtain ⟨rfl, h1, h2⟩ := h
  have h1 : st = 2 := h1
  have h2 : w = false := h2
  subst h1 h2
  have hp : ∀ m, frame_Reader_Push.f FK ⟨false, m, 2, b⟩ 126 = (frame_Reader_ends.f FK ⟨false, m, 2, b⟩).bind fun t => some (t.1, t.2, ⟨false, m, 1, []⟩) := by
   intro m
   unfold frame_Reader_Push.f frame_Reader_flag.f
   rw [if_pos rfl, if_pos rfl]
   cases frame_Reader_ends.f FK ⟨false, m, 2, b⟩ <;> rfl
  have he : frame_Reader_ends.f FK ⟨false, m, 2, b⟩ = frame_Reader_ends.f FK ⟨false, 33, 2, b⟩ := rfl
  have t : frame_Reader_Push.f FK ⟨false, 33, 2, b⟩ 126 = some (1, x, ⟨false, 33, 1, []⟩) := t
  rw [hp] at t
  obtain ⟨u, hu, t⟩ := Option.bind_eq_some_iff.1 t
  have t := Option.some.inj t
  rw [hp, he, hu, bsome, ← (Prod.mk.inj t).1, ← (Prod.mk.inj (Prod.mk.inj t).2).1]
theorem fput_eq (b : List Int) : fput b = frame_Put.f FK b false := by
 unfold fput
 cases e : lookF b tb with
 | none => rfl
 | some x =>
  obtain ⟨d, hd, d1, d2⟩ := lookF_mem e
  have t := List.all_eq_true.1 tb_ok d hd
  rw [Bool.and_eq_true, decide_eq_true_iff, decide_eq_true_iff, d1, d2] at t
  exact t.1.symm
theorem rok_ri {r : frame_Reader} (h : rok r = true) : Fr.RI r := by
 unfold rok at h
 rw [Bool.and_eq_true, decide_eq_true_iff, List.all_eq_true] at h
 obtain ⟨⟨h1, h2, h3, h4⟩, h5⟩ := h
 exact ⟨by omega, ⟨h2, h3⟩, by omega, fun z hz => of_decide_eq_true (h5 z hz), fun _ => by omega⟩
theorem gd_ok {r : frame_Reader} {c : Int} (h : gd r c = true) {x : Int × List Int × frame_Reader} (e : frame_Reader_Push.f FK r c = some x) : (∀ k, 70000 ≤ k → frame_Reader_Push.f k r c = some x) ∧ (0 ≤ x.1 ∧ x.1 ≤ 5) ∧ (x.1 = 1 → 1 ≤ x.2.1.length) := by
 unfold gd at h
 by_cases c1 : c = 126
 ·rw [if_pos c1] at h
  obtain ⟨y, hy, _, _, _, y4, _, y6, _⟩ := Fr.push_ok (rok_ri h) (c := c) (by omega)
  obtain rfl : y = x := Option.some.inj ((hy FK (by decide)).symm.trans e)
  exact ⟨hy, y4, y6⟩
 ·have hk : ∀ k, frame_Reader_Push.f k r c = frame_Reader_Push.f FK r c := fun k => by
   unfold frame_Reader_Push.f
   rw [if_neg c1, if_neg c1]
  have hj : ∀ b : Bool, frame_Reader_Push.j0 r c b = some x → x.1 = 0 := by
   intro b q
   unfold frame_Reader_Push.j0 at q
   split at q
   ·rw [← Option.some.inj q]
   ·split at q
    ·obtain ⟨t, _, q⟩ := Option.bind_eq_some_iff.1 q
     rw [← Option.some.inj q]
    ·split at q
     ·rw [← Option.some.inj q]
     ·obtain ⟨t, _, q⟩ := Option.bind_eq_some_iff.1 q
      rw [← Option.some.inj q]
  have h0 : x.1 = 0 := by
   unfold frame_Reader_Push.f at e
   rw [if_neg c1] at e
   split at e <;> exact hj _ e
  exact ⟨fun k _ => (hk k).trans e, by omega, fun q => by omega⟩
theorem came0 {s : station_Station} {b : List Int} (hl : 1 ≤ b.length) (h : b.getD 0 0 = 1) {k : Nat} : station_Station_came.f k s 0 b = some s := by
 unfold station_Station_came.f
 have h' : b.getD (0 : Int).toNat 0 = 1 := h
 rw [if_pos ⟨by omega, by omega⟩, h', if_neg (by decide), if_pos rfl]
 unfold station_Station_came.j2
 rw [if_neg (by decide)]
theorem came1 {s : station_Station} {b : List Int} (hl : 1 ≤ b.length) (h : b.getD 0 0 = 1) {q : Int × Int × Int} (hq : kcode_Read.f (cut b 1 b.length) = some q) {k : Nat} : station_Station_came.f k s 1 b = if q.2.2 = 0 then (aps_Aps_Remote.f s.aps q.1).bind fun p => some { s with aps := p } else some s := by
 unfold station_Station_came.f
 have h' : b.getD (0 : Int).toNat 0 = 1 := h
 rw [if_pos ⟨by omega, by omega⟩, h', if_neg (by decide), if_pos rfl]
 unfold station_Station_came.j2
 rw [if_pos (by decide), if_pos ⟨by omega, by omega, by omega⟩, hq, bsome]
structure Mc (m : monitor_Monitor) : Prop where
 i : Mo.MI m
 bad : m.bad = 3
 good : m.good = 2
 silent : m.silent = 96
 clean : m.w.sum.2 = 0
theorem nf_pos : ((List.range 16).all fun g => decide (Mo.nf (g + 1) ≠ 0)) = true := by kernel_rfl
theorem no_false {w : tally_Window} (h : Mo.WI w) (c : w.sum.2 = 0) : Mo.cnt false (w.l.take w.kept.toNat) = 0 := by
 have l := Mo.cnt_le false (w.l.take w.kept.toNat)
 have hl := h.len
 rw [List.length_take] at l
 rw [h.sum] at c
 cases e : Mo.cnt false (w.l.take w.kept.toNat) with
 | zero => rfl
 | succ n =>
  rw [e] at c
  exact absurd c (of_decide_eq_true (List.all_eq_true.1 nf_pos n (List.mem_range.2 (by omega))))
theorem wnote_q {w : tally_Window} (h : Mo.WI w) (c : w.sum.2 = 0) : ∃ r, tally_Window_Note.f w true = some r ∧ Mo.WI r ∧ r.sum.2 = 0 := by
 obtain ⟨r, hr, hi⟩ := Mo.note_ok h true
 refine ⟨r, hr, hi, ?_⟩
 have n0 := no_false h c
 have hk := h.kept
 have ha := h.at_
 have hl := h.len
 have hj : ∀ x : tally_Window, x.l = w.l → x.at_ = w.at_ → tally_Window_Note.j0 true x = some r → r.l = w.l.set w.at_.toNat true ∧ r.kept = x.kept := by
  intro x e1 e2 e
  unfold tally_Window_Note.j0 at e
  rw [e1, e2, if_pos ⟨ha.1, by omega⟩] at e
  obtain ⟨_, _, e⟩ := Option.bind_eq_some_iff.1 e
  obtain ⟨_, _, e⟩ := Option.bind_eq_some_iff.1 e
  rw [if_pos (by rw [List.length_set]; omega)] at e
  rw [← Option.some.inj e]
  exact ⟨rfl, rfl⟩
 rw [hi.sum]
 have key : Mo.cnt false (r.l.take r.kept.toNat) = 0 := by
  unfold tally_Window_Note.f at hr
  by_cases q : w.kept = (w.l.length : Int)
  ·rw [if_pos q, if_pos ⟨ha.1, by omega⟩] at hr
   obtain ⟨_, _, hr⟩ := Option.bind_eq_some_iff.1 hr
   obtain ⟨s, _, hr⟩ := Option.bind_eq_some_iff.1 hr
   obtain ⟨r1, r2⟩ := hj { w with sum := s } rfl rfl hr
   have r2 : r.kept = w.kept := r2
   rw [r1, r2, List.take_of_length_le (by rw [List.length_set]; omega)]
   rw [List.take_of_length_le (by omega)] at n0
   unfold Mo.cnt at n0 ⊢
   rw [List.count_eq_zero] at n0 ⊢
   intro hm
   rcases List.mem_or_eq_of_mem_set hm with q | q
   ·exact n0 q
   ·cases q
  ·have e1 := h.near (by omega)
   rw [if_neg q, w64_in ⟨by omega, by omega⟩] at hr
   obtain ⟨r1, r2⟩ := hj { w with kept := w.kept + 1 } rfl rfl hr
   have r2 : r.kept = w.kept + 1 := r2
   rw [r1, r2, Mo.set_at (by omega), e1, show (w.kept + 1).toNat = (w.l.take w.kept.toNat).length + 1 by rw [List.length_take]; omega, List.take_length_add_append, Mo.cnt_app, n0]
   rfl
 rw [key]
 exact Mo.nf0
theorem note_q {m : monitor_Monitor} (h : Mc m) : ∃ r, monitor_Monitor_Note.f m true = some r ∧ EM r.2 = qnote (EM m) ∧ Mc r.2 := by
 obtain ⟨w, hw, hi, hc⟩ := wnote_q h.i.w h.clean
 obtain ⟨r, hr, ri⟩ := Mo.mnote_ok h.i true
 have hrow := h.i.row
 have n0 := no_false hi hc
 have hb := h.bad
 have hg := h.good
 have e1 : imin (m.row + 1) 16 = if m.row + 1 ≤ 16 then m.row + 1 else 16 := by unfold imin; (repeat' split) <;> omega
 have e2 : imin m.row 2 = if m.row ≤ 2 then m.row else 2 := by unfold imin; (repeat' split) <;> omega
 have e3 : imin (imin (m.row + 1) 16) 2 = imin (imin m.row 2 + 1) 2 := by rw [e1, e2]; unfold imin; (repeat' split) <;> omega
 have e4 : imin (m.row + 1) 16 ≥ m.good ↔ 2 ≤ imin m.row 2 + 1 := by rw [e1, e2, hg]; (repeat' split) <;> omega
 have z : imin 0 96 = (0 : Int) := by decide
 have hd : w64 ((w64 (m.bad + 1)).tdiv 2) = 2 := by rw [hb]; decide
 refine ⟨r, hr, ?_⟩
 unfold monitor_Monitor_Note.f at hr
 rw [hw, bsome, if_pos rfl, w64_in ⟨by omega, by omega⟩] at hr
 unfold monitor_Monitor_Note.j0 tally_Window_Sum.f at hr
 rw [bsome, Mo.parts_ok hi, bsome, n0] at hr
 have fin : ∀ b, monitor_Monitor_Note.j2 { m with w := w, row := imin (m.row + 1) 16, silence := 0 } b = some r → b = false → r.2 = { m with w := w, row := imin (m.row + 1) 16, silence := 0 } := by
  intro b e q
  unfold monitor_Monitor_Note.j2 at e
  rw [q, if_neg (by decide)] at e
  rw [← Option.some.inj e]
 have nob : ∀ x : monitor_Monitor, x = { m with w := w, row := imin (m.row + 1) 16, silence := 0 } → monitor_Monitor_Note.j1 x ((Mo.cnt true (w.l.take w.kept.toNat) : Int), ((0 : Nat) : Int), true) false = some r → r.2 = x := by
  intro x ex e
  unfold monitor_Monitor_Note.j1 at e
  subst ex
  rw [if_neg (by decide), if_neg (by show ¬ (((0 : Nat) : Int)) ≥ m.bad; omega), if_neg (by show ¬ (((0 : Nat) : Int)) ≥ w64 ((w64 (m.bad + 1)).tdiv 2); omega)] at e
  exact fin false e rfl
 have q0 : (EM m).st = m.state := rfl
 have q1 : (EM m).row = imin m.row 2 := rfl
 by_cases s0 : m.state = 0
 ·rw [if_pos s0] at hr
  have er := nob _ rfl hr
  rw [er]
  refine ⟨?_, { i := er ▸ ri, bad := hb, good := hg, silent := h.silent, clean := hc }⟩
  unfold qnote
  rw [if_neg (by rw [q0]; exact fun q => q.1 s0), q1, ← e3]
  show M.mk m.state (imin (imin (m.row + 1) 16) 2) (imin 0 96) = _
  rw [z]; rfl
 ·rw [if_neg s0] at hr
  by_cases g : imin (m.row + 1) 16 ≥ m.good
  ·have hr : monitor_Monitor_Note.j1 { m with w := w, row := imin (m.row + 1) 16, silence := 0 } ((Mo.cnt true (w.l.take w.kept.toNat) : Int), ((0 : Nat) : Int), true) (decide (imin (m.row + 1) 16 ≥ m.good)) = some r := hr
   rw [decide_eq_true g] at hr
   unfold monitor_Monitor_Note.j1 tally_Window_Clear.f at hr
   rw [if_pos rfl, bsome] at hr
   have er := congrArg Prod.snd (Option.some.inj hr)
   rw [← er]
   refine ⟨?_, { i := er ▸ ri, bad := hb, good := hg, silent := h.silent, clean := rfl }⟩
   unfold qnote
   rw [if_pos ⟨by rw [q0]; exact s0, by rw [q1]; exact e4.1 g⟩, q1, ← e3]
   show M.mk 0 (imin (imin (m.row + 1) 16) 2) (imin 0 96) = _
   rw [z]
  ·have hr : monitor_Monitor_Note.j1 { m with w := w, row := imin (m.row + 1) 16, silence := 0 } ((Mo.cnt true (w.l.take w.kept.toNat) : Int), ((0 : Nat) : Int), true) (decide (imin (m.row + 1) 16 ≥ m.good)) = some r := hr
   rw [decide_eq_false g] at hr
   have er := nob _ rfl hr
   rw [er]
   refine ⟨?_, { i := er ▸ ri, bad := hb, good := hg, silent := h.silent, clean := hc }⟩
   unfold qnote
   rw [if_neg (by rw [q1]; exact fun q => g (e4.2 q.2)), q1, ← e3]
   show M.mk m.state (imin (imin (m.row + 1) 16) 2) (imin 0 96) = _
   rw [z]; rfl
theorem qpass_eq {m : monitor_Monitor} (h : Mc m) : ∃ r, monitor_Monitor_Pass.f m 1 = some r ∧ r.1 = (qpass (EM m)).1 ∧ EM r.2 = (qpass (EM m)).2 ∧ Mc r.2 := by
 obtain ⟨r, hr, ri⟩ := Mo.mpass_ok h.i
 have hs := h.silent
 have hq := h.i.quiet
 refine ⟨r, hr, ?_⟩
 have e1 : imax 0 (imin 1 1073741824) = 1 := by decide
 unfold monitor_Monitor_Pass.f monitor_cut.f at hr
 rw [e1, bsome, w64_in ⟨by omega, by omega⟩] at hr
 have hc : imin (m.silence + 1) 1073741824 = if m.silence + 1 ≤ 1073741824 then m.silence + 1 else 1073741824 := by unfold imin; (repeat' split) <;> omega
 have q0 : (EM m).sil = imin m.silence 96 := rfl
 have h2 : imin m.silence 96 = if m.silence ≤ 96 then m.silence else 96 := by unfold imin; (repeat' split) <;> omega
 by_cases c : 96 ≤ m.silence + 1
 ·rw [if_pos (by rw [hc]; split <;> omega)] at hr
  unfold qpass
  rw [if_pos (by rw [q0, h2]; split <;> omega)]
  rw [← Option.some.inj hr] at ri ⊢
  refine ⟨rfl, ?_, { i := ri, bad := h.bad, good := h.good, silent := hs, clean := h.clean }⟩
  have a1 : imin (imin (m.silence + 1) 1073741824) 96 = 96 := by rw [hc]; unfold imin; (repeat' split) <;> omega
  show M.mk 2 (imin 0 2) (imin (imin (m.silence + 1) 1073741824) 96) = _
  rw [a1]; rfl
 ·rw [if_neg (by rw [hc]; split <;> omega)] at hr
  unfold qpass
  rw [if_neg (by rw [q0, h2]; split <;> omega)]
  rw [← Option.some.inj hr] at ri ⊢
  refine ⟨rfl, ?_, { i := ri, bad := h.bad, good := h.good, silent := hs, clean := h.clean }⟩
  have a1 : imin (imin (m.silence + 1) 1073741824) 96 = imin m.silence 96 + 1 := by rw [hc, h2]; unfold imin; (repeat' split) <;> omega
  show M.mk m.state (imin m.row 2) (imin (imin (m.silence + 1) 1073741824) 96) = _
  rw [a1]; rfl
structure Qt (s : station_Station) : Prop where
 mode : s.c.Mode ≠ 0
 keep : s.c.Keep = 32
 wide : s.c.Wide = false
 state : s.arq.state = 0
 out : s.arq.out = []
 inds : s.arq.inds = []
 run : Aq.run s.arq = 0
 m1 : Mc s.sides.1.monitor
 m2 : Mc s.sides.2.monitor
set_option maxHeartbeats 4000000 in
theorem push0_q {s : station_Station} (Q : Qt s) {c : Int} {t : Sn} (e : push1 (ES s) c = some t) : ∃ (n : Int) (b : List Int) (r : station_Station), (∀ k, FK ≤ k → station_Station_Push.f k s 0 c = some (n, b, r)) ∧ ES r = t ∧ r.c = s.c ∧ Qt r := by
 unfold push1 at e
 by_cases g : gd (ES s).r1 c = true
 case neg => rw [if_neg g] at e; cases e
 rw [if_pos g] at e
 obtain ⟨x, hx0, e⟩ := Option.bind_eq_some_iff.1 e
 rw [rpush_eq] at hx0
 obtain ⟨hx, x4, x6⟩ := gd_ok (r := s.sides.1.reader) g hx0
 have hF : (70000 : Nat) ≤ FK := by decide
 have hf : station_has.f 0 = some true := rfl
 have head : ∀ k, 70000 ≤ k → station_Station_Push.f k s 0 c = (if x.1 = 1 then ((monitor_Monitor_Note.f s.sides.1.monitor true).bind fun t12 => (station_Station_came.f k { s with sides := ({ s.sides.1 with reader := x.2.2, monitor := t12.2, counts := { s.sides.1.counts with Good := station_one.f s.sides.1.counts.Good } }, s.sides.2) } 0 x.2.1).bind fun t14 => some (x.1, x.2.1, t14)) else if x.1 = 2 then some (x.1, x.2.1, { s with sides := ({ s.sides.1 with reader := x.2.2, counts := { s.sides.1.counts with Runts := station_one.f s.sides.1.counts.Runts } }, s.sides.2) })
   else if x.1 = 4 then ((monitor_Monitor_Note.f s.sides.1.monitor false).bind fun t18 => some (x.1, x.2.1, { s with sides := ({ s.sides.1 with reader := x.2.2, monitor := t18.2, counts := { s.sides.1.counts with Bad := station_one.f s.sides.1.counts.Bad } }, s.sides.2) })) else if x.1 = 3 then ((monitor_Monitor_Note.f s.sides.1.monitor false).bind fun t18 => some (x.1, x.2.1, { s with sides := ({ s.sides.1 with reader := x.2.2, monitor := t18.2, counts := { s.sides.1.counts with Giants := station_one.f s.sides.1.counts.Giants } }, s.sides.2) }))
   else if x.1 = 5 then ((monitor_Monitor_Note.f s.sides.1.monitor false).bind fun t18 => some (x.1, x.2.1, { s with sides := ({ s.sides.1 with reader := x.2.2, monitor := t18.2, counts := { s.sides.1.counts with Aborts := station_one.f s.sides.1.counts.Aborts } }, s.sides.2) })) else some (x.1, x.2.1, { s with sides := ({ s.sides.1 with reader := x.2.2 }, s.sides.2) })) := by
  intro k hk
  unfold station_Station_Push.f
  rw [hf, bsome, if_pos rfl, if_pos (by decide), if_pos rfl, hx k hk, bsome]
 by_cases c1 : x.1 = 1
 ·rw [if_pos c1] at e
  by_cases b1 : x.2.1.getD 0 0 = 1
  case neg => rw [if_neg b1] at e; cases e
  rw [if_pos b1] at e
  obtain ⟨m, hm, hm1, hm2⟩ := note_q Q.m1
  refine ⟨x.1, x.2.1, { s with sides := ({ s.sides.1 with reader := x.2.2, monitor := m.2, counts := { s.sides.1.counts with Good := station_one.f s.sides.1.counts.Good } }, s.sides.2) }, fun k hk => ?_, (congrArg (fun z => Sn.mk _ _ _ z _ _ _ _) hm1).trans (Option.some.inj e), rfl, { Q with m1 := hm2 }⟩
  rw [head k (by omega), if_pos c1, hm, bsome, came0 (x6 c1) b1, bsome]
 rw [if_neg c1] at e
 by_cases c2 : x.1 = 2
 ·rw [if_pos (.inl c2)] at e
  exact ⟨x.1, x.2.1, { s with sides := ({ s.sides.1 with reader := x.2.2, counts := { s.sides.1.counts with Runts := station_one.f s.sides.1.counts.Runts } }, s.sides.2) }, fun k hk => by rw [head k (by omega), if_neg c1, if_pos c2], Option.some.inj e, rfl, { Q with }⟩
 by_cases c0 : x.1 = 0
 ·rw [if_pos (.inr c0)] at e
  exact ⟨x.1, x.2.1, { s with sides := ({ s.sides.1 with reader := x.2.2 }, s.sides.2) }, fun k hk => by rw [head k (by omega), if_neg c1, if_neg c2, if_neg (by omega), if_neg (by omega), if_neg (by omega)], Option.some.inj e, rfl, { Q with }⟩
 rw [if_neg (by omega)] at e
 cases e
set_option maxHeartbeats 4000000 in
theorem push1_q {s : station_Station} (Q : Qt s) {c : Int} {t : Sn} (e : push2 (ES s) c = some t) : ∃ (n : Int) (b : List Int) (r : station_Station), (∀ k, FK ≤ k → station_Station_Push.f k s 1 c = some (n, b, r)) ∧ ES r = t ∧ r.c = s.c ∧ Qt r := by
 unfold push2 at e
 by_cases g : gd (ES s).r2 c = true
 case neg => rw [if_neg g] at e; cases e
 rw [if_pos g] at e
 obtain ⟨x, hx0, e⟩ := Option.bind_eq_some_iff.1 e
 rw [rpush_eq] at hx0
 obtain ⟨hx, x4, x6⟩ := gd_ok (r := s.sides.2.reader) g hx0
 have hF : (70000 : Nat) ≤ FK := by decide
 have hf : station_has.f 1 = some true := rfl
 have head : ∀ k, 70000 ≤ k → station_Station_Push.f k s 1 c = (if x.1 = 1 then ((monitor_Monitor_Note.f s.sides.2.monitor true).bind fun t12 => (station_Station_came.f k { s with sides := (s.sides.1, { s.sides.2 with reader := x.2.2, monitor := t12.2, counts := { s.sides.2.counts with Good := station_one.f s.sides.2.counts.Good } }) } 1 x.2.1).bind fun t14 => some (x.1, x.2.1, t14)) else if x.1 = 2 then some (x.1, x.2.1, { s with sides := (s.sides.1, { s.sides.2 with reader := x.2.2, counts := { s.sides.2.counts with Runts := station_one.f s.sides.2.counts.Runts } }) })
   else if x.1 = 4 then ((monitor_Monitor_Note.f s.sides.2.monitor false).bind fun t18 => some (x.1, x.2.1, { s with sides := (s.sides.1, { s.sides.2 with reader := x.2.2, monitor := t18.2, counts := { s.sides.2.counts with Bad := station_one.f s.sides.2.counts.Bad } }) })) else if x.1 = 3 then ((monitor_Monitor_Note.f s.sides.2.monitor false).bind fun t18 => some (x.1, x.2.1, { s with sides := (s.sides.1, { s.sides.2 with reader := x.2.2, monitor := t18.2, counts := { s.sides.2.counts with Giants := station_one.f s.sides.2.counts.Giants } }) }))
   else if x.1 = 5 then ((monitor_Monitor_Note.f s.sides.2.monitor false).bind fun t18 => some (x.1, x.2.1, { s with sides := (s.sides.1, { s.sides.2 with reader := x.2.2, monitor := t18.2, counts := { s.sides.2.counts with Aborts := station_one.f s.sides.2.counts.Aborts } }) })) else some (x.1, x.2.1, { s with sides := (s.sides.1, { s.sides.2 with reader := x.2.2 }) })) := by
  intro k hk
  unfold station_Station_Push.f
  rw [hf, bsome, if_pos rfl, if_pos (by decide), if_neg (by decide), hx k hk, bsome]
 by_cases c1 : x.1 = 1
 ·rw [if_pos c1] at e
  by_cases b1 : x.2.1.getD 0 0 = 1
  case neg => rw [if_neg b1] at e; cases e
  rw [if_pos b1] at e
  obtain ⟨m, hm, hm1, hm2⟩ := note_q Q.m2
  obtain ⟨q, hq, e⟩ := Option.bind_eq_some_iff.1 e
  by_cases q0 : q.2.2 = 0
  ·rw [if_pos q0] at e
   obtain ⟨p, hp, e⟩ := Option.bind_eq_some_iff.1 e
   refine ⟨x.1, x.2.1, { s with aps := p, sides := (s.sides.1, { s.sides.2 with reader := x.2.2, monitor := m.2, counts := { s.sides.2.counts with Good := station_one.f s.sides.2.counts.Good } }) }, fun k hk => ?_, (congrArg (fun z => Sn.mk _ _ _ _ _ _ z _) hm1).trans (Option.some.inj e), rfl, { Q with m2 := hm2 }⟩
   rw [head k (by omega), if_pos c1, hm, bsome, came1 (x6 c1) b1 hq, if_pos q0]
   refine Eq.trans (congrArg (fun z => Option.bind (Option.bind z _) _) (show aps_Aps_Remote.f s.aps q.1 = some p from hp)) ?_
   rfl
  ·rw [if_neg q0] at e
   refine ⟨x.1, x.2.1, { s with sides := (s.sides.1, { s.sides.2 with reader := x.2.2, monitor := m.2, counts := { s.sides.2.counts with Good := station_one.f s.sides.2.counts.Good } }) }, fun k hk => ?_, (congrArg (fun z => Sn.mk _ _ _ _ _ _ z _) hm1).trans (Option.some.inj e), rfl, { Q with m2 := hm2 }⟩
   rw [head k (by omega), if_pos c1, hm, bsome, came1 (x6 c1) b1 hq, if_neg q0, bsome]
 rw [if_neg c1] at e
 by_cases c2 : x.1 = 2
 ·rw [if_pos (.inl c2)] at e
  exact ⟨x.1, x.2.1, { s with sides := (s.sides.1, { s.sides.2 with reader := x.2.2, counts := { s.sides.2.counts with Runts := station_one.f s.sides.2.counts.Runts } }) }, fun k hk => by rw [head k (by omega), if_neg c1, if_pos c2], Option.some.inj e, rfl, { Q with }⟩
 by_cases c0 : x.1 = 0
 ·rw [if_pos (.inr c0)] at e
  exact ⟨x.1, x.2.1, { s with sides := (s.sides.1, { s.sides.2 with reader := x.2.2 }) }, fun k hk => by rw [head k (by omega), if_neg c1, if_neg c2, if_neg (by omega), if_neg (by omega), if_neg (by omega)], Option.some.inj e, rfl, { Q with }⟩
 rw [if_neg (by omega)] at e
 cases e
theorem l7_q (u : List Int × pipe_Pipe) (hu : u.1.length ≤ 4096) : ∀ (d i : Nat) (w : world_World) (t : Sn), i + d = u.1.length → w.ways.2.2.got.length + d ≤ 1000000000000 → 0 ≤ w.now ∧ w.now ≤ 1000000000000 → pushes push2 (u.1.drop i) (ES w.stations.1) = some t → Qt w.stations.1 →
  ∃ (g : List (List Int)) (r : station_Station), g.length ≤ w.ways.2.2.got.length + d ∧ ES r = t ∧ r.c = w.stations.1.c ∧ Qt r ∧ ∀ k, FK ≤ k → world_World_Step.l7 (k + d + 1) u (i : Int) w = some { w with stations := (r, w.stations.2), ways := (w.ways.1, (w.ways.2.1, { w.ways.2.2 with got := g })), now := w.now + 1 }
 | 0, i, w, t, hi, hg, hn, e, hq => by
  rw [List.drop_of_length_le (by omega)] at e
  refine ⟨w.ways.2.2.got, w.stations.1, Nat.le_refl _, Option.some.inj e, rfl, hq, fun k hk => ?_⟩
  rw [world_World_Step.l7, if_neg (by omega)]
  rw [w64_in ⟨by omega, by omega⟩]
 | d + 1, i, w, t, hi, hg, hn, e, hq => by
  have hlt : i < u.1.length := by omega
  have eg : u.1.getD ((i : Int)).toNat 0 = u.1[i] := by simp [List.getD, hlt]
  rw [List.drop_eq_getElem_cons hlt] at e
  obtain ⟨s', e1, e2⟩ := Option.bind_eq_some_iff.1 (show (push2 (ES w.stations.1) u.1[i]).bind (pushes push2 (u.1.drop (i + 1))) = some t from e)
  obtain ⟨n, b, r, hr, h1, h2, h3⟩ := push1_q hq e1
  subst h1
  have ew : w64 ((i : Int) + 1) = ((i + 1 : Nat) : Int) := w64_in ⟨by omega, by omega⟩
  by_cases c : n = 1
  ·obtain ⟨g, r', q1, q2, q3, q4, q5⟩ := l7_q u hu d (i + 1) { w with stations := (r, w.stations.2), ways := (w.ways.1, (w.ways.2.1, { w.ways.2.2 with got := w.ways.2.2.got ++ [b] })) } t (by omega) (by dsimp only; rw [List.length_append]; show w.ways.2.2.got.length + 1 + d ≤ _; omega) hn e2 h3
   refine ⟨g, r', by dsimp only at q1; rw [List.length_append] at q1; have : ([b] : List (List Int)).length = 1 := rfl; omega, q2, q3.trans h2, q4, fun k hk => ?_⟩
   rw [show k + (d + 1) + 1 = (k + d + 1) + 1 by omega, world_World_Step.l7, if_pos (by omega), if_pos (by omega), eg, hr _ (by omega), bsome, if_pos c, if_pos (by simp only [List.length_cons, List.length_nil]; omega), ew]
   exact q5 k hk
  ·obtain ⟨g, r', q1, q2, q3, q4, q5⟩ := l7_q u hu d (i + 1) { w with stations := (r, w.stations.2) } t (by omega) (by dsimp only; omega) hn e2 h3
   refine ⟨g, r', by dsimp only at q1; omega, q2, q3.trans h2, q4, fun k hk => ?_⟩
   rw [show k + (d + 1) + 1 = (k + d + 1) + 1 by omega, world_World_Step.l7, if_pos (by omega), if_pos (by omega), eg, hr _ (by omega), bsome, if_neg c, ew]
   exact q5 k hk
theorem l6_q (u : List Int × pipe_Pipe) (hu : u.1.length ≤ 4096) : ∀ (d i : Nat) (w : world_World) (t : Sn), i + d = u.1.length → w.ways.2.1.got.length + d ≤ 1000000000000 → 0 ≤ w.now ∧ w.now ≤ 1000000000000 → pushes push2 (u.1.drop i) (ES w.stations.2) = some t → Qt w.stations.2 →
  ∃ (g : List (List Int)) (r : station_Station), g.length ≤ w.ways.2.1.got.length + d ∧ ES r = t ∧ r.c = w.stations.2.c ∧ Qt r ∧ ∀ k, FK ≤ k → world_World_Step.l6 (k + d + 1) u (i : Int) w = (pipe_Pipe_Take.f w.ways.2.2.pipe w.c.Rate).bind fun t => world_World_Step.l7 k t 0 { w with stations := (w.stations.1, r), ways := (w.ways.1, ({ w.ways.2.1 with got := g }, { w.ways.2.2 with pipe := t.2 })) }
 | 0, i, w, t, hi, hg, hn, e, hq => by
  rw [List.drop_of_length_le (by omega)] at e
  refine ⟨w.ways.2.1.got, w.stations.2, Nat.le_refl _, Option.some.inj e, rfl, hq, fun k hk => ?_⟩
  rw [world_World_Step.l6, if_neg (by omega)]
 | d + 1, i, w, t, hi, hg, hn, e, hq => by
  have hlt : i < u.1.length := by omega
  have eg : u.1.getD ((i : Int)).toNat 0 = u.1[i] := by simp [List.getD, hlt]
  rw [List.drop_eq_getElem_cons hlt] at e
  obtain ⟨s', e1, e2⟩ := Option.bind_eq_some_iff.1 (show (push2 (ES w.stations.2) u.1[i]).bind (pushes push2 (u.1.drop (i + 1))) = some t from e)
  obtain ⟨n, b, r, hr, h1, h2, h3⟩ := push1_q hq e1
  subst h1
  have ew : w64 ((i : Int) + 1) = ((i + 1 : Nat) : Int) := w64_in ⟨by omega, by omega⟩
  by_cases c : n = 1
  ·obtain ⟨g, r', q1, q2, q3, q4, q5⟩ := l6_q u hu d (i + 1) { w with stations := (w.stations.1, r), ways := (w.ways.1, ({ w.ways.2.1 with got := w.ways.2.1.got ++ [b] }, w.ways.2.2)) } t (by omega) (by dsimp only; rw [List.length_append]; show w.ways.2.1.got.length + 1 + d ≤ _; omega) hn e2 h3
   refine ⟨g, r', by dsimp only at q1; rw [List.length_append] at q1; have : ([b] : List (List Int)).length = 1 := rfl; omega, q2, q3.trans h2, q4, fun k hk => ?_⟩
   rw [show k + (d + 1) + 1 = (k + d + 1) + 1 by omega, world_World_Step.l6, if_pos (by omega), if_pos (by omega), eg, hr _ (by omega), bsome, if_pos c, if_pos (by simp only [List.length_cons, List.length_nil]; omega), ew]
   exact q5 k hk
  ·obtain ⟨g, r', q1, q2, q3, q4, q5⟩ := l6_q u hu d (i + 1) { w with stations := (w.stations.1, r) } t (by omega) (by dsimp only; omega) hn e2 h3
   refine ⟨g, r', by dsimp only at q1; omega, q2, q3.trans h2, q4, fun k hk => ?_⟩
   rw [show k + (d + 1) + 1 = (k + d + 1) + 1 by omega, world_World_Step.l6, if_pos (by omega), if_pos (by omega), eg, hr _ (by omega), bsome, if_neg c, ew]
   exact q5 k hk
theorem l5_q (u : List Int × pipe_Pipe) (hu : u.1.length ≤ 4096) : ∀ (d i : Nat) (w : world_World) (t : Sn), i + d = u.1.length → w.ways.1.2.got.length + d ≤ 1000000000000 → 0 ≤ w.now ∧ w.now ≤ 1000000000000 → pushes push1 (u.1.drop i) (ES w.stations.1) = some t → Qt w.stations.1 →
  ∃ (g : List (List Int)) (r : station_Station), g.length ≤ w.ways.1.2.got.length + d ∧ ES r = t ∧ r.c = w.stations.1.c ∧ Qt r ∧ ∀ k, FK ≤ k → world_World_Step.l5 (k + d + 1) u (i : Int) w = (pipe_Pipe_Take.f w.ways.2.1.pipe w.c.Rate).bind fun t => world_World_Step.l6 k t 0 { w with stations := (r, w.stations.2), ways := ((w.ways.1.1, { w.ways.1.2 with got := g }), ({ w.ways.2.1 with pipe := t.2 }, w.ways.2.2)) }
 | 0, i, w, t, hi, hg, hn, e, hq => by
  rw [List.drop_of_length_le (by omega)] at e
  refine ⟨w.ways.1.2.got, w.stations.1, Nat.le_refl _, Option.some.inj e, rfl, hq, fun k hk => ?_⟩
  rw [world_World_Step.l5, if_neg (by omega)]
 | d + 1, i, w, t, hi, hg, hn, e, hq => by
  have hlt : i < u.1.length := by omega
  have eg : u.1.getD ((i : Int)).toNat 0 = u.1[i] := by simp [List.getD, hlt]
  rw [List.drop_eq_getElem_cons hlt] at e
  obtain ⟨s', e1, e2⟩ := Option.bind_eq_some_iff.1 (show (push1 (ES w.stations.1) u.1[i]).bind (pushes push1 (u.1.drop (i + 1))) = some t from e)
  obtain ⟨n, b, r, hr, h1, h2, h3⟩ := push0_q hq e1
  subst h1
  have ew : w64 ((i : Int) + 1) = ((i + 1 : Nat) : Int) := w64_in ⟨by omega, by omega⟩
  by_cases c : n = 1
  ·obtain ⟨g, r', q1, q2, q3, q4, q5⟩ := l5_q u hu d (i + 1) { w with stations := (r, w.stations.2), ways := ((w.ways.1.1, { w.ways.1.2 with got := w.ways.1.2.got ++ [b] }), w.ways.2) } t (by omega) (by dsimp only; rw [List.length_append]; show w.ways.1.2.got.length + 1 + d ≤ _; omega) hn e2 h3
   refine ⟨g, r', by dsimp only at q1; rw [List.length_append] at q1; have : ([b] : List (List Int)).length = 1 := rfl; omega, q2, q3.trans h2, q4, fun k hk => ?_⟩
   rw [show k + (d + 1) + 1 = (k + d + 1) + 1 by omega, world_World_Step.l5, if_pos (by omega), if_pos (by omega), eg, hr _ (by omega), bsome, if_pos c, if_pos (by simp only [List.length_cons, List.length_nil]; omega), ew]
   exact q5 k hk
  ·obtain ⟨g, r', q1, q2, q3, q4, q5⟩ := l5_q u hu d (i + 1) { w with stations := (r, w.stations.2) } t (by omega) (by dsimp only; omega) hn e2 h3
   refine ⟨g, r', by dsimp only at q1; omega, q2, q3.trans h2, q4, fun k hk => ?_⟩
   rw [show k + (d + 1) + 1 = (k + d + 1) + 1 by omega, world_World_Step.l5, if_pos (by omega), if_pos (by omega), eg, hr _ (by omega), bsome, if_neg c, ew]
   exact q5 k hk
theorem l4_q (u : List Int × pipe_Pipe) (hu : u.1.length ≤ 4096) : ∀ (d i : Nat) (w : world_World) (t : Sn), i + d = u.1.length → w.ways.1.1.got.length + d ≤ 1000000000000 → 0 ≤ w.now ∧ w.now ≤ 1000000000000 → pushes push1 (u.1.drop i) (ES w.stations.2) = some t → Qt w.stations.2 →
  ∃ (g : List (List Int)) (r : station_Station), g.length ≤ w.ways.1.1.got.length + d ∧ ES r = t ∧ r.c = w.stations.2.c ∧ Qt r ∧ ∀ k, FK ≤ k → world_World_Step.l4 (k + d + 1) u (i : Int) w = (pipe_Pipe_Take.f w.ways.1.2.pipe w.c.Rate).bind fun t => world_World_Step.l5 k t 0 { w with stations := (w.stations.1, r), ways := (({ w.ways.1.1 with got := g }, { w.ways.1.2 with pipe := t.2 }), w.ways.2) }
 | 0, i, w, t, hi, hg, hn, e, hq => by
  rw [List.drop_of_length_le (by omega)] at e
  refine ⟨w.ways.1.1.got, w.stations.2, Nat.le_refl _, Option.some.inj e, rfl, hq, fun k hk => ?_⟩
  rw [world_World_Step.l4, if_neg (by omega)]
 | d + 1, i, w, t, hi, hg, hn, e, hq => by
  have hlt : i < u.1.length := by omega
  have eg : u.1.getD ((i : Int)).toNat 0 = u.1[i] := by simp [List.getD, hlt]
  rw [List.drop_eq_getElem_cons hlt] at e
  obtain ⟨s', e1, e2⟩ := Option.bind_eq_some_iff.1 (show (push1 (ES w.stations.2) u.1[i]).bind (pushes push1 (u.1.drop (i + 1))) = some t from e)
  obtain ⟨n, b, r, hr, h1, h2, h3⟩ := push0_q hq e1
  subst h1
  have ew : w64 ((i : Int) + 1) = ((i + 1 : Nat) : Int) := w64_in ⟨by omega, by omega⟩
  by_cases c : n = 1
  ·obtain ⟨g, r', q1, q2, q3, q4, q5⟩ := l4_q u hu d (i + 1) { w with stations := (w.stations.1, r), ways := (({ w.ways.1.1 with got := w.ways.1.1.got ++ [b] }, w.ways.1.2), w.ways.2) } t (by omega) (by dsimp only; rw [List.length_append]; show w.ways.1.1.got.length + 1 + d ≤ _; omega) hn e2 h3
   refine ⟨g, r', by dsimp only at q1; rw [List.length_append] at q1; have : ([b] : List (List Int)).length = 1 := rfl; omega, q2, q3.trans h2, q4, fun k hk => ?_⟩
   rw [show k + (d + 1) + 1 = (k + d + 1) + 1 by omega, world_World_Step.l4, if_pos (by omega), if_pos (by omega), eg, hr _ (by omega), bsome, if_pos c, if_pos (by simp only [List.length_cons, List.length_nil]; omega), ew]
   exact q5 k hk
  ·obtain ⟨g, r', q1, q2, q3, q4, q5⟩ := l4_q u hu d (i + 1) { w with stations := (w.stations.1, r) } t (by omega) (by dsimp only; omega) hn e2 h3
   refine ⟨g, r', by dsimp only at q1; omega, q2, q3.trans h2, q4, fun k hk => ?_⟩
   rw [show k + (d + 1) + 1 = (k + d + 1) + 1 by omega, world_World_Step.l4, if_pos (by omega), if_pos (by omega), eg, hr _ (by omega), bsome, if_neg c, ew]
   exact q5 k hk
theorem pass_q {a : arq_Arq} (h : Aq.run a = 0) : Aq.pass a 1 = Aq.passing a 1 := by
 have e : imax 0 (imin 1 1048576) = (1 : Int) := by decide
 unfold Aq.pass
 rw [e, Aq.passL, if_neg (by omega)]
theorem put0_q {s : station_Station} {t : St.Told} {p f : List Int} {a : Bool × ring_Ring} {k : Nat} (hf : frame_Put.f k p s.c.Wide = some f) (ha : ring_Ring_Add.f s.sides.1.ring f = some a) (hp : p.length ≤ 1000) (ht : t.1.length ≤ 1000) :
  ∃ u : St.Told, station_Station_put.f k s t 0 p = some ({ s with sides := ({ s.sides.1 with ring := a.2 }, s.sides.2) }, u) ∧ u.2 = t.2 ∧ u.1.length ≤ t.1.length + 1 := by
 unfold station_Station_put.f
 rw [if_pos (by omega), if_pos rfl, hf, bsome, ha, bsome]
 unfold station_Station_put.j0
 by_cases c : a.1 = true
 ·rw [if_pos c, if_pos (by omega), if_pos rfl, Bl.clone_eq (by omega), bsome, if_pos (by simp only [List.length_cons, List.length_nil]; omega)]
  exact ⟨_, rfl, rfl, by dsimp only; rw [List.length_append]; exact Nat.le_refl _⟩
 ·rw [if_neg c]; exact ⟨_, rfl, rfl, Nat.le_succ _⟩
theorem put1_q {s : station_Station} {t : St.Told} {p f : List Int} {a : Bool × ring_Ring} {k : Nat} (hf : frame_Put.f k p s.c.Wide = some f) (ha : ring_Ring_Add.f s.sides.2.ring f = some a) (hp : p.length ≤ 1000) (ht : t.2.length ≤ 1000) :
  ∃ u : St.Told, station_Station_put.f k s t 1 p = some ({ s with sides := (s.sides.1, { s.sides.2 with ring := a.2 }) }, u) ∧ u.1 = t.1 ∧ u.2.length ≤ t.2.length + 1 := by
 unfold station_Station_put.f
 rw [if_pos (by omega), if_neg (by decide), hf, bsome, ha, bsome]
 unfold station_Station_put.j0
 by_cases c : a.1 = true
 ·rw [if_pos c, if_pos (by omega), if_neg (by decide), Bl.clone_eq (by omega), bsome, if_pos (by simp only [List.length_cons, List.length_nil]; omega)]
  exact ⟨_, rfl, rfl, by dsimp only; rw [List.length_append]; exact Nat.le_refl _⟩
 ·rw [if_neg c]; exact ⟨_, rfl, rfl, Nat.le_succ _⟩
set_option maxHeartbeats 4000000 in
theorem sstep_q {s : station_Station} {C : Nat} {S0 : Int} (h : St.SI s C S0) (hC : C + 30000 ≤ big) (q : Qt s) {t : Sn} (e : sstep (ES s) = some t) :
  ∃ (T : St.Told) (r : station_Station), (∀ k, C + 1500000 ≤ k → station_Station_Step.f k s = some (T, r)) ∧ ES r = t ∧ Qt r ∧ r.c = s.c := by
 have hb : big = 1000000000000 := Eq.refl _
 unfold sstep at e
 obtain ⟨p, hp, e⟩ := Option.bind_eq_some_iff.1 e
 obtain ⟨m1, hm1, a1, b1, k1⟩ := qpass_eq q.m1
 obtain ⟨m2, hm2, a2, b2, k2⟩ := qpass_eq q.m2
 have hp : aps_Aps_Pass.f s.aps m1.1 m2.1 = some p := by rw [a1, a2]; exact hp
 have hst := h.steps
 have hA : ∀ k, 1300000 ≤ k → arq_Arq_Pass.f k s.arq 1 = some (Aq.pass s.arq 1) := fun k hk => Aq.passes_eq h.arq (by omega) 1 hk
 have hP := pass_q q.run
 have hr : Aq.run (Aq.passing s.arq 1) = 0 := by rw [Aq.passing_run, q.run, if_neg (by omega)]
 have qr : ∀ r : station_Station, r.c = s.c → r.arq = { Aq.passing s.arq 1 with out := [] } → r.sides.1.monitor = m1.2 → r.sides.2.monitor = m2.2 → Qt r := fun r e1 e2 e3 e4 => ⟨by rw [e1]; exact q.mode, by rw [e1]; exact q.keep, by rw [e1]; exact q.wide, by rw [e2]; exact q.state, by rw [e2], by rw [e2]; exact q.inds, by rw [e2]; exact hr, by rw [e3]; exact k1, by rw [e4]; exact k2⟩
 have head : ∀ k, C + 1400000 ≤ k → station_Station_Step.f k s = station_Station_Step.l1 k p ((Aq.passing s.arq 1).out, { Aq.passing s.arq 1 with out := [] }) 0 { s with arq := { Aq.passing s.arq 1 with out := [] }, aps := p.2, line := p.1, sides := ({ s.sides.1 with monitor := m1.2 }, { s.sides.2 with monitor := m2.2 }) } ([], []) := by
  intro k hk
  have j0 : station_Station_Step.j0 k p { s with aps := p.2, sides := ({ s.sides.1 with monitor := m1.2 }, { s.sides.2 with monitor := m2.2 }) } = station_Station_Step.l1 k p ((Aq.passing s.arq 1).out, { Aq.passing s.arq 1 with out := [] }) 0 { s with arq := { Aq.passing s.arq 1 with out := [] }, aps := p.2, line := p.1, sides := ({ s.sides.1 with monitor := m1.2 }, { s.sides.2 with monitor := m2.2 }) } ([], []) := by
   unfold station_Station_Step.j0 arq_Arq_Output.f
   rw [hA k (by omega), hP, bsome, bsome]
  have j5 : ∀ b : Bool, station_Station_Step.j5 k s m1 m2 p b = station_Station_Step.j0 k p { s with aps := p.2, sides := ({ s.sides.1 with monitor := m1.2 }, { s.sides.2 with monitor := m2.2 }) } := by
   intro b
   unfold station_Station_Step.j5
   by_cases c : b = true
   ·rw [if_pos c]
    have : arq_Arq_Again.f k s.arq = some s.arq := by unfold arq_Arq_Again.f; rw [if_neg (by rw [q.state]; decide)]
    refine Eq.trans (congrArg (fun z => Option.bind z _) (this : arq_Arq_Again.f k s.arq = _)) ?_
    rfl
   ·rw [if_neg c]
  rw [← j0, ← j5 (if decide (s.c.Mode = 0) = true then false else (!(decide (p.1 = s.line))))]
  unfold station_Station_Step.f
  rw [hm1, bsome, hm2, bsome, hp, bsome, St.twice_eq, bsome]
  split <;> rfl
 have ho : (Aq.passing s.arq 1).out = [] := q.out
 have e64 : w64 (s.steps + 1) = s.steps + 1 := w64_in ⟨by omega, by omega⟩
 have hkp := q.keep
 have hkn : ¬ s.c.Keep = 0 := by omega
 have l1 : ∀ k, C + 1400000 ≤ k → station_Station_Step.f (k + 1) s = if (s.steps + 1).tmod 32 = 0 then (kcode_Put.f p.2.own p.1).bind fun t110 => if (([1] : List Int).length : Int) + t110.length ≤ 1099511627776 then ((station_Station_put.f k { s with arq := { Aq.passing s.arq 1 with out := [] }, aps := p.2, line := p.1, steps := s.steps + 1, sides := ({ s.sides.1 with monitor := m1.2 }, { s.sides.2 with monitor := m2.2 }) } ([], []) 0 (([1] : List Int) ++ t110)).bind fun t126 => (station_Station_put.f k t126.1 t126.2 1 (([1] : List Int) ++ t110)).bind fun t129 => some (t129.2, t129.1)) else none
   else some (([], []), { s with arq := { Aq.passing s.arq 1 with out := [] }, aps := p.2, line := p.1, steps := s.steps + 1, sides := ({ s.sides.1 with monitor := m1.2 }, { s.sides.2 with monitor := m2.2 }) }) := by
  intro k hk
  rw [head (k + 1) (by omega), ho, station_Station_Step.l1, if_neg (by show ¬ (0 : Int) < 0; omega), if_pos hkn, e64, hkp]
  rfl
 have ht : (s.steps + 1).tmod 32 = (s.steps + 1) % 32 := Int.tmod_eq_emod_of_nonneg (by omega)
 by_cases c : (ES s).st = 31
 ·have c' : s.steps % 32 = 31 := c
  rw [if_pos c] at e
  obtain ⟨b, hb', e⟩ := Option.bind_eq_some_iff.1 e
  obtain ⟨f, hf, e⟩ := Option.bind_eq_some_iff.1 e
  rw [fput_eq] at hf
  obtain ⟨x, hx, e⟩ := Option.bind_eq_some_iff.1 e
  obtain ⟨y, hy, e⟩ := Option.bind_eq_some_iff.1 e
  obtain ⟨b', hb1, hb2, hb3⟩ := St.kput_ok p.2.own p.1
  have : b = b' := Option.some.inj (hb'.symm.trans hb1)
  subst this
  have hl : (([1] : List Int) ++ b).length = 3 := by rw [List.length_append, hb3]; rfl
  obtain ⟨f', hf', _⟩ := Fr.put_ok (([1] : List Int) ++ b) s.c.Wide (by omega) (Fr.By.app (fun z hz => by simp at hz; omega) hb2)
  have hff : f' = f := Option.some.inj ((hf' FK (by rw [hl]; decide)).symm.trans (by rw [q.wide]; exact hf))
  rw [hff, hl] at hf'
  let s1 : station_Station := { s with arq := { Aq.passing s.arq 1 with out := [] }, aps := p.2, line := p.1, steps := s.steps + 1, sides := ({ s.sides.1 with monitor := m1.2 }, { s.sides.2 with monitor := m2.2 }) }
  let s2 : station_Station := { s with arq := { Aq.passing s.arq 1 with out := [] }, aps := p.2, line := p.1, steps := s.steps + 1, sides := ({ s.sides.1 with monitor := m1.2, ring := x.2 }, { s.sides.2 with monitor := m2.2 }) }
  let s3 : station_Station := { s with arq := { Aq.passing s.arq 1 with out := [] }, aps := p.2, line := p.1, steps := s.steps + 1, sides := ({ s.sides.1 with monitor := m1.2, ring := x.2 }, { s.sides.2 with monitor := m2.2, ring := y.2 }) }
  obtain ⟨u0, hu0, v1, v2⟩ := put0_q (s := s1) (t := ([], [])) (hf' FK (by decide)) hx (by omega) (Nat.zero_le _)
  obtain ⟨w0, hw0, _, _⟩ := put1_q (s := s2) (t := u0) (hf' FK (by decide)) hy (by omega) (by rw [v1]; exact Nat.zero_le _)
  refine ⟨w0, s3, fun k hk => ?_, ?_, qr _ rfl rfl rfl rfl, rfl⟩
  ·obtain ⟨k, rfl⟩ : ∃ j, k = j + 1 := ⟨k - 1, by omega⟩
   obtain ⟨u, hu, _, _⟩ := put0_q (s := s1) (t := ([], [])) (hf' k (by omega)) hx (by omega) (Nat.zero_le _)
   have eu : station_Station_put.f k s1 ([], []) 0 (([1] : List Int) ++ b) = station_Station_put.f FK s1 ([], []) 0 (([1] : List Int) ++ b) := by
    unfold station_Station_put.f
    rw [show frame_Put.f k (([1] : List Int) ++ b) s1.c.Wide = _ from hf' k (by omega), show frame_Put.f FK (([1] : List Int) ++ b) s1.c.Wide = _ from hf' FK (by decide)]
   have ew : station_Station_put.f k s2 u0 1 (([1] : List Int) ++ b) = station_Station_put.f FK s2 u0 1 (([1] : List Int) ++ b) := by
    unfold station_Station_put.f
    rw [show frame_Put.f k (([1] : List Int) ++ b) s2.c.Wide = _ from hf' k (by omega), show frame_Put.f FK (([1] : List Int) ++ b) s2.c.Wide = _ from hf' FK (by decide)]
   rw [l1 k (by omega), ht, if_pos (by omega), hb1, bsome, if_pos (by rw [hb3]; decide)]
   refine Eq.trans (congrArg (fun z => Option.bind z _) (eu.trans hu0)) ?_
   rw [bsome]
   refine Eq.trans (congrArg (fun z => Option.bind z _) (ew.trans hw0)) ?_
   rfl
  ·rw [← Option.some.inj e]
   show Sn.mk p.2 ((s.steps + 1) % 32) s.sides.1.reader (EM m1.2) x.2 s.sides.2.reader (EM m2.2) y.2 = _
   rw [b1, b2, show (s.steps + 1) % 32 = 0 by omega]; rfl
 ·have c' : ¬ s.steps % 32 = 31 := c
  rw [if_neg c] at e
  refine ⟨([], []), { s with arq := { Aq.passing s.arq 1 with out := [] }, aps := p.2, line := p.1, steps := s.steps + 1, sides := ({ s.sides.1 with monitor := m1.2 }, { s.sides.2 with monitor := m2.2 }) }, fun k hk => ?_, ?_, qr _ rfl rfl rfl rfl, rfl⟩
  ·obtain ⟨k, rfl⟩ : ∃ j, k = j + 1 := ⟨k - 1, by omega⟩
   rw [l1 k (by omega), ht, if_neg (by omega)]
  ·rw [← Option.some.inj e]
   show Sn.mk p.2 ((s.steps + 1) % 32) s.sides.1.reader (EM m1.2) s.sides.1.ring s.sides.2.reader (EM m2.2) s.sides.2.ring = _
   rw [b1, b2, show (s.steps + 1) % 32 = s.steps % 32 + 1 by omega]; rfl
theorem stake0_q {s : station_Station} {n : Int} {t : List Int × ring_Ring} {k : Nat} (h : ring_Ring_Take.f k s.sides.1.ring n = some t) : station_Station_Take.f k s 0 n = some (t.1, { s with sides := ({ s.sides.1 with ring := t.2 }, s.sides.2) }) := by
 unfold station_Station_Take.f
 rw [show station_has.f 0 = some true from rfl, bsome, if_pos rfl, if_pos (by decide), if_pos rfl, h, bsome]
theorem stake1_q {s : station_Station} {n : Int} {t : List Int × ring_Ring} {k : Nat} (h : ring_Ring_Take.f k s.sides.2.ring n = some t) : station_Station_Take.f k s 1 n = some (t.1, { s with sides := (s.sides.1, { s.sides.2 with ring := t.2 }) }) := by
 unfold station_Station_Take.f
 rw [show station_has.f 1 = some true from rfl, bsome, if_pos rfl, if_pos (by decide), if_neg (by decide), h, bsome]
theorem rtake_q {g : ring_Ring} (h : Mo.GI g) {n : Int} {t : List Int × ring_Ring} (e : ring_Ring_Take.f FK g n = some t) : (∀ k, FK ≤ k → ring_Ring_Take.f k g n = some t) ∧ By t.1 ∧ t.1.length ≤ 1048576 := by
 obtain ⟨t', h', _, h2, _⟩ := Mo.take_ok h n
 have : t' = t := Option.some.inj ((h' FK (Nat.le_refl _)).symm.trans e)
 subst this
 have hl := h.len
 have hr := h.room
 exact ⟨h', by rw [h2]; exact fun z hz => h.by_ z (List.mem_of_mem_take hz), by rw [h2, List.length_take]; omega⟩
set_option maxHeartbeats 4000000 in
theorem wstep_q {w : world_World} {C1 C2 N P : Nat} {S1 S2 : Int} (h : Wg.WI w C1 C2 N P S1 S2) (h1 : C1 + 400000000 ≤ big) (h2 : C2 + 400000000 ≤ big) (hN : N ≤ 900000000000) (q1 : Qt w.stations.1) (q2 : Qt w.stations.2) {a : A} (e : step w.c.Rate (EW w) = some a) :
  ∃ r, (∀ k, C1 + C2 + 300000000 ≤ k → world_World_Step.f k w = some r) ∧ EW r = a ∧ Qt r.stations.1 ∧ Qt r.stations.2 ∧ r.c = w.c := by
 have hFK : FK = 1100000 := rfl
 unfold step at e
 obtain ⟨s1, es1, e⟩ := Option.bind_eq_some_iff.1 e
 obtain ⟨s2, es2, e⟩ := Option.bind_eq_some_iff.1 e
 obtain ⟨t1, et1, e⟩ := Option.bind_eq_some_iff.1 e
 obtain ⟨o1, eo1, e⟩ := Option.bind_eq_some_iff.1 e
 obtain ⟨t2, et2, e⟩ := Option.bind_eq_some_iff.1 e
 obtain ⟨o2, eo2, e⟩ := Option.bind_eq_some_iff.1 e
 obtain ⟨t3, et3, e⟩ := Option.bind_eq_some_iff.1 e
 obtain ⟨o3, eo3, e⟩ := Option.bind_eq_some_iff.1 e
 obtain ⟨t4, et4, e⟩ := Option.bind_eq_some_iff.1 e
 obtain ⟨o4, eo4, e⟩ := Option.bind_eq_some_iff.1 e
 obtain ⟨v1, ev1, e⟩ := Option.bind_eq_some_iff.1 e
 obtain ⟨x2, ex2, e⟩ := Option.bind_eq_some_iff.1 e
 obtain ⟨v2, ev2, e⟩ := Option.bind_eq_some_iff.1 e
 obtain ⟨x1, ex1, e⟩ := Option.bind_eq_some_iff.1 e
 obtain ⟨v3, ev3, e⟩ := Option.bind_eq_some_iff.1 e
 obtain ⟨y2, ey2, e⟩ := Option.bind_eq_some_iff.1 e
 obtain ⟨v4, ev4, e⟩ := Option.bind_eq_some_iff.1 e
 obtain ⟨y1, ey1, e⟩ := Option.bind_eq_some_iff.1 e
 obtain ⟨T1, r1, hr1, er1, qr1, cr1⟩ := sstep_q h.one (by omega) q1 es1
 obtain ⟨T2, r2, hr2, er2, qr2, cr2⟩ := sstep_q h.two (by omega) q2 es2
 obtain ⟨z1, hz1, i1, d1, _⟩ := St.step_ok h.one (by omega)
 obtain ⟨z2, hz2, i2, d2, _⟩ := St.step_ok h.two (by omega)
 obtain rfl : z1 = (T1, r1) := Option.some.inj ((hz1 _ (Nat.le_refl _)).symm.trans (hr1 _ (Nat.le_refl _)))
 obtain rfl : z2 = (T2, r2) := Option.some.inj ((hz2 _ (Nat.le_refl _)).symm.trans (hr2 _ (Nat.le_refl _)))
 subst er1 er2
 have n1 := d1.n1
 have n2 := d1.n2
 have n3 := d2.n1
 have n4 := d2.n2
 have g1 := i1.one.ring.room
 have g2 := i1.two.ring.room
 have g3 := i2.one.ring.room
 have g4 := i2.two.ring.room
 have g1' := i1.one.ring.len
 have g2' := i1.two.ring.len
 have g3' := i2.one.ring.len
 have g4' := i2.two.ring.len
 have m1 := h.y11.sent
 have m2 := h.y12.sent
 have m3 := h.y21.sent
 have m4 := h.y22.sent
 have p1 := h.y11.got
 have p2 := h.y12.got
 have p3 := h.y21.got
 have p4 := h.y22.got
 have hnow := h.now
 obtain ⟨ht1, b1, c1⟩ := rtake_q i1.one.ring et1
 obtain ⟨ht2, b2, c2⟩ := rtake_q i2.one.ring et2
 obtain ⟨ht3, b3, c3⟩ := rtake_q i1.two.ring et3
 obtain ⟨ht4, b4, c4⟩ := rtake_q i2.two.ring et4
 have O1 : Wg.PP o1.2 := by obtain ⟨o, ho, O⟩ := Wg.pput h.y11.pipe b1 c1; rw [Option.some.inj (eo1.symm.trans ho)]; exact O
 have O2 : Wg.PP o2.2 := by obtain ⟨o, ho, O⟩ := Wg.pput h.y12.pipe b2 c2; rw [Option.some.inj (eo2.symm.trans ho)]; exact O
 have O3 : Wg.PP o3.2 := by obtain ⟨o, ho, O⟩ := Wg.pput h.y21.pipe b3 c3; rw [Option.some.inj (eo3.symm.trans ho)]; exact O
 have O4 : Wg.PP o4.2 := by obtain ⟨o, ho, O⟩ := Wg.pput h.y22.pipe b4 c4; rw [Option.some.inj (eo4.symm.trans ho)]; exact O
 have l1 : v1.1.length ≤ 4096 := by obtain ⟨v, hv, _, _, l⟩ := Wg.ptake O1 h.rate; rw [Option.some.inj (ev1.symm.trans hv)]; exact l
 have l2 : v2.1.length ≤ 4096 := by obtain ⟨v, hv, _, _, l⟩ := Wg.ptake O2 h.rate; rw [Option.some.inj (ev2.symm.trans hv)]; exact l
 have l3 : v3.1.length ≤ 4096 := by obtain ⟨v, hv, _, _, l⟩ := Wg.ptake O3 h.rate; rw [Option.some.inj (ev3.symm.trans hv)]; exact l
 have l4 : v4.1.length ≤ 4096 := by obtain ⟨v, hv, _, _, l⟩ := Wg.ptake O4 h.rate; rw [Option.some.inj (ev4.symm.trans hv)]; exact l
 let a1 : station_Station := { r1 with sides := ({ r1.sides.1 with ring := t1.2 }, { r1.sides.2 with ring := t3.2 }) }
 let a2 : station_Station := { r2 with sides := ({ r2.sides.1 with ring := t2.2 }, { r2.sides.2 with ring := t4.2 }) }
 let w0 : world_World := { w with stations := (a1, a2), ways := (({ pipe := v1.2, sent := w.ways.1.1.sent ++ T1.1, got := w.ways.1.1.got }, { pipe := o2.2, sent := w.ways.1.2.sent ++ T2.1, got := w.ways.1.2.got }), ({ pipe := o3.2, sent := w.ways.2.1.sent ++ T1.2, got := w.ways.2.1.got }, { pipe := o4.2, sent := w.ways.2.2.sent ++ T2.2, got := w.ways.2.2.got })) }
 obtain ⟨k4, b2', u4, f4, j4, a4, w4⟩ := l4_q v1 l1 v1.1.length 0 w0 x2 (by omega) (by show w.ways.1.1.got.length + _ ≤ _; omega) ⟨hnow.1, by have : (w0.now : Int) = w.now := rfl; omega⟩ ex2 { qr2 with }
 subst f4
 let w1 : world_World := { w with stations := (a1, b2'), ways := (({ pipe := v1.2, sent := w.ways.1.1.sent ++ T1.1, got := k4 }, { pipe := v2.2, sent := w.ways.1.2.sent ++ T2.1, got := w.ways.1.2.got }), ({ pipe := o3.2, sent := w.ways.2.1.sent ++ T1.2, got := w.ways.2.1.got }, { pipe := o4.2, sent := w.ways.2.2.sent ++ T2.2, got := w.ways.2.2.got })) }
 obtain ⟨k5, b1', u5, f5, j5, a5, w5⟩ := l5_q v2 l2 v2.1.length 0 w1 x1 (by omega) (by show w.ways.1.2.got.length + _ ≤ _; omega) ⟨hnow.1, by have : (w1.now : Int) = w.now := rfl; omega⟩ ex1 { qr1 with }
 subst f5
 let w2 : world_World := { w with stations := (b1', b2'), ways := (({ pipe := v1.2, sent := w.ways.1.1.sent ++ T1.1, got := k4 }, { pipe := v2.2, sent := w.ways.1.2.sent ++ T2.1, got := k5 }), ({ pipe := v3.2, sent := w.ways.2.1.sent ++ T1.2, got := w.ways.2.1.got }, { pipe := o4.2, sent := w.ways.2.2.sent ++ T2.2, got := w.ways.2.2.got })) }
 obtain ⟨k6, d2', u6, f6, j6, a6, w6⟩ := l6_q v3 l3 v3.1.length 0 w2 y2 (by omega) (by show w.ways.2.1.got.length + _ ≤ _; omega) ⟨hnow.1, by have : (w2.now : Int) = w.now := rfl; omega⟩ ey2 a4
 subst f6
 let w3 : world_World := { w with stations := (b1', d2'), ways := (({ pipe := v1.2, sent := w.ways.1.1.sent ++ T1.1, got := k4 }, { pipe := v2.2, sent := w.ways.1.2.sent ++ T2.1, got := k5 }), ({ pipe := v3.2, sent := w.ways.2.1.sent ++ T1.2, got := k6 }, { pipe := v4.2, sent := w.ways.2.2.sent ++ T2.2, got := w.ways.2.2.got })) }
 obtain ⟨k7, d1', u7, f7, j7, a7, w7⟩ := l7_q v4 l4 v4.1.length 0 w3 y1 (by omega) (by show w.ways.2.2.got.length + _ ≤ _; omega) ⟨hnow.1, by have : (w3.now : Int) = w.now := rfl; omega⟩ ey1 a5
 subst f7
 refine ⟨{ w with stations := (d1', d2'), ways := (({ pipe := v1.2, sent := w.ways.1.1.sent ++ T1.1, got := k4 }, { pipe := v2.2, sent := w.ways.1.2.sent ++ T2.1, got := k5 }), ({ pipe := v3.2, sent := w.ways.2.1.sent ++ T1.2, got := k6 }, { pipe := v4.2, sent := w.ways.2.2.sent ++ T2.2, got := k7 })), now := w.now + 1 }, fun k hk => ?_, Option.some.inj e, a7, a6, rfl⟩
 obtain ⟨k, rfl⟩ : ∃ j, k = j + v4.1.length + 1 + v3.1.length + 1 + v2.1.length + 1 + v1.1.length + 1 := ⟨k - v4.1.length - v3.1.length - v2.1.length - v1.1.length - 4, by omega⟩
 have W4 := w4 (k + v4.1.length + 1 + v3.1.length + 1 + v2.1.length + 1) (by omega)
 have W5 := w5 (k + v4.1.length + 1 + v3.1.length + 1) (by omega)
 have W6 := w6 (k + v4.1.length + 1) (by omega)
 have W7 := w7 k (by omega)
 rw [show pipe_Pipe_Take.f w0.ways.1.2.pipe w0.c.Rate = some v2 from ev2, bsome] at W4
 rw [show pipe_Pipe_Take.f w1.ways.2.1.pipe w1.c.Rate = some v3 from ev3, bsome] at W5
 rw [show pipe_Pipe_Take.f w2.ways.2.2.pipe w2.c.Rate = some v4 from ev4, bsome] at W6
 refine Eq.trans ?_ (W4.trans (W5.trans (W6.trans W7)))
 generalize hkk : k + v4.1.length + 1 + v3.1.length + 1 + v2.1.length + 1 + v1.1.length + 1 = kk at hk ⊢
 have hk' : FK ≤ kk := by omega
 unfold world_World_Step.f pipe_Pipe_Cut.f pipe_Pipe_Room.f
 rw [hr1 kk (by omega), bsome, if_pos (by omega), if_pos (by omega), hr2 kk (by omega), bsome, if_pos (by omega), if_pos (by omega), bsome, bsome]
 rw [show (if w.ways.1.1.pipe.cut = true then world_World_Step.j0 kk w (T1, r1) (T2, r2) w.c.Rate else world_World_Step.j0 kk w (T1, r1) (T2, r2) (imin w.c.Rate (w64 (w.ways.1.1.pipe.room - (w.ways.1.1.pipe.b.length : Int))))) = world_World_Step.j0 kk w (T1, r1) (T2, r2) (room w.ways.1.1.pipe w.c.Rate) by unfold room; split <;> rfl]
 unfold world_World_Step.j0 pipe_Pipe_Cut.f pipe_Pipe_Room.f
 have eo1 : pipe_Pipe_Put.f w.ways.1.1.pipe t1.1 = some o1 := eo1
 have eo2 : pipe_Pipe_Put.f w.ways.1.2.pipe t2.1 = some o2 := eo2
 have eo3 : pipe_Pipe_Put.f w.ways.2.1.pipe t3.1 = some o3 := eo3
 have eo4 : pipe_Pipe_Put.f w.ways.2.2.pipe t4.1 = some o4 := eo4
 rw [show station_Station_Take.f kk (T1, r1).2 0 (room w.ways.1.1.pipe w.c.Rate) = _ from stake0_q (ht1 kk hk'), bsome, eo1, bsome, bsome, bsome]
 generalize hA1 : ({ r1 with sides := ({ r1.sides.1 with ring := t1.2 }, r1.sides.2) } : station_Station) = A1
 rw [show (if w.ways.1.2.pipe.cut = true then world_World_Step.j1 kk w (T1, r1) (T2, r2) (t1.1, A1) o1 w.c.Rate else world_World_Step.j1 kk w (T1, r1) (T2, r2) (t1.1, A1) o1 (imin w.c.Rate (w64 (w.ways.1.2.pipe.room - (w.ways.1.2.pipe.b.length : Int))))) = world_World_Step.j1 kk w (T1, r1) (T2, r2) (t1.1, A1) o1 (room w.ways.1.2.pipe w.c.Rate) by unfold room; split <;> rfl]
 unfold world_World_Step.j1 pipe_Pipe_Cut.f pipe_Pipe_Room.f
 rw [show station_Station_Take.f kk (T2, r2).2 0 (room w.ways.1.2.pipe w.c.Rate) = _ from stake0_q (ht2 kk hk'), bsome, eo2, bsome, bsome, bsome]
 generalize hA2 : ({ r2 with sides := ({ r2.sides.1 with ring := t2.2 }, r2.sides.2) } : station_Station) = A2
 rw [show (if w.ways.2.1.pipe.cut = true then world_World_Step.j2 kk w (T1, r1) (T2, r2) (t1.1, A1) o1 (t2.1, A2) o2 w.c.Rate else world_World_Step.j2 kk w (T1, r1) (T2, r2) (t1.1, A1) o1 (t2.1, A2) o2 (imin w.c.Rate (w64 (w.ways.2.1.pipe.room - (w.ways.2.1.pipe.b.length : Int))))) = world_World_Step.j2 kk w (T1, r1) (T2, r2) (t1.1, A1) o1 (t2.1, A2) o2 (room w.ways.2.1.pipe w.c.Rate) by unfold room; split <;> rfl]
 unfold world_World_Step.j2 pipe_Pipe_Cut.f pipe_Pipe_Room.f
 rw [show station_Station_Take.f kk (t1.1, A1).2 1 (room w.ways.2.1.pipe w.c.Rate) = some (t3.1, a1) from (by subst hA1; exact stake1_q (s := { r1 with sides := ({ r1.sides.1 with ring := t1.2 }, r1.sides.2) }) (ht3 kk hk')), bsome, eo3, bsome, bsome, bsome]
 rw [show (if w.ways.2.2.pipe.cut = true then world_World_Step.j3 kk w (T1, r1) (T2, r2) o1 (t2.1, A2) o2 (t3.1, a1) o3 w.c.Rate else world_World_Step.j3 kk w (T1, r1) (T2, r2) o1 (t2.1, A2) o2 (t3.1, a1) o3 (imin w.c.Rate (w64 (w.ways.2.2.pipe.room - (w.ways.2.2.pipe.b.length : Int))))) = world_World_Step.j3 kk w (T1, r1) (T2, r2) o1 (t2.1, A2) o2 (t3.1, a1) o3 (room w.ways.2.2.pipe w.c.Rate) by unfold room; split <;> rfl]
 unfold world_World_Step.j3
 rw [show station_Station_Take.f kk (t2.1, A2).2 1 (room w.ways.2.2.pipe w.c.Rate) = some (t4.1, a2) from (by subst hA2; exact stake1_q (s := { r2 with sides := ({ r2.sides.1 with ring := t2.2 }, r2.sides.2) }) (ht4 kk hk')), bsome, eo4, bsome, ev1, bsome, ← hkk]
 rfl
structure Py (p : pipe_Pipe) : Prop where
 b : p.b = []
 stall : p.stall = false
 room : 8 ≤ p.room ∧ p.room ≤ 1048576
theorem clampL {n l : Int} (h : l ≤ n) (h0 : 0 ≤ l) : imax 0 (imin n l) = l := by unfold imax imin; (repeat' split) <;> omega
theorem rtake_nil {g : ring_Ring} (h : g.b = []) (n : Int) : ring_Ring_Take.f FK g n = some ([], g) := by
 obtain ⟨room, b, bg, ps, dr⟩ := g
 have h : b = [] := h
 subst h
 have e : imax 0 (imin n (([] : List Int).length : Int)) = 0 := by show imax 0 (imin n 0) = 0; unfold imax imin; (repeat' split) <;> omega
 unfold ring_Ring_Take.f
 dsimp only
 rw [e]
 rfl
theorem tk8_q {g : ring_Ring} {t : List Int × ring_Ring} (e : tk8 g = some t) {n : Int} (hn : 8 ≤ n) : ring_Ring_Take.f FK g n = some t ∧ t.1 = g.b ∧ g.b.length ≤ 8 := by
 unfold tk8 at e
 by_cases z : g.b.isEmpty = true
 ·have z' := List.isEmpty_iff.1 z
  rw [if_pos z] at e
  rw [← Option.some.inj e, z']
  exact ⟨rtake_nil z' n, rfl, by decide⟩
 rw [if_neg z] at e
 by_cases c : g.b.length ≤ 8
 case neg => rw [if_neg c] at e; cases e
 rw [if_pos c] at e
 have en : ring_Ring_Take.f FK g n = ring_Ring_Take.f FK g 8 := by
  unfold ring_Ring_Take.f
  rw [clampL (n := n) (by omega) (by omega), clampL (n := 8) (by omega) (by omega)]
 refine ⟨en.trans e, ?_, c⟩
 unfold ring_Ring_Take.f at e
 rw [clampL (by omega) (by omega), if_pos ⟨by omega, by omega, by omega⟩, Fr.cut0, Bl.clone_eq (by rw [List.length_take]; omega), bsome] at e
 obtain ⟨_, _, e⟩ := Option.bind_eq_some_iff.1 e
 obtain ⟨_, _, e⟩ := Option.bind_eq_some_iff.1 e
 rw [← Option.some.inj e]
 exact List.take_length
theorem room_q {p : pipe_Pipe} (h : Py p) {rate : Int} (hr : 8 ≤ rate) : 8 ≤ room p rate := by
 have := h.room
 unfold room
 split
 ·exact hr
 ·rw [h.b, w64_in ⟨by show _ ≤ p.room - 0; omega, by show p.room - 0 ≤ _; omega⟩]
  show 8 ≤ imin rate (p.room - 0)
  unfold imin; split <;> omega
theorem way_q {p : pipe_Pipe} (h : Py p) {rate : Int} (hr : 8 ≤ rate) {l : List Int} (hl : l.length ≤ 8) : ∃ o, pipe_Pipe_Put.f p l = some o ∧ pipe_Pipe_Take.f o.2 rate = some (via p.cut l, p) := by
 obtain ⟨room, b, c, s⟩ := p
 have h1 : b = [] := h.b
 have h2 : s = false := h.stall
 have h3 : 8 ≤ room ∧ room ≤ 1048576 := h.room
 subst h1 h2
 have take : ∀ m : List Int, m.length ≤ 8 → pipe_Pipe_Take.f ⟨room, m, c, false⟩ rate = some (m, ⟨room, [], c, false⟩) := by
  intro m hm
  unfold pipe_Pipe_Take.f pipe_Pipe_gone.f
  dsimp only
  rw [if_neg (by decide), clampL (by omega) (by omega), if_pos ⟨by omega, by omega, by omega⟩, Fr.cut0, Bl.clone_eq (by rw [List.length_take]; omega), bsome, Mo.del_ok m (Int.le_refl _), bsome, bsome, List.take_length, List.drop_length]
 cases c with
 | true => exact ⟨_, rfl, take [] (by decide)⟩
 | false =>
  refine ⟨((l.length : Int), ⟨room, l, false, false⟩), ?_, take l hl⟩
  have e : imin (l.length : Int) (room - 0) = l.length := by unfold imin; split <;> omega
  unfold pipe_Pipe_Put.f pipe_Pipe_Room.f
  dsimp only
  rw [if_neg (by decide), bsome, show ((([] : List Int).length : Int)) = 0 from rfl, w64_in ⟨by omega, by omega⟩, e, if_pos ⟨by omega, by omega, by omega⟩, Fr.cut0, List.take_length, if_pos (by omega)]
  rfl
theorem stp_q {rate : Int} (hr : 8 ≤ rate) {a : A} {b : B} (h1 : Py a.p11) (h2 : Py a.p12) (h3 : Py a.p21) (h4 : Py a.p22) (e : stp (toB a) = some b) :
  ∃ x, step rate a = some x ∧ toB x = b ∧ x.p11 = a.p11 ∧ x.p12 = a.p12 ∧ x.p21 = a.p21 ∧ x.p22 = a.p22 := by
 unfold stp at e
 obtain ⟨s1, es1, e⟩ := Option.bind_eq_some_iff.1 e
 obtain ⟨s2, es2, e⟩ := Option.bind_eq_some_iff.1 e
 obtain ⟨t1, et1, e⟩ := Option.bind_eq_some_iff.1 e
 obtain ⟨t2, et2, e⟩ := Option.bind_eq_some_iff.1 e
 obtain ⟨t3, et3, e⟩ := Option.bind_eq_some_iff.1 e
 obtain ⟨t4, et4, e⟩ := Option.bind_eq_some_iff.1 e
 obtain ⟨x2, ex2, e⟩ := Option.bind_eq_some_iff.1 e
 obtain ⟨x1, ex1, e⟩ := Option.bind_eq_some_iff.1 e
 obtain ⟨y2, ey2, e⟩ := Option.bind_eq_some_iff.1 e
 obtain ⟨y1, ey1, e⟩ := Option.bind_eq_some_iff.1 e
 obtain ⟨k1, l1, m1⟩ := tk8_q et1 (room_q h1 hr)
 obtain ⟨k2, l2, m2⟩ := tk8_q et2 (room_q h2 hr)
 obtain ⟨k3, l3, m3⟩ := tk8_q et3 (room_q h3 hr)
 obtain ⟨k4, l4, m4⟩ := tk8_q et4 (room_q h4 hr)
 obtain ⟨o1, p1, v1⟩ := way_q h1 hr (l := t1.1) (by rw [l1]; exact m1)
 obtain ⟨o2, p2, v2⟩ := way_q h2 hr (l := t2.1) (by rw [l2]; exact m2)
 obtain ⟨o3, p3, v3⟩ := way_q h3 hr (l := t3.1) (by rw [l3]; exact m3)
 obtain ⟨o4, p4, v4⟩ := way_q h4 hr (l := t4.1) (by rw [l4]; exact m4)
 refine ⟨⟨y1, y2, a.p11, a.p12, a.p21, a.p22⟩, ?_, Option.some.inj e, rfl, rfl, rfl, rfl⟩
 unfold step
 rw [show sstep a.s1 = some s1 from es1, bsome, show sstep a.s2 = some s2 from es2, bsome, k1, bsome, p1, bsome, k2, bsome, p2, bsome, k3, bsome, p3, bsome, k4, bsome, p4, bsome, v1, bsome, show pushes push1 (via a.p11.cut t1.1) _ = some x2 from ex2, bsome, v2, bsome, show pushes push1 (via a.p12.cut t2.1) _ = some x1 from ex1, bsome, v3, bsome, show pushes push2 (via a.p21.cut t3.1) _ = some y2 from ey2, bsome, v4, bsome, show pushes push2 (via a.p22.cut t4.1) _ = some y1 from ey1, bsome]
theorem sstep_g {s t : Sn} (h : s.st ≠ 31) (e : sstep s = some t) : t.g1 = s.g1 ∧ t.g2 = s.g2 := by
 unfold sstep at e
 obtain ⟨p, hp, e⟩ := Option.bind_eq_some_iff.1 e
 rw [if_neg h] at e
 rw [← Option.some.inj e]
 exact ⟨rfl, rfl⟩
theorem tk8_nil {g : ring_Ring} (h : g.b.isEmpty = true) : tk8 g = some ([], g) := by
 unfold tk8
 rw [if_pos h]
theorem via_nil (c : Bool) : via c [] = [] := by cases c <;> rfl
theorem stf_eq {a b : B} (e : stf a = some b) : stp a = some b := by
 unfold stf at e
 by_cases c : idle a = true
 case neg => rw [if_neg c] at e; exact e
 rw [if_pos c] at e
 unfold idle at c
 simp only [Bool.and_eq_true, Bool.not_eq_true', decide_eq_false_iff_not] at c
 obtain ⟨⟨⟨⟨⟨c1, c2⟩, c3⟩, c4⟩, c5⟩, c6⟩ := c
 obtain ⟨s1, e1, e⟩ := Option.bind_eq_some_iff.1 e
 obtain ⟨s2, e2, e⟩ := Option.bind_eq_some_iff.1 e
 have g1 := sstep_g c1 e1
 have g2 := sstep_g c2 e2
 unfold stp
 rw [e1, bsome, e2, bsome, tk8_nil (by rw [g1.1]; exact c3), bsome, tk8_nil (by rw [g2.1]; exact c5), bsome, tk8_nil (by rw [g1.2]; exact c4), bsome, tk8_nil (by rw [g2.2]; exact c6), bsome, via_nil, via_nil, via_nil, via_nil, pushes, bsome, pushes, bsome, pushes, bsome, pushes, bsome]
 exact e
structure Ok (w : world_World) : Prop where
 one : Qt w.stations.1
 two : Qt w.stations.2
 rate : 8 ≤ w.c.Rate
 y11 : Py w.ways.1.1.pipe
 y12 : Py w.ways.1.2.pipe
 y21 : Py w.ways.2.1.pipe
 y22 : Py w.ways.2.2.pipe
theorem clr_q {s : station_Station} (h : Qt s) : Qt (Pl.clr s) := { h with inds := rfl }
theorem many_q {a b c : Nat} (ea : a = 106510000) (eb : b = 1070000) (ec : c = 17000) : ∀ (n : Nat) {p : signalman_player} {C N P : Nat} {S1 S2 : Int} {x : B}, Pl.PL p C N P S1 S2 → C + a * n + 400000000 ≤ big → N + b * n ≤ 900000000000 → P + c * n ≤ 900000000000 → Ok p.w → it n (EB p.w) = some x →
  ∃ q, Pl.Many Pl.KK n p q ∧ Pl.PL q (C + a * n) (N + b * n) (P + c * n) S1 S2 ∧ Ok q.w ∧ EB q.w = x
 | 0, p, C, N, P, S1, S2, x, h, _, _, _, ok, e => ⟨p, rfl, by rw [Nat.mul_zero, Nat.mul_zero, Nat.mul_zero]; exact h, ok, Option.some.inj e⟩
 | n + 1, p, C, N, P, S1, S2, x, h, hC, hN, hP, ok, e => by
  have e1 : a * (n + 1) = a * n + a := Nat.mul_succ _ _
  have e2 : b * (n + 1) = b * n + b := Nat.mul_succ _ _
  have e3 : c * (n + 1) = c * n + c := Nat.mul_succ _ _
  obtain ⟨y, ey, e⟩ := Option.bind_eq_some_iff.1 e
  obtain ⟨z, hz, z1, z2, z3, z4, z5⟩ := stp_q ok.rate ok.y11 ok.y12 ok.y21 ok.y22 (stf_eq ey)
  obtain ⟨r, hr, r1, r2, r3, r4⟩ := wstep_q h.w (by omega) (by omega) (by omega) ok.one ok.two hz
  have hb : big = 1000000000000 := rfl
  have KKv : Pl.KK = 3000000000000 := rfl
  have hw : Wg.WI p.w C C N (Po.pot p.w.stations.1.arq + Po.pot p.w.stations.2.arq) S1 S2 := { h.w with pot := Nat.le_refl _ }
  obtain ⟨s, hs, i1⟩ := Wg.wstep hw (by omega) (by omega) (by omega)
  obtain rfl : s = r := Option.some.inj ((hs Pl.KK (by omega)).symm.trans (hr _ (by omega)))
  have hp := h.pot
  have rp := i1.pot
  have g2 : Pl.PL { w := s, out := p.out } (C + a) (N + b) (P + c) S1 S2 := ⟨i1.more (by omega) (by omega) (by omega) (by omega), by dsimp only; omega⟩
  have g3 := Pl.inds_pl g2
  have hop : ∀ k, Pl.KK ≤ k → Pl.one k p = some (Pl.indsP { w := s, out := p.out }) := by
   intro k hk
   unfold Pl.one
   rw [hr k (by omega), bsome, Pl.inds_eq _ (by dsimp only; omega) (by omega)]
  have okr : Ok (Pl.indsP { w := s, out := p.out }).w := by
   refine ⟨clr_q r2, clr_q r3, by show 8 ≤ s.c.Rate; rw [r4]; exact ok.rate, ?_, ?_, ?_, ?_⟩
   ·show Py (EW s).p11; rw [r1, z2]; exact ok.y11
   ·show Py (EW s).p12; rw [r1, z3]; exact ok.y12
   ·show Py (EW s).p21; rw [r1, z4]; exact ok.y21
   ·show Py (EW s).p22; rw [r1, z5]; exact ok.y22
  have ebr : EB (Pl.indsP { w := s, out := p.out }).w = y := by
   show toB (EW s) = y
   rw [r1]; exact z1
  obtain ⟨q, m, m1, m2, m3⟩ := many_q ea eb ec n g3 (by omega) (by omega) (by omega) okr (by rw [ebr]; exact e)
  exact ⟨q, ⟨_, hop, m⟩, m1.more (by omega) (by omega) (by omega), m2, m3⟩
end Rv
namespace Rv
open Fr (By)
open Aq (AI big)
open Pl (KK Runs Done PL)
def cfg (r : Nat) (rv : Bool) : api_Config := { Mode := 1, Modulus := 128, Window := 4, T1 := 60, N2 := 20, Hold := 2, Wait := 15, Keep := 32, Queue := 20, Size := 20, Ring := 800, Rate := 8 + (r : Int), Bad := 3, Good := 2, Revert := rv, Wide := false }
def mcB (m : monitor_Monitor) : Bool := decide (m.bad = 3 ∧ m.good = 2 ∧ m.silent = 96 ∧ m.w.sum.2 = 0)
def qtB (s : station_Station) : Bool := decide (s.c.Mode ≠ 0 ∧ s.c.Keep = 32 ∧ s.c.Wide = false ∧ s.arq.state = 0 ∧ s.arq.out = [] ∧ s.arq.inds = [] ∧ Aq.run s.arq = 0 ∧ mcB s.sides.1.monitor = true ∧ mcB s.sides.2.monitor = true)
def pyB (p : pipe_Pipe) : Bool := decide (p.b = [] ∧ p.stall = false ∧ 8 ≤ p.room ∧ p.room ≤ 1048576)
def okW (w : world_World) : Bool := qtB w.stations.1 && qtB w.stations.2 && decide (8 ≤ w.c.Rate) && pyB w.ways.1.1.pipe && pyB w.ways.1.2.pipe && pyB w.ways.2.1.pipe && pyB w.ways.2.2.pipe
theorem qt_of {s : station_Station} (h : qtB s = true) {C : Nat} {S : Int} (i : St.SI s C S) : Qt s := by
 obtain ⟨h1, h2, h3, h4, h5, h6, h7, h8, h9⟩ := of_decide_eq_true h
 obtain ⟨a1, a2, a3, a4⟩ := of_decide_eq_true h8
 obtain ⟨b1, b2, b3, b4⟩ := of_decide_eq_true h9
 exact ⟨h1, h2, h3, h4, h5, h6, h7, ⟨i.one.mon, a1, a2, a3, a4⟩, ⟨i.two.mon, b1, b2, b3, b4⟩⟩
theorem py_of {p : pipe_Pipe} (h : pyB p = true) : Py p := by
 obtain ⟨h1, h2, h3⟩ := of_decide_eq_true h
 exact ⟨h1, h2, h3⟩
theorem ok_of {w : world_World} (h : okW w = true) {C1 C2 N P : Nat} {S1 S2 : Int} (i : Wg.WI w C1 C2 N P S1 S2) : Ok w := by
 unfold okW at h
 simp only [Bool.and_eq_true] at h
 obtain ⟨⟨⟨⟨⟨⟨h1, h2⟩, h3⟩, h4⟩, h5⟩, h6⟩, h7⟩ := h
 exact ⟨qt_of h1 i.one, qt_of h2 i.two, of_decide_eq_true h3, py_of h4, py_of h5, py_of h6, py_of h7⟩
def b0 (rv : Bool) : Option B := (world_New.f FK (cfg 0 rv)).bind fun w => w.1.map EB
def iniB (r : Nat) (rv : Bool) : Bool :=
 match world_New.f FK (cfg r rv) with
 | some (some w, _) => okW w && decide (some (EB w) = b0 rv) && St.okB (cfg r rv)
 | _ => false
theorem ini_t : ((List.range 32).all fun r => iniB r true) = true := by kernel_rfl
theorem ini_f : ((List.range 32).all fun r => iniB r false) = true := by kernel_rfl
theorem ini {r : Nat} (hr : r < 32) (rv : Bool) : ∃ w e, world_New.f FK (cfg r rv) = some (some w, e) ∧ okW w = true ∧ some (EB w) = b0 rv ∧ St.okB (cfg r rv) = true := by
 have h : iniB r rv = true := by
  cases rv with
  | true => exact List.all_eq_true.1 ini_t r (List.mem_range.2 hr)
  | false => exact List.all_eq_true.1 ini_f r (List.mem_range.2 hr)
 unfold iniB at h
 cases hw : world_New.f FK (cfg r rv) with
 | none => rw [hw] at h; cases h
 | some x =>
  obtain ⟨o, e⟩ := x
  cases o with
  | none => rw [hw] at h; cases h
  | some w =>
   rw [hw] at h
   simp only [Bool.and_eq_true] at h
   exact ⟨w, e, rfl, h.1.1, of_decide_eq_true h.1.2, h.2⟩
theorem start_w {c : api_Config} (h : St.okB c = true) {w : world_World} {e0 : Int} (e : world_New.f FK c = some (some w, e0)) : PL { w := w, out := [] } 0 0 0 0 0 ∧ ∀ (l : List api_Op), l.length ≤ 1000000 → ∀ (es : List Int) (q : signalman_player) (C N P : Nat) (S1 S2 : Int), Runs l { w := w, out := [] } es q → PL q C N P S1 S2 → P ≤ 900000000000 →
  ∀ k, KK + 2000000 ≤ k → signalman_play.f k c l = some (some (Pl.indsP q), es) := by
 have KKv : KK = 3000000000000 := rfl
 obtain ⟨s, hs, hi, _, _, _, _, _, ha⟩ := St.new_ok h
 obtain ⟨x, hx, x1⟩ := Wg.pnew (w64 ((w64 (2 * c.Ring)) + c.Rate))
 have o := St.ok_of h
 have hp : Po.pot s.arq = 0 := by rw [ha]; rfl
 have y : Wg.WY { pipe := x, sent := [], got := [] } 0 := ⟨x1, Nat.le_refl _, Nat.le_refl _⟩
 have hw : ∀ k, 1000 ≤ k → world_New.f k c = some (some { c := c, stations := (s, s), ways := (({ pipe := x, sent := [], got := [] }, { pipe := x, sent := [], got := [] }), ({ pipe := x, sent := [], got := [] }, { pipe := x, sent := [], got := [] })), now := 0 }, 0) := by
  intro k hk
  unfold world_New.f
  rw [hs _ hk, bsome, if_neg (show ¬ ((some s : Option station_Station).isNone = true) by simp), if_pos rfl, hx, bsome, bsome, bsome, if_neg (show ¬ ((some s : Option station_Station).isNone = true) by simp), if_pos rfl, bsome, bsome]
  rfl
 have e1 := Prod.mk.inj (Option.some.inj ((hw FK (by decide)).symm.trans e))
 obtain rfl := Option.some.inj e1.1
 refine ⟨⟨⟨o.rate, hi, hi, by dsimp only; omega, y, y, y, y, by dsimp only; omega⟩, by dsimp only; rw [hp]; exact Nat.le_refl _⟩, fun l hl es q C N P S1 S2 hr hq hP k hk => ?_⟩
 unfold signalman_play.f
 rw [hw k (by omega), bsome, if_neg (show ¬ ((some _ : Option world_World).isNone = true) by simp), if_pos rfl]
 exact Pl.play_l0 l hl l.length 0 _ q [] es k (by omega) rfl (by rw [List.drop_zero]; exact hr) hq hP (by omega)
def cutB (v : Bool) (b : B) : B := { b with c11 := v, c12 := v }
def want (rv : Bool) : Int := if rv = true then 0 else 1
def lin (v : Int) : Option B → Bool
 | some b => decide (b.s1.ap.line = v ∧ b.s2.ap.line = v)
 | none => false
def X (rv : Bool) : Option B := ((b0 rv).bind (it 100)).bind fun b => it 150 (cutB true b)
def chk (rv : Bool) : Bool :=
 match X rv with
 | none => false
 | some x => decide (it 32 x = some x) && ((List.range 32).all fun j => lin 1 (it j x)) &&
  match it 5 x with
  | none => false
  | some y => ((List.range 32).all fun i => decide (((it i x).bind fun z => it ((37 - i) % 32) (cutB false z)) = some (cutB false y))) &&
   match it 300 (cutB false y) with
   | none => false
   | some z => decide (it 32 z = some z) && (List.range 32).all fun j => lin (want rv) (it j z)
theorem chk_t : chk true = true := by kernel_rfl
theorem chk_f : chk false = true := by kernel_rfl
theorem chk_ok (rv : Bool) : chk rv = true := by cases rv; exact chk_f; exact chk_t
theorem it_add : ∀ (m n : Nat) (x : B), it (m + n) x = (it m x).bind (it n)
 | 0, n, x => by rw [Nat.zero_add]; rfl
 | m + 1, n, x => by
  rw [show m + 1 + n = (m + n) + 1 by omega]
  show (stf x).bind (it (m + n)) = ((stf x).bind (it m)).bind (it n)
  cases stf x with
  | none => rfl
  | some y => exact it_add m n y
theorem it_per {x : B} (h : it 32 x = some x) (n : Nat) : it n x = it (n % 32) x := by
 have key : ∀ q r : Nat, it (32 * q + r) x = it r x := by
  intro q
  induction q with
  | zero => intro r; rw [Nat.mul_zero, Nat.zero_add]
  | succ q ih => intro r; rw [show 32 * (q + 1) + r = 32 + (32 * q + r) by omega, it_add, h]; exact ih r
 rw [← key (n / 32) (n % 32), Nat.div_add_mod]
theorem lin_some {v : Int} {o : Option B} (h : lin v o = true) : ∃ b, o = some b ∧ b.s1.ap.line = v ∧ b.s2.ap.line = v := by
 cases o with
 | none => cases h
 | some b => exact ⟨b, rfl, of_decide_eq_true h⟩
theorem chk_use (rv : Bool) {b : B} (hb : b0 rv = some b) : ∃ x, it 100 b = some x ∧ ∀ d : Nat, ∃ y, it (150 + d) (cutB true x) = some y ∧ y.s1.ap.line = 1 ∧ y.s2.ap.line = 1 ∧
  ∀ m : Nat, 400 ≤ m → ∃ z, it m (cutB false y) = some z ∧ z.s1.ap.line = want rv ∧ z.s2.ap.line = want rv := by
 have h := chk_ok rv
 unfold chk at h
 cases hX : X rv with
 | none => rw [hX] at h; cases h
 | some x =>
  rw [hX] at h
  unfold X at hX
  rw [hb] at hX
  rw [bsome] at hX
  obtain ⟨x0, hx0, hx1⟩ := Option.bind_eq_some_iff.1 hX
  refine ⟨x0, hx0, fun d => ?_⟩
  dsimp only at h
  rw [Bool.and_eq_true, Bool.and_eq_true] at h
  obtain ⟨⟨p1, p2⟩, h⟩ := h
  have p1 := of_decide_eq_true p1
  obtain ⟨y, hy, y1, y2⟩ := lin_some (List.all_eq_true.1 p2 (d % 32) (List.mem_range.2 (Nat.mod_lt _ (by decide))))
  refine ⟨y, ?_, y1, y2, fun m hm => ?_⟩
  ·rw [it_add, hx1, bsome]
   exact (it_per p1 d).trans hy
  cases h5 : it 5 x with
  | none => rw [h5] at h; cases h
  | some w =>
   rw [h5] at h
   dsimp only at h
   rw [Bool.and_eq_true] at h
   obtain ⟨p3, h⟩ := h
   cases hz : it 300 (cutB false w) with
   | none => rw [hz] at h; cases h
   | some z =>
    rw [hz] at h
    dsimp only at h
    rw [Bool.and_eq_true] at h
    obtain ⟨p4, p5⟩ := h
    have p4 := of_decide_eq_true p4
    have q := of_decide_eq_true (List.all_eq_true.1 p3 (d % 32) (List.mem_range.2 (Nat.mod_lt _ (by decide))))
    rw [hy, bsome] at q
    have hk : (37 - d % 32) % 32 < 32 := Nat.mod_lt _ (by decide)
    obtain ⟨u, hu, u1, u2⟩ := lin_some (List.all_eq_true.1 p5 ((m - (37 - d % 32) % 32 - 300) % 32) (List.mem_range.2 (Nat.mod_lt _ (by decide))))
    refine ⟨u, ?_, u1, u2⟩
    rw [show m = (37 - d % 32) % 32 + (300 + (m - (37 - d % 32) % 32 - 300)) by omega, it_add, q, bsome, it_add, hz, bsome]
    exact (it_per p4 _).trans hu
def fop (v : Bool) (i : Int) : api_Op := { Kind := 7, At := i, Line := 0, N := 0, Fault := if v = true then 1 else 0, B := [] }
def setC (v : Bool) (p : pipe_Pipe) : pipe_Pipe := { p with cut := v, stall := if v = true then p.stall else false }
theorem setC_eq (v : Bool) (p : pipe_Pipe) : pipe_Pipe_Fault.f p (if v = true then 1 else 0) 0 0 = some (true, setC v p) := by cases v <;> rfl
theorem setC_py {v : Bool} {p : pipe_Pipe} (h : Py p) : Py (setC v p) := ⟨h.b, by unfold setC; dsimp only; rw [h.stall]; split <;> rfl, h.room⟩
theorem setC_pp {v : Bool} {p : pipe_Pipe} (h : Wg.PP p) : Wg.PP (setC v p) := ⟨h.room, h.len, h.by_⟩
theorem fault_q {p : signalman_player} {C N P : Nat} {S1 S2 : Int} (h : PL p C N P S1 S2) (ok : Ok p.w) (v : Bool) : ∃ q, Runs [fop v 0, fop v 1] p [0, 0] q ∧ PL q C N P S1 S2 ∧ Ok q.w ∧ EB q.w = cutB v (EB p.w) := by
 let w1 : world_World := { p.w with ways := (({ p.w.ways.1.1 with pipe := setC v p.w.ways.1.1.pipe }, p.w.ways.1.2), p.w.ways.2) }
 let w2 : world_World := { p.w with ways := (({ p.w.ways.1.1 with pipe := setC v p.w.ways.1.1.pipe }, { p.w.ways.1.2 with pipe := setC v p.w.ways.1.2.pipe }), p.w.ways.2) }
 have hd : ∀ (i : Int) (w : signalman_player) (u : world_World), world_World_Fault.f w.w 0 i (if v = true then 1 else 0) 0 0 = some (true, u) → Done w (fop v i) 0 { w := u, out := w.out } := by
  intro i w u hu k hk
  unfold signalman_player_do.f
  rw [if_neg (show ¬ (fop v i).Kind = 1 by show ¬ (7 : Int) = 1; decide), if_pos (show (fop v i).Kind = 7 from rfl), show signalman_first.f (fop v i).B = some 0 from rfl, bsome]
  refine Eq.trans (congrArg (fun z => Option.bind z _) (hu : world_World_Fault.f w.w 0 i (fop v i).Fault 0 0 = _)) ?_
  rfl
 have f1 : world_World_Fault.f p.w 0 0 (if v = true then 1 else 0) 0 0 = some (true, w1) := by
  unfold world_World_Fault.f
  rw [if_pos (by decide), if_pos (by decide), if_pos (by decide), if_pos (by decide), if_pos (by decide), if_pos rfl, if_pos (by decide), if_pos rfl, setC_eq, bsome]
 have f2 : world_World_Fault.f w1 0 1 (if v = true then 1 else 0) 0 0 = some (true, w2) := by
  unfold world_World_Fault.f
  rw [if_pos (by decide), if_pos (by decide), if_pos (by decide), if_pos (by decide), if_pos (by decide), if_pos rfl, if_pos (by decide), if_neg (by decide), setC_eq, bsome]
 refine ⟨{ w := w2, out := p.out }, ⟨0, { w := w1, out := p.out }, [0], hd 0 p w1 f1, ⟨0, _, [], hd 1 { w := w1, out := p.out } w2 f2, ⟨rfl, rfl⟩, rfl⟩, rfl⟩, ⟨{ h.w with y11 := ⟨setC_pp h.w.y11.pipe, h.w.y11.got, h.w.y11.sent⟩, y12 := ⟨setC_pp h.w.y12.pipe, h.w.y12.got, h.w.y12.sent⟩ }, h.pot⟩, { ok with y11 := setC_py ok.y11, y12 := setC_py ok.y12 }, rfl⟩
def sop (n : Int) : api_Op := { Kind := 1, At := 0, Line := 0, N := n, Fault := 0, B := [] }
theorem steps_q {a b c : Nat} (ea : a = 106510000) (eb : b = 1070000) (ec : c = 17000) {p : signalman_player} {C N P : Nat} {S1 S2 : Int} (h : PL p C N P S1 S2) (ok : Ok p.w) {n : Nat} (hn : n ≤ 100000) (hC : C + a * n + 400000000 ≤ big) (hN : N + b * n ≤ 900000000000) (hP : P + c * n ≤ 900000000000) {x : B} (e : it n (EB p.w) = some x) :
  ∃ q, Runs [sop n] p [0] q ∧ PL q (C + a * n) (N + b * n) (P + c * n) S1 S2 ∧ Ok q.w ∧ EB q.w = x := by
 have KKv : KK = 3000000000000 := rfl
 obtain ⟨q, m, q1, q2, q3⟩ := many_q ea eb ec n h hC hN hP ok e
 have hm : imin ((n : Int)) 100000 = n := by unfold imin; split <;> omega
 refine ⟨q, ⟨0, q, [], fun k hk => ?_, ⟨rfl, rfl⟩, rfl⟩, q1, q2, q3⟩
 unfold signalman_player_do.f signalman_player_steps.f
 rw [if_pos (show (sop n).Kind = 1 from rfl), Pl.steps_l0 n 0 p q k (by decide) (by decide) (.inl (by show (0 : Int) + n = imin (n : Int) 100000; omega)) m (by omega), bsome]
 have : decide ((sop n).N < 0) = false := decide_eq_false (by show ¬ (n : Int) < 0; omega)
 rw [this]
 rfl
end Rv
theorem iand_mask (x : Int) (j : Nat) (hj : j ≤ 30) : iand .i64 x (((2 ^ j - 1 : Nat)) : Int) = x % ((2 ^ j : Nat) : Int) := by
 have hp : 2 ^ j ≤ 2 ^ 30 := Nat.pow_le_pow_right (by omega) hj
 have hp1 : 1 ≤ 2 ^ j := Nat.one_le_two_pow
 have hdv : (2 ^ j) ∣ (2 ^ 64) := Nat.pow_dvd_pow 2 (by omega)
 unfold iand
 show IntKind.i64.wrap (BitVec.ofInt 64 x &&& BitVec.ofInt 64 (((2 ^ j - 1 : Nat)) : Int)).toNat = _
 rw [BitVec.toNat_and, BitVec.toNat_ofInt, BitVec.toNat_ofInt]
 have e1 : ((((2 ^ j - 1 : Nat)) : Int) % (2 ^ 64 : Nat)).toNat = 2 ^ j - 1 := by
  have : (2 ^ 64 : Nat) = 18446744073709551616 := by decide
  rw [this]; omega
 rw [e1, Nat.and_two_pow_sub_one_eq_mod]
 have e2 : (((x % (2 ^ 64 : Nat)).toNat % 2 ^ j : Nat) : Int) = x % ((2 ^ j : Nat) : Int) := by
  have h0 : 0 ≤ x % ((2 ^ 64 : Nat) : Int) := Int.emod_nonneg _ (by decide)
  rw [Int.natCast_emod, Int.toNat_of_nonneg h0]
  exact Int.emod_emod_of_dvd x (Int.natCast_dvd_natCast.2 hdv)
 have hb : 0 ≤ x % ((2 ^ j : Nat) : Int) ∧ x % ((2 ^ j : Nat) : Int) < ((2 ^ j : Nat) : Int) := ⟨Int.emod_nonneg _ (by omega), Int.emod_lt_of_pos _ (by omega)⟩
 have : w64 (((x % (2 ^ 64 : Nat)).toNat % 2 ^ j : Nat) : Int) = x % ((2 ^ j : Nat) : Int) := by
  rw [e2, w64_in ⟨by omega, by have : (2 ^ 30 : Nat) = 1073741824 := (by decide); omega⟩]
 exact this
namespace Sp2
open Pl
open Fr (By)
open Aq (AI big)
theorem play_any (c : api_Config) {l : List api_Op} (hl : l.length ≤ 80) (cl : costs l ≤ 2500) (bl : ∀ z ∈ l, By z.B) : ∃ v, ∀ k, 3500000000000 ≤ k → signalman_Play.f k c l = some v := by
 by_cases hok : St.okB c = true
 ·obtain ⟨p0, h0, _, play⟩ := start_ok hok
  obtain ⟨a, ea⟩ : ∃ a, a = 106510000 := ⟨_, rfl⟩
  obtain ⟨b, eb⟩ : ∃ b, b = 1070000 := ⟨_, rfl⟩
  obtain ⟨d, ed⟩ : ∃ d, d = 17000 := ⟨_, rfl⟩
  have a1 : a * costs l ≤ 266275000000 := Nat.le_trans (Nat.mul_le_mul_left a cl) (by rw [ea]; exact Nat.le_refl _)
  have b1 : b * costs l ≤ 2675000000 := Nat.le_trans (Nat.mul_le_mul_left b cl) (by rw [eb]; exact Nat.le_refl _)
  have d1 : d * costs l ≤ 42500000 := Nat.le_trans (Nat.mul_le_mul_left d cl) (by rw [ed]; exact Nat.le_refl _)
  have hbig : big = 1000000000000 := rfl
  have KKv : KK = 3000000000000 := rfl
  obtain ⟨e1, p1, r1, h1, _⟩ := runs_ok ea eb ed l h0 bl (by omega) (by omega) (by omega)
  exact ⟨_, fun k hk => play l (by omega) e1 p1 _ _ _ _ _ r1 h1 (by omega) k (by omega)⟩
 ·exact ⟨_, fun k _ => start_no hok l k⟩
theorem alive0 : signalmanlaw25_alive.f 4000000000000 = some true := by kernel_rfl
theorem aliveS {k : Nat} (hk : 4000000000000 ≤ k) : signalmanlaw25_alive.f k = some true := by
 rw [← alive0]
 unfold signalmanlaw25_alive.f
 cases hg : signalmanlaw20_Good.f 0 3 30 false false with
 | none => rfl
 | some c =>
  obtain ⟨v, hv⟩ := play_any c (l := []) (by decide) (by decide) (fun z hz => nomatch hz)
  obtain ⟨u, hu⟩ := play_any c (l := [({ Kind := 2, At := 0, Line := 0, N := 0, Fault := 0, B := [] } : api_Op), ({ Kind := 1, At := 0, Line := 0, N := 60, Fault := 0, B := [] } : api_Op)]) (by decide) (by decide) (fun z hz => by
   simp only [List.mem_cons, List.not_mem_nil, or_false] at hz
   rcases hz with e | e <;> subst e <;> exact fun _ h => nomatch h)
  rw [bsome, bsome, hv k (by omega), hv _ (by omega), bsome, bsome, hu k (by omega), hu _ (by omega)]
end Sp2
namespace Rv
open Aq (big)
open Pl (KK Runs PL)
theorem settle_t : ((List.range 32).all fun r => [true, false].all fun rv => match signalmanref20_Settle.f (cfg r rv) with
 | some m => decide (400 ≤ m ∧ m ≤ 2000)
 | none => false) = true := by kernel_rfl
theorem settle {r : Nat} (hr : r < 32) (rv : Bool) : ∃ m : Nat, signalmanref20_Settle.f (cfg r rv) = some (m : Int) ∧ 400 ≤ m ∧ m ≤ 2000 := by
 have h := List.all_eq_true.1 (List.all_eq_true.1 settle_t r (List.mem_range.2 hr)) rv (by cases rv <;> decide)
 cases e : signalmanref20_Settle.f (cfg r rv) with
 | none => rw [e] at h; cases h
 | some m =>
  rw [e] at h
  have h := of_decide_eq_true h
  exact ⟨m.toNat, by rw [Int.toNat_of_nonneg (by omega)], by omega, by omega⟩
theorem good_q (a0 : Int) (a1 : Bool) : ∃ (G : api_Config) (r : Nat), signalmanlaw20_Good.f 1 3 a0 a1 false = some G ∧ r < 32 ∧ ({ G with Rate := w64 (8 + iand .i64 G.Rate 31) } : api_Config) = cfg r a1 ∧ G.Keep = 32 ∧ G.Hold = 2 := by
 refine ⟨_, (w64 (1 + iand .i64 a0 63) % 32).toNat, rfl, by omega, ?_, rfl, rfl⟩
 have e : iand .i64 (w64 (1 + iand .i64 a0 63)) 31 = w64 (1 + iand .i64 a0 63) % 32 := iand_mask _ 5 (by decide)
 have e1 : w64 (8 + iand .i64 (w64 (1 + iand .i64 a0 63)) 31) = 8 + ((w64 (1 + iand .i64 a0 63) % 32).toNat : Int) := by rw [e, w64_in ⟨by omega, by omega⟩]; omega
 have e2 : iand .i64 1 1 = 1 := by decide
 have e3 : w64 (1 + iand .i64 3 15) = 4 := by decide
 dsimp only
 rw [e1, e2, e3]
 rfl
theorem after_q {c : api_Config} {l : List api_Op} {q : signalman_player} {es : List Int} (play : ∀ k, KK + 2000000 ≤ k → signalman_play.f k c l = some (some (Pl.indsP q), es)) (ok : Ok q.w) {k : Nat} (hk : KK + 2000000 ≤ k) :
  ∃ x : api_Status × api_Status, signalman_After.f k c l = some (x, true) ∧ x.1.Line = (EB q.w).s1.ap.line ∧ x.2.Line = (EB q.w).s2.ap.line := by
 unfold signalman_After.f
 rw [play k hk, bsome]
 dsimp only
 rw [if_neg (by simp), show ((some (Pl.indsP q)).getD default) = Pl.indsP q from rfl, St.status_eq, bsome, St.status_eq, bsome]
 exact ⟨_, rfl, if_neg ok.one.mode, if_neg ok.two.mode⟩
end Rv
theorem SignalReverts : signalmanlaw25_SignalReverts.Pure := by
 intro a0 a1 a2 _ _
 refine ⟨4000000000000, ?_⟩
 unfold signalmanlaw25_SignalReverts.f
 rw [Sp2.aliveS (Nat.le_refl _), bsome, if_pos rfl]
 have no : ∀ b, b = true → signalmanlaw25_SignalReverts.j0 4000000000000 a0 a1 a2 true b = some true := by
  intro b hb
  unfold signalmanlaw25_SignalReverts.j0
  rw [if_pos hb]
 by_cases n0 : a2 < 0
 ·rw [if_pos n0]; exact no true rfl
 rw [if_neg n0]
 by_cases n1 : a2 > 300
 ·exact no _ (decide_eq_true n1)
 rw [decide_eq_false n1]
 obtain ⟨d, rfl⟩ : ∃ d : Nat, a2 = d := ⟨a2.toNat, (Int.toNat_of_nonneg (by omega)).symm⟩
 obtain ⟨G, r, hG, hr, hc, hk, hh⟩ := Rv.good_q a0 a1
 obtain ⟨m, hm, m1, m2⟩ := Rv.settle hr a1
 obtain ⟨w, e0, hw, hok, hb, hB⟩ := Rv.ini hr a1
 obtain ⟨h0, play⟩ := Rv.start_w hB hw
 have ok0 := Rv.ok_of hok h0.w
 have KKv : Pl.KK = 3000000000000 := rfl
 have hbig : Aq.big = 1000000000000 := rfl
 obtain ⟨x, hx, H⟩ := Rv.chk_use a1 hb.symm
 obtain ⟨y, hy, y1, y2, H⟩ := H d
 obtain ⟨z, hz, z1, z2⟩ := H m m1
 obtain ⟨a, ea⟩ : ∃ a, a = 106510000 := ⟨_, rfl⟩
 obtain ⟨b, eb⟩ : ∃ b, b = 1070000 := ⟨_, rfl⟩
 obtain ⟨c, ec⟩ : ∃ c, c = 17000 := ⟨_, rfl⟩
 have bd : ∀ n M : Nat, n ≤ M → a * n ≤ 106510000 * M ∧ b * n ≤ 1070000 * M ∧ c * n ≤ 17000 * M := fun n M h => by
  subst ea eb ec
  exact ⟨Nat.mul_le_mul_left _ h, Nat.mul_le_mul_left _ h, Nat.mul_le_mul_left _ h⟩
 have b1 := bd 100 100 (Nat.le_refl _)
 have b2 := bd (150 + d) 450 (by omega)
 have b3 := bd m 2000 m2
 obtain ⟨p1, r1, h1, ok1, q1⟩ := Rv.steps_q ea eb ec h0 ok0 (n := 100) (by decide) (by omega) (by omega) (by omega) hx
 replace h1 := h1.more (D := 10651000000) (M := 107000000) (Q := 1700000) (by omega) (by omega) (by omega)
 obtain ⟨p2, r2, h2, ok2, q2⟩ := Rv.fault_q h1 ok1 true
 obtain ⟨p3, r3, h3, ok3, q3⟩ := Rv.steps_q ea eb ec h2 ok2 (n := 150 + d) (by omega) (by omega) (by omega) (by omega) (by rw [q2, q1]; exact hy)
 have R3 := Pl.runs_app _ r1 (Pl.runs_app _ r2 r3)
 replace h3 := h3.more (D := 100000000000) (M := 1000000000) (Q := 20000000) (by omega) (by omega) (by omega)
 obtain ⟨p4, r4, h4, ok4, q4⟩ := Rv.fault_q h3 ok3 false
 obtain ⟨p5, r5, h5, ok5, q5⟩ := Rv.steps_q ea eb ec h4 ok4 (n := m) (by omega) (by omega) (by omega) (by omega) (by rw [q4, q3]; exact hz)
 have R5 := Pl.runs_app _ R3 (Pl.runs_app _ r4 r5)
 obtain ⟨s, hs, s1, s2⟩ := Rv.after_q (play _ (by show (4 : Nat) ≤ 1000000; omega) _ _ _ _ _ _ _ R3 h3 (by omega)) ok3 (k := 4000000000000) (by omega)
 obtain ⟨t, ht, t1, t2⟩ := Rv.after_q (play _ (by show (7 : Nat) ≤ 1000000; omega) _ _ _ _ _ _ _ R5 h5 (by omega)) ok5 (k := 4000000000000) (by omega)
 rw [q3, y1] at s1
 rw [q3, y2] at s2
 rw [q5, z1] at t1
 rw [q5, z2] at t2
 have eN : w64 ((w64 ((w64 ((w64 (4 * G.Keep)) + G.Hold)) + 20)) + (d : Int)) = ((150 + d : Nat) : Int) := by
  rw [hk, hh, show w64 ((w64 ((w64 (4 * 32)) + 2)) + 20) = 150 by decide, w64_in ⟨by omega, by omega⟩]; omega
 unfold signalmanlaw25_SignalReverts.j0
 rw [if_neg (by decide), hG, bsome, hc, hm, bsome, eN]
 refine (congrArg (fun z => Option.bind z _) hs).trans ?_
 rw [bsome, if_pos (by simp only [List.length_cons, List.length_nil]; omega)]
 refine (congrArg (fun z => Option.bind z _) ht).trans ?_
 rw [bsome]
 cases a1 with
 | true =>
  have t1 : t.1.Line = 0 := t1
  have t2 : t.2.Line = 0 := t2
  rw [if_pos rfl, if_pos rfl, if_pos rfl, if_pos s1, if_pos s2, if_pos t1, decide_eq_true t2]
 | false =>
  have t1 : t.1.Line = 1 := t1
  have t2 : t.2.Line = 1 := t2
  rw [if_neg (by decide), if_pos rfl, if_pos rfl, if_pos s1, if_pos s2, if_pos t1, decide_eq_true t2]
end Go.Proofs.YtgkjmdapodgnfaaGreat

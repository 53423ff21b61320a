/- SignalRefuses: operations that are refused change nothing that is told. Conditions: none beyond those of the given statement. -/
import Derived.Test.YtgkjmdapodgnfaaGreatLibSignalRefuses
import Derived.KernelRfl
set_option linter.all false
set_option maxRecDepth 100000
namespace Go.Proofs.YtgkjmdapodgnfaaGreat
open Go.RowKit Go.Proofs.YtgkjmdapodgnfaaGreat.Walk
open Aq
open Fr (By)
variable {a : arq_Arq} {C : Nat} {S : Int}
namespace Mo
open Fr (By)
def nf (g : Nat) : Nat := FloatKind.f64.nearest (g : Int)
theorem nf_tab : ((List.range 17).all fun g => decide (fop .add (nf g) (nf 1) = some (nf (g + 1))) && decide (fop .add (nf g) 0 = some (nf g)) && decide (fop .sub (nf (g + 1)) (nf 1) = some (nf g)) && decide (fop .sub (nf g) 0 = some (nf g)) && decide (tally_count.f (nf g) = some ((g : Int), true))) = true := by kernel_rfl
theorem nf1 : nf 1 = 4607182418800017408 := by kernel_rfl
theorem nf0 : nf 0 = 0 := by kernel_rfl
theorem nf_all {g : Nat} (h : g ≤ 16) : fop .add (nf g) (nf 1) = some (nf (g + 1)) ∧ fop .add (nf g) 0 = some (nf g) ∧ fop .sub (nf (g + 1)) (nf 1) = some (nf g) ∧ fop .sub (nf g) 0 = some (nf g) ∧ tally_count.f (nf g) = some ((g : Int), true) := by
 have := List.all_eq_true.1 nf_tab g (List.mem_range.2 (by omega))
 simp only [Bool.and_eq_true, decide_eq_true_eq] at this
 exact ⟨this.1.1.1.1, this.1.1.1.2, this.1.1.2, this.1.2, this.2⟩
def cnt (b : Bool) (l : List Bool) : Nat := l.count b
structure WI (w : tally_Window) : Prop where
 len : w.l.length = 16
 at_ : 0 ≤ w.at_ ∧ w.at_ < 16
 kept : 0 ≤ w.kept ∧ w.kept ≤ 16
 near : w.kept < 16 → w.at_ = w.kept
 sum : w.sum = (nf (cnt true (w.l.take w.kept.toNat)), nf (cnt false (w.l.take w.kept.toNat)))
theorem one_eq (b : Bool) : tally_one.f b = some (if b = true then (nf 1, 0) else (0, nf 1)) := by
 unfold tally_one.f; rw [nf1]; cases b <;> rfl
theorem add_eq {g b : Nat} (hg : g ≤ 16) (hb : b ≤ 16) (o : Bool) : cxop .add (nf g, nf b) (if o = true then (nf 1, 0) else (0, nf 1)) = some (nf (g + if o = true then 1 else 0), nf (b + if o = true then 0 else 1)) := by
 unfold cxop
 cases o
 ·show (fop .add (nf g) 0).bind _ = _
  rw [(nf_all hg).2.1, Option.bind_some]
  show (fop .add (nf b) (nf 1)).bind _ = _
  rw [(nf_all hb).1]; rfl
 ·show (fop .add (nf g) (nf 1)).bind _ = _
  rw [(nf_all hg).1, Option.bind_some]
  show (fop .add (nf b) 0).bind _ = _
  rw [(nf_all hb).2.1]; rfl
theorem sub_eq {g b : Nat} (hg : g ≤ 16) (hb : b ≤ 16) (o : Bool) : cxop .sub (nf (g + if o = true then 1 else 0), nf (b + if o = true then 0 else 1)) (if o = true then (nf 1, 0) else (0, nf 1)) = some (nf g, nf b) := by
 unfold cxop
 cases o
 ·show (fop .sub (nf g) 0).bind _ = _
  rw [(nf_all hg).2.2.2.1, Option.bind_some]
  show (fop .sub (nf (b + 1)) (nf 1)).bind _ = _
  rw [(nf_all hb).2.2.1]; rfl
 ·show (fop .sub (nf (g + 1)) (nf 1)).bind _ = _
  rw [(nf_all hg).2.2.1, Option.bind_some]
  show (fop .sub (nf b) 0).bind _ = _
  rw [(nf_all hb).2.2.2.1]; rfl
theorem cnt_le (b : Bool) (l : List Bool) : cnt b l ≤ l.length := List.count_le_length
theorem cnt_app (b : Bool) (l m : List Bool) : cnt b (l ++ m) = cnt b l + cnt b m := List.count_append
theorem cnt_one (o : Bool) : cnt true [o] = (if o = true then 1 else 0) ∧ cnt false [o] = (if o = true then 0 else 1) := by cases o <;> decide
theorem split_at {l : List Bool} {i : Nat} (h : i < l.length) : l = l.take i ++ ([l.getD i false] ++ l.drop (i + 1)) := by
 have e : l.getD i false = l[i] := by simp [List.getD, h]
 rw [e]
 simp
theorem set_at {l : List Bool} {i : Nat} (h : i < l.length) (o : Bool) : l.set i o = l.take i ++ ([o] ++ l.drop (i + 1)) := by
 rw [List.set_eq_take_append_cons_drop, if_pos h]; rfl
theorem note_ok {w : tally_Window} (h : WI w) (o : Bool) : ∃ r, tally_Window_Note.f w o = some r ∧ WI r := by
 have h0 := h.at_
 have hk := h.kept
 have hl := h.len
 have ti : w.at_.toNat < w.l.length := by omega
 have key : ∀ (x : tally_Window) (g b : Nat), x.l = w.l → x.at_ = w.at_ → 0 ≤ x.kept ∧ x.kept ≤ 16 → (x.kept < 16 → w.at_ + 1 = x.kept) → g ≤ 16 → b ≤ 16 → x.sum = (nf g, nf b) →
   cnt true ((w.l.set w.at_.toNat o).take x.kept.toNat) = g + (if o = true then 1 else 0) → cnt false ((w.l.set w.at_.toNat o).take x.kept.toNat) = b + (if o = true then 0 else 1) → ∃ r, tally_Window_Note.j0 o x = some r ∧ WI r := by
  intro x g b e1 e2 e3 e4 hg hb e5 e6 e7
  unfold tally_Window_Note.j0
  have hs : ((w.l.set w.at_.toNat o).length : Int) = 16 := by rw [List.length_set]; omega
  rw [e1, e2, if_pos ⟨h0.1, by omega⟩, one_eq, Option.bind_some, e5, add_eq hg hb, Option.bind_some, hs, if_pos (by decide), w64_in ⟨by omega, by omega⟩, Int.tmod_eq_emod_of_nonneg (by omega)]
  refine ⟨_, rfl, ⟨by show (w.l.set w.at_.toNat o).length = 16; omega, by show 0 ≤ (w.at_ + 1) % 16 ∧ (w.at_ + 1) % 16 < 16; omega, e3, fun q => by show (w.at_ + 1) % 16 = x.kept; have := e4 q; have q : x.kept < 16 := q; omega, ?_⟩⟩
  show (_, _) = (_, _)
  dsimp only
  rw [e6, e7]
 unfold tally_Window_Note.f
 by_cases c : w.kept = (w.l.length : Int)
 ·rw [if_pos c, if_pos ⟨h0.1, by omega⟩, one_eq, Option.bind_some]
  have e16 : w.kept = 16 := by omega
  have hsum := h.sum
  have tk : w.l.take w.kept.toNat = w.l := List.take_of_length_le (by omega)
  rw [tk] at hsum
  have s0 := split_at ti
  have sc : ∀ b, cnt b w.l = cnt b (w.l.take w.at_.toNat) + (cnt b [w.l.getD w.at_.toNat false] + cnt b (w.l.drop (w.at_.toNat + 1))) := fun b => (congrArg (cnt b) s0).trans (by rw [cnt_app, cnt_app])
  have l1 := cnt_le true (w.l.take w.at_.toNat)
  have l2 := cnt_le true (w.l.drop (w.at_.toNat + 1))
  have l3 := cnt_le false (w.l.take w.at_.toNat)
  have l4 := cnt_le false (w.l.drop (w.at_.toNat + 1))
  rw [List.length_take] at l1 l3
  rw [List.length_drop] at l2 l4
  have n1 := cnt_one (w.l.getD w.at_.toNat false)
  have hsub := sub_eq (g := cnt true (w.l.take w.at_.toNat) + cnt true (w.l.drop (w.at_.toNat + 1))) (b := cnt false (w.l.take w.at_.toNat) + cnt false (w.l.drop (w.at_.toNat + 1))) (by omega) (by omega) (w.l.getD w.at_.toNat false)
  have e1 : w.sum = (nf (cnt true (w.l.take w.at_.toNat) + cnt true (w.l.drop (w.at_.toNat + 1)) + if w.l.getD w.at_.toNat false = true then 1 else 0), nf (cnt false (w.l.take w.at_.toNat) + cnt false (w.l.drop (w.at_.toNat + 1)) + if w.l.getD w.at_.toNat false = true then 0 else 1)) := by
   rw [hsum, sc true, sc false, n1.1, n1.2]
   congr 2 <;> omega
  rw [e1, hsub, Option.bind_some]
  have m1 := cnt_one o
  have tk2 : (w.l.set w.at_.toNat o).take w.kept.toNat = w.l.set w.at_.toNat o := List.take_of_length_le (by rw [List.length_set]; omega)
  refine key { w with sum := _ } _ _ rfl rfl hk (fun q => by have q : w.kept < 16 := q; omega) (by omega) (by omega) rfl ?_ ?_
  ·show cnt true ((w.l.set w.at_.toNat o).take w.kept.toNat) = _
   rw [tk2, set_at ti, cnt_app, cnt_app, m1.1]; omega
  ·show cnt false ((w.l.set w.at_.toNat o).take w.kept.toNat) = _
   rw [tk2, set_at ti, cnt_app, cnt_app, m1.2]; omega
 ·have e1 := h.near (by omega)
  rw [if_neg c, w64_in ⟨by omega, by omega⟩]
  have tk2 : (w.l.set w.at_.toNat o).take (w.kept + 1).toNat = w.l.take w.kept.toNat ++ [o] := by
   rw [set_at ti, e1, show (w.kept + 1).toNat = (w.l.take w.kept.toNat).length + 1 by rw [List.length_take]; omega, List.take_length_add_append]
   rfl
  have m1 := cnt_one o
  have l1 := cnt_le true (w.l.take w.kept.toNat)
  have l3 := cnt_le false (w.l.take w.kept.toNat)
  rw [List.length_take] at l1 l3
  refine key { w with kept := w.kept + 1 } (cnt true (w.l.take w.kept.toNat)) (cnt false (w.l.take w.kept.toNat)) rfl rfl (by show 0 ≤ w.kept + 1 ∧ w.kept + 1 ≤ 16; omega) (fun _ => by show w.at_ + 1 = w.kept + 1; omega) (by omega) (by omega) h.sum ?_ ?_
  ·show cnt true ((w.l.set w.at_.toNat o).take (w.kept + 1).toNat) = _
   rw [tk2, cnt_app, m1.1]
  ·show cnt false ((w.l.set w.at_.toNat o).take (w.kept + 1).toNat) = _
   rw [tk2, cnt_app, m1.2]
theorem parts_ok {w : tally_Window} (h : WI w) : tally_Parts.f w.sum = some ((cnt true (w.l.take w.kept.toNat) : Int), (cnt false (w.l.take w.kept.toNat) : Int), true) := by
 have hl := h.len
 have l1 := cnt_le true (w.l.take w.kept.toNat)
 have l3 := cnt_le false (w.l.take w.kept.toNat)
 rw [List.length_take] at l1 l3
 unfold tally_Parts.f tally_Parts.j0
 rw [h.sum]
 dsimp only
 rw [(nf_all (by omega)).2.2.2.2, Option.bind_some, (nf_all (by omega)).2.2.2.2, Option.bind_some]
 rfl
theorem clear_wi {w : tally_Window} (h : WI w) : WI { l := w.l, at_ := 0, kept := 0, sum := (0, 0) } :=
 ⟨h.len, by show (0 : Int) ≤ 0 ∧ (0 : Int) < 16; decide, by show (0 : Int) ≤ 0 ∧ (0 : Int) ≤ 16; decide, fun _ => rfl, by show (0, 0) = (nf (cnt true (w.l.take 0)), nf (cnt false (w.l.take 0))); rw [List.take_zero]; show (0, 0) = (nf 0, nf 0); rw [nf0]⟩
structure MI (m : monitor_Monitor) : Prop where
 bad : 1 ≤ m.bad ∧ m.bad ≤ 16
 good : 1 ≤ m.good ∧ m.good ≤ 16
 silent : 1 ≤ m.silent ∧ m.silent ≤ 1073741824
 w : WI m.w
 row : 0 ≤ m.row ∧ m.row ≤ 16
 quiet : 0 ≤ m.silence ∧ m.silence ≤ 1073741824
 state : 0 ≤ m.state ∧ m.state ≤ 2
theorem mnew_ok (a b c : Int) : ∃ r, monitor_New.f a b c = some r ∧ MI r := by
 unfold monitor_New.f monitor_cut.f
 rw [bsome, bsome, bsome]
 have ht : tally_New.f 16 = some { l := List.replicate 16 false, at_ := 0, kept := 0, sum := (0, 0) } := by kernel_rfl
 rw [ht, bsome]
 have z : WI { l := List.replicate 16 false, at_ := 0, kept := 0, sum := (0, 0) } := ⟨by decide, by decide, by decide, fun _ => rfl, by kernel_rfl⟩
 refine ⟨_, rfl, ⟨?_, ?_, ?_, z, ?_, ?_, ?_⟩⟩ <;> dsimp only
 iterate 3 (unfold imax imin; constructor <;> (repeat' split) <;> omega)
 all_goals omega
theorem mnote_ok {m : monitor_Monitor} (h : MI m) (o : Bool) : ∃ r, monitor_Monitor_Note.f m o = some r ∧ MI r.2 := by
 obtain ⟨w, hw, hi⟩ := note_ok h.w o
 have hr := h.row
 have hb := h.bad
 have key : ∀ x : monitor_Monitor, MI x → ∃ r, monitor_Monitor_Note.j0 x = some r ∧ MI r.2 := by
  intro x hx
  have hxb := hx.bad
  have fin2 : ∀ b, ∃ r, monitor_Monitor_Note.j2 x b = some r ∧ MI r.2 := by
   intro b; unfold monitor_Monitor_Note.j2; split
   ·exact ⟨_, rfl, { hx with state := by dsimp only; omega }⟩
   ·exact ⟨_, rfl, hx⟩
  have fin1 : ∀ t b, ∃ r, monitor_Monitor_Note.j1 x t b = some r ∧ MI r.2 := by
   intro t b; unfold monitor_Monitor_Note.j1 tally_Window_Clear.f
   split
   ·rw [bsome]; exact ⟨_, rfl, { hx with state := by dsimp only; omega, w := clear_wi hx.w }⟩
   split
   ·exact ⟨_, rfl, { hx with state := by dsimp only; omega }⟩
   split
   ·exact fin2 _
   ·exact fin2 _
  unfold monitor_Monitor_Note.j0 tally_Window_Sum.f
  rw [bsome, parts_ok hx.w, bsome]
  split
  ·exact fin1 _ _
  ·exact fin1 _ _
 unfold monitor_Monitor_Note.f
 rw [hw, bsome, w64_in ⟨by omega, by omega⟩]
 split
 ·exact key _ { h with w := hi, row := (by show 0 ≤ imin (m.row + 1) 16 ∧ imin (m.row + 1) 16 ≤ 16; unfold imin; constructor <;> split <;> omega), quiet := by dsimp only; omega }
 ·exact key _ { h with w := hi, row := by dsimp only; omega, quiet := by dsimp only; omega }
theorem mpass_ok {m : monitor_Monitor} (h : MI m) : ∃ r, monitor_Monitor_Pass.f m 1 = some r ∧ MI r.2 := by
 have hq := h.quiet
 unfold monitor_Monitor_Pass.f monitor_cut.f
 rw [bsome, show imax 0 (imin 1 1073741824) = 1 by decide, w64_in ⟨by omega, by omega⟩]
 have e : 0 ≤ imin (m.silence + 1) 1073741824 ∧ imin (m.silence + 1) 1073741824 ≤ 1073741824 := by unfold imin; constructor <;> split <;> omega
 split
 ·exact ⟨_, rfl, { h with row := by dsimp only; omega, quiet := e, state := by dsimp only; omega }⟩
 ·exact ⟨_, rfl, { h with quiet := e }⟩
structure TI (t : twins_Table) : Prop where
 len : 1 ≤ t.came.length ∧ t.came.length ≤ 4096
 at_ : 0 ≤ t.at_ ∧ t.at_ < (t.came.length : Int)
theorem u32w (x : Int) : IntKind.u32.wrap x = x % 4294967296 := by
 simp [IntKind.wrap, IntKind.bits, IntKind.signed]
theorem tnew_ok (n : Int) : ∃ r, twins_New.f n = some r ∧ TI r := by
 have e : 1 ≤ imax 1 (imin n 4096) ∧ imax 1 (imin n 4096) ≤ 4096 := by unfold imax imin; constructor <;> (repeat' split) <;> omega
 unfold twins_New.f
 rw [if_pos ⟨by omega, by omega⟩]
 refine ⟨_, rfl, ⟨?_, ?_⟩⟩ <;> dsimp only <;> rw [List.length_replicate] <;> omega
theorem first_ok {t : twins_Table} (h : TI t) {b : Int} (hb : 0 ≤ b ∧ b < t.came.length) : ∃ r, twins_Table_first.f t b = some r ∧ TI r.2 := by
 have hl := h.len
 have ha := h.at_
 unfold twins_Table_first.f
 rw [if_pos (by omega), w64_in (n := t.at_ + t.came.length) ⟨by omega, by omega⟩, w64_in ⟨by omega, by omega⟩, Int.tmod_eq_emod_of_nonneg (by omega), if_pos ⟨Int.emod_nonneg _ (by omega), Int.emod_lt_of_pos _ (by omega)⟩]
 exact ⟨_, rfl, by show 1 ≤ (t.came.set _ true).length ∧ (t.came.set _ true).length ≤ _; rw [List.length_set]; exact hl, by show 0 ≤ t.at_ ∧ t.at_ < ((t.came.set _ true).length : Int); rw [List.length_set]; exact ha⟩
theorem raise_ok {t : twins_Table} (h : TI t) : ∃ r, twins_Table_raise.f t = some r ∧ TI r ∧ r.came.length = t.came.length := by
 have hl := h.len
 have ha := h.at_
 have e1 := Int.emod_nonneg (t.at_ + 1) (show (t.came.length : Int) ≠ 0 by omega)
 have e2 := Int.emod_lt_of_pos (t.at_ + 1) (show (0 : Int) < (t.came.length : Int) by omega)
 unfold twins_Table_raise.f
 rw [if_pos (by omega), w64_in ⟨by omega, by omega⟩, Int.tmod_eq_emod_of_nonneg (by omega), if_pos ⟨e1, e2⟩]
 refine ⟨_, rfl, ⟨?_, ?_⟩, ?_⟩ <;> dsimp only <;> rw [List.length_set]
 ·exact hl
 ·exact ⟨e1, e2⟩
theorem fresh_l0 (t : twins_Table) (n : Int) (hl : t.came.length ≤ 4096) : ∀ (d : Nat) (i : Int) (x : twins_Table), TI x → x.came.length = t.came.length → 0 ≤ i → imin (IntKind.u32.wrap (n - t.highest)) (IntKind.u32.wrap (t.came.length : Int)) ≤ i + d → i + d ≤ 5000 →
  ∃ r, (∀ k, d + 1 ≤ k → twins_Table_Fresh.l0 k t n i x = some r) ∧ TI r.2
 | 0, i, x, h, e, h0, h1, h2 => by
  obtain ⟨r, hr, hi⟩ := first_ok (t := { x with highest := n }) ⟨h.len, h.at_⟩ (b := 0) ⟨by omega, by have := h.len; show (0 : Int) < x.came.length; omega⟩
  refine ⟨r, fun k hk => ?_, hi⟩
  obtain ⟨k, rfl⟩ : ∃ j, k = j + 1 := ⟨k - 1, by omega⟩
  rw [twins_Table_Fresh.l0, if_neg (by omega), hr, bsome]
 | d + 1, i, x, h, e, h0, h1, h2 => by
  by_cases c : i < imin (IntKind.u32.wrap (n - t.highest)) (IntKind.u32.wrap (t.came.length : Int))
  ·obtain ⟨y, hy, hi, hle⟩ := raise_ok h
   obtain ⟨r, hr, hri⟩ := fresh_l0 t n hl d (i + 1) y hi (hle.trans e) (by omega) (by omega) (by omega)
   refine ⟨r, fun k hk => ?_, hri⟩
   obtain ⟨k, rfl⟩ : ∃ j, k = j + 1 := ⟨k - 1, by omega⟩
   have ew : IntKind.u32.wrap (i + 1) = i + 1 := by rw [u32w]; omega
   rw [twins_Table_Fresh.l0, if_pos c, hy, bsome, ew]
   exact hr k (by omega)
  ·obtain ⟨r, hr, hi⟩ := first_ok (t := { x with highest := n }) ⟨h.len, h.at_⟩ (b := 0) ⟨by omega, by have := h.len; show (0 : Int) < x.came.length; omega⟩
   refine ⟨r, fun k hk => ?_, hi⟩
   obtain ⟨k, rfl⟩ : ∃ j, k = j + 1 := ⟨k - 1, by omega⟩
   rw [twins_Table_Fresh.l0, if_neg c, hr, bsome]
theorem fresh_ok {t : twins_Table} (h : TI t) (n : Int) : ∃ r, (∀ k, 5000 ≤ k → twins_Table_Fresh.f k t n = some r) ∧ TI r.2 := by
 have hl := h.len
 have el : IntKind.u32.wrap (t.came.length : Int) = t.came.length := by rw [u32w]; omega
 by_cases c : t.known = true
 ·by_cases c1 : IntKind.u32.wrap (t.highest - n) = 0
  ·exact ⟨(false, t), fun k _ => by unfold twins_Table_Fresh.f; rw [if_pos c, if_pos c1], h⟩
  by_cases c2 : IntKind.u32.wrap (n - t.highest) < 2147483648
  ·have hm : imin (IntKind.u32.wrap (n - t.highest)) (IntKind.u32.wrap (t.came.length : Int)) ≤ 0 + (4096 : Nat) := by rw [el]; unfold imin; split <;> omega
   obtain ⟨r, hr, hi⟩ := fresh_l0 t n hl.2 4096 0 t h rfl (by omega) hm (by omega)
   exact ⟨r, fun k hk => by unfold twins_Table_Fresh.f; rw [if_pos c, if_neg c1, if_pos c2]; exact hr k (by omega), hi⟩
  by_cases c3 : IntKind.u32.wrap (t.highest - n) < IntKind.u32.wrap (t.came.length : Int)
  ·have e0 : 0 ≤ IntKind.u32.wrap (t.highest - n) := by rw [u32w]; omega
   obtain ⟨r, hr, hi⟩ := first_ok h (b := IntKind.u32.wrap (t.highest - n)) ⟨e0, by omega⟩
   exact ⟨r, fun k hk => by unfold twins_Table_Fresh.f; rw [if_pos c, if_neg c1, if_neg c2, if_pos c3, w64_in ⟨by omega, by omega⟩, hr, bsome], hi⟩
  ·exact ⟨(false, t), fun k _ => by unfold twins_Table_Fresh.f; rw [if_pos c, if_neg c1, if_neg c2, if_neg c3], h⟩
 ·obtain ⟨r, hr, hi⟩ := first_ok (t := { t with known := true, highest := n }) ⟨h.len, h.at_⟩ (b := 0) ⟨by omega, by show (0 : Int) < t.came.length; omega⟩
  exact ⟨r, fun k hk => by unfold twins_Table_Fresh.f; rw [if_neg c, hr, bsome], hi⟩
structure GI (r : ring_Ring) : Prop where
 room : 0 ≤ r.room ∧ r.room ≤ 1048576
 len : (r.b.length : Int) ≤ r.room
 by_ : By r.b
 begun : 0 ≤ r.begun
 pos : ∀ p ∈ r.pieces, 1 ≤ p
 sum : r.begun + r.pieces.sum = r.b.length
 drop : 0 ≤ r.dropped ∧ r.dropped ≤ 4294967295
theorem len_sum : ∀ {l : List Int}, (∀ p ∈ l, 1 ≤ p) → (l.length : Int) ≤ l.sum
 | [], _ => Int.le_refl _
 | p :: l, h => by
  have := len_sum (l := l) fun q hq => h q (List.mem_cons_of_mem _ hq)
  have := h p (List.mem_cons_self ..)
  rw [List.sum_cons, List.length_cons]; omega
theorem gnew_ok (n : Int) : ∃ r, ring_New.f n = some r ∧ GI r ∧ r.b = [] := by
 have e : 0 ≤ imax 0 (imin n 1048576) ∧ imax 0 (imin n 1048576) ≤ 1048576 := by unfold imax imin; constructor <;> (repeat' split) <;> omega
 unfold ring_New.f
 exact ⟨_, rfl, ⟨e, e.1, fun _ h => (nomatch h), Int.le_refl _, fun _ h => (nomatch h), rfl, by dsimp only; omega⟩, rfl⟩
theorem add_ok {r : ring_Ring} (h : GI r) {b : List Int} (hb : By b) (h0 : 1 ≤ b.length) (hl : b.length ≤ 100000) : ∃ t, ring_Ring_Add.f r b = some t ∧ GI t.2 ∧ r.b.length + (if t.1 = true then 1 else 0) ≤ t.2.b.length := by
 have hr := h.room
 have h1 := h.len
 have hs := h.sum
 have hg := h.begun
 have hp := len_sum h.pos
 have hd := h.drop
 unfold ring_Ring_Add.f
 rw [w64_in ⟨by omega, by omega⟩]
 by_cases c : (b.length : Int) > r.room - r.b.length
 ·rw [if_pos c, w64_in ⟨by omega, by omega⟩]
  exact ⟨_, rfl, { h with drop := by show 0 ≤ imin (r.dropped + 1) 4294967295 ∧ imin (r.dropped + 1) 4294967295 ≤ 4294967295; unfold imin; constructor <;> split <;> omega }, Nat.le_refl _⟩
 ·rw [if_neg c, if_pos (by omega), if_pos (by simp only [List.length_cons, List.length_nil]; omega)]
  refine ⟨_, rfl, { h with len := ?_, by_ := Fr.By.app h.by_ hb, pos := ?_, sum := ?_ }, by show r.b.length + 1 ≤ (r.b ++ b).length; rw [List.length_append]; omega⟩
  ·show ((r.b ++ b).length : Int) ≤ r.room; rw [List.length_append]; omega
  ·intro p hp
   rcases List.mem_append.1 hp with q | q
   ·exact h.pos p q
   ·have := List.mem_singleton.1 q; omega
  ·show r.begun + (r.pieces ++ [(b.length : Int)]).sum = ((r.b ++ b).length : Int)
   rw [List.sum_append, List.length_append]; simp; omega
theorem passed_l0 (room : Int) (b : List Int) (dr : Int) (hb : b.length ≤ 1048576) : ∀ (d : Nat) (x g : Int) (l : List Int), 0 ≤ x → x ≤ d → x ≤ 1048576 → 0 ≤ g → (∀ p ∈ l, 1 ≤ p) → g + l.sum = b.length + x →
  ∃ (g' : Int) (l' : List Int), (∀ k, d + 1 ≤ k → ring_Ring_passed.l0 k x { room := room, b := b, begun := g, pieces := l, dropped := dr } = some { room := room, b := b, begun := g', pieces := l', dropped := dr }) ∧ 0 ≤ g' ∧ (∀ p ∈ l', 1 ≤ p) ∧ g' + l'.sum = b.length
 | d, x, g, l, h0, h1, h2, h3, h4, h5 => by
  by_cases c : x > 0
  ·obtain ⟨d, rfl⟩ : ∃ j, d = j + 1 := ⟨d - 1, by omega⟩
   have hl := len_sum h4
   by_cases c2 : g = 0
   ·subst c2
    cases l with
    | nil => simp at h5; omega
    | cons p l =>
     have hp := h4 p (List.mem_cons_self ..)
     have h4' : ∀ q ∈ l, 1 ≤ q := fun q hq => h4 q (List.mem_cons_of_mem _ hq)
     have hl' := len_sum h4'
     rw [List.sum_cons] at h5
     have e : 1 ≤ imin x p ∧ imin x p ≤ x ∧ imin x p ≤ p ∧ (imin x p = x ∨ imin x p = p) := by unfold imin; split <;> omega
     obtain ⟨g', l', hr, q1, q2, q3⟩ := passed_l0 room b dr hb d (x - imin x p) (p - imin x p) l (by omega) (by omega) (by omega) (by omega) h4' (by omega)
     refine ⟨g', l', fun k hk => ?_, q1, q2, q3⟩
     obtain ⟨k, rfl⟩ : ∃ j, k = j + 1 := ⟨k - 1, by omega⟩
     have ep : (p :: l).getD (0 : Int).toNat 0 = p := rfl
     have ec : cut (p :: l) 1 ((p :: l).length : Int) = l := by simp [cut]
     rw [ring_Ring_passed.l0, if_pos c, if_pos rfl]
     dsimp only
     rw [if_pos ⟨by omega, by rw [List.length_cons]; omega⟩, if_pos ⟨by omega, by rw [List.length_cons]; omega, by omega⟩, ep, ec, w64_in ⟨by omega, by omega⟩, w64_in ⟨by omega, by omega⟩]
     exact hr k (by omega)
   ·have e : 1 ≤ imin x g ∧ imin x g ≤ x ∧ imin x g ≤ g := by unfold imin; split <;> omega
    obtain ⟨g', l', hr, q1, q2, q3⟩ := passed_l0 room b dr hb d (x - imin x g) (g - imin x g) l (by omega) (by omega) (by omega) (by omega) h4 (by omega)
    refine ⟨g', l', fun k hk => ?_, q1, q2, q3⟩
    obtain ⟨k, rfl⟩ : ∃ j, k = j + 1 := ⟨k - 1, by omega⟩
    rw [ring_Ring_passed.l0, if_pos c, if_neg c2]
    dsimp only
    rw [w64_in ⟨by omega, by omega⟩, w64_in ⟨by omega, by omega⟩]
    exact hr k (by omega)
  ·refine ⟨g, l, fun k hk => ?_, h3, h4, by omega⟩
   obtain ⟨k, rfl⟩ : ∃ j, k = j + 1 := ⟨k - 1, by omega⟩
   rw [ring_Ring_passed.l0, if_neg c]
theorem del_ok (b : List Int) {m : Nat} (e : (m : Int) ≤ b.length) : slices_Delete_Sbytebyte.f b 0 (m : Int) = some (b.drop m) := by
 unfold slices_Delete_Sbytebyte.f
 rw [if_pos ⟨by omega, by omega, e⟩]
 by_cases z : (0 : Int) = m
 ·have : m = 0 := by omega
  subst this; rw [if_pos (by omega)]; rfl
 ·rw [if_neg z, if_pos ⟨by omega, by omega, by omega⟩, if_pos ⟨by omega, e, by omega⟩]
  show some (cut b 0 0 ++ cut b m b.length) = _
  have z1 : cut b 0 0 = [] := by simp [cut]
  have z2 : cut b m b.length = b.drop m := by rw [Aq.cut_drop _ (by omega)]; simp
  rw [z1, z2]; rfl
theorem take_ok {r : ring_Ring} (h : GI r) (n : Int) : ∃ t : List Int × ring_Ring, (∀ k, 1100000 ≤ k → ring_Ring_Take.f k r n = some t) ∧ GI t.2 ∧ t.1 = r.b.take (imax 0 (imin n r.b.length)).toNat ∧ t.2.b = r.b.drop (imax 0 (imin n r.b.length)).toNat := by
 have hr := h.room
 have h1 := h.len
 have e : 0 ≤ imax 0 (imin n (r.b.length : Int)) ∧ imax 0 (imin n (r.b.length : Int)) ≤ r.b.length := by unfold imax imin; constructor <;> (repeat' split) <;> omega
 obtain ⟨m, hm⟩ : ∃ m : Nat, imax 0 (imin n (r.b.length : Int)) = m := ⟨_, (Int.toNat_of_nonneg e.1).symm⟩
 rw [hm] at e ⊢
 have hs := h.sum
 obtain ⟨g', l', hp, q1, q2, q3⟩ := passed_l0 r.room (r.b.drop m) r.dropped (by rw [List.length_drop]; omega) 1048577 m r.begun r.pieces (by omega) (by omega) (by omega) h.begun h.pos (by rw [List.length_drop]; omega)
 refine ⟨(r.b.take m, { room := r.room, b := r.b.drop m, begun := g', pieces := l', dropped := r.dropped }), fun k hk => ?_, ⟨hr, by dsimp only; rw [List.length_drop]; omega, fun z hz => h.by_ z (List.mem_of_mem_drop hz), q1, q2, q3, h.drop⟩, by simp, by simp⟩
 unfold ring_Ring_Take.f
 rw [hm, if_pos ⟨by omega, e.1, e.2⟩, Fr.cut0, Bl.clone_eq (by rw [List.length_take]; omega), bsome]
 have hd : slices_Delete_Sbytebyte.f r.b 0 (m : Int) = some (r.b.drop m) := del_ok r.b e.2
 rw [hd, bsome]
 unfold ring_Ring_passed.f
 rw [hp k (by omega), bsome]
end Mo
namespace St
open Fr (By)
open Aq (AI big)
open Bo (BO)
structure DI (d : station_side) : Prop where
 reader : Fr.RI d.reader
 short : d.reader.most ≤ 1100
 mon : Mo.MI d.monitor
 ring : Mo.GI d.ring
structure SI (s : station_Station) (C : Nat) (S : Int) : Prop where
 keep : 1 ≤ s.c.Keep ∧ s.c.Keep ≤ 65536
 arq : AI s.arq C
 bo : BO s.arq S
 tw : Mo.TI s.twins
 num : 0 ≤ s.number ∧ s.number < 4294967296
 steps : 0 ≤ s.steps ∧ s.steps ≤ C
 one : DI s.sides.1
 two : DI s.sides.2
theorem SI.more {s : station_Station} {C D : Nat} {S : Int} (h : SI s C S) (l : C ≤ D) : SI s D S := { h with arq := h.arq.more l, steps := by have := h.steps; omega }
structure Pt (s r : station_Station) : Prop where
 c : r.c = s.c
 arq : r.arq = s.arq
 aps : r.aps = s.aps
 tw : r.twins = s.twins
 line : r.line = s.line
 r1 : r.sides.1.reader = s.sides.1.reader
 m1 : r.sides.1.monitor = s.sides.1.monitor
 c1 : r.sides.1.counts = s.sides.1.counts
 r2 : r.sides.2.reader = s.sides.2.reader
 m2 : r.sides.2.monitor = s.sides.2.monitor
 c2 : r.sides.2.counts = s.sides.2.counts
theorem Pt.rfl (s : station_Station) : Pt s s := ⟨Eq.refl _, Eq.refl _, Eq.refl _, Eq.refl _, Eq.refl _, Eq.refl _, Eq.refl _, Eq.refl _, Eq.refl _, Eq.refl _, Eq.refl _⟩
theorem Pt.trans {s r t : station_Station} (h : Pt s r) (g : Pt r t) : Pt s t :=
 ⟨g.c.trans h.c, g.arq.trans h.arq, g.aps.trans h.aps, g.tw.trans h.tw, g.line.trans h.line, g.r1.trans h.r1, g.m1.trans h.m1, g.c1.trans h.c1, g.r2.trans h.r2, g.m2.trans h.m2, g.c2.trans h.c2⟩
abbrev Told := List (List Int) × List (List Int)
structure TD (t : Told) (s : station_Station) : Prop where
 n1 : t.1.length ≤ s.sides.1.ring.b.length
 n2 : t.2.length ≤ s.sides.2.ring.b.length
 b1 : ∀ b ∈ t.1, By b ∧ b.length ≤ 1100
 b2 : ∀ b ∈ t.2, By b ∧ b.length ≤ 1100
theorem piece_ok {s : station_Station} {C : Nat} {S : Int} (h : SI s C S) {b : List Int} (hb : By b ∧ b.length ≤ 1006) : ∃ r : List Int × station_Station, (∀ k, 20 ≤ k → station_Station_piece.f k s b = some r) ∧ SI r.2 C S ∧ Pt s r.2 ∧ By r.1 ∧ r.1.length ≤ 1011 ∧ r.2.sides = s.sides := by
 have hn := h.num
 have two : ∀ x y : List Int, x.length ≤ 1000000 → y.length ≤ 1000000 → ∀ k, 20 ≤ k → slices_Concat_Sbytebyte.f k [x, y] = some (x ++ y) := fun x y hx hy k hk => Fr.concat2 (by omega) (by omega) (by omega)
 refine ⟨([0, IntKind.u8.wrap (s.number.fdiv (2 ^ (min (24 : Int).toNat IntKind.u32.bits))), IntKind.u8.wrap (s.number.fdiv (2 ^ (min (16 : Int).toNat IntKind.u32.bits))), IntKind.u8.wrap (s.number.fdiv (2 ^ (min (8 : Int).toNat IntKind.u32.bits))), IntKind.u8.wrap s.number] ++ b, { s with number := IntKind.u32.wrap (s.number + 1) }), fun k hk => ?_, { h with num := ?_ }, (by constructor <;> exact Eq.refl _), ?_, ?_, Eq.refl _⟩
 ·unfold station_Station_piece.f
  rw [two _ _ (by simp) (by omega) k hk, bsome]
 ·show 0 ≤ IntKind.u32.wrap (s.number + 1) ∧ IntKind.u32.wrap (s.number + 1) < 4294967296
  rw [Mo.u32w]; omega
 ·refine Fr.By.app (fun z hz => ?_) hb.1
  simp only [List.mem_cons, List.not_mem_nil, or_false] at hz
  rcases hz with e | e | e | e | e <;> subst e
  ·omega
  all_goals exact Fr.u8b _
 ·show (_ ++ b).length ≤ 1011
  rw [List.length_append]
  show 5 + b.length ≤ 1011
  omega
theorem put_ok {s : station_Station} {C : Nat} {S : Int} (h : SI s C S) {t : Told} (ht : TD t s) {i : Int} (hi : i = 0 ∨ i = 1) {p : List Int} (hp : By p ∧ p.length ≤ 1100) :
  ∃ r : station_Station × Told, (∀ k, 1200 ≤ k → station_Station_put.f k s t i p = some r) ∧ SI r.1 C S ∧ Pt s r.1 ∧ TD r.2 r.1 := by
 obtain ⟨f, hf, f1, f2, f3⟩ := Fr.put_ok p s.c.Wide (by omega) hp.1
 have n1 := ht.n1
 have n2 := ht.n2
 have g1 := h.one.ring.room
 have g2 := h.two.ring.room
 have g3 := h.one.ring.len
 have g4 := h.two.ring.len
 have clone : slices_Clone_Sbytebyte.f p = some p := Bl.clone_eq (by omega)
 have tell0 : ∀ (x : station_Station) (b : Bool), ∃ u : Told, station_Station_put.j0 t 0 p x b = some (x, u) ∧ u.2 = t.2 ∧ (∀ b ∈ u.1, By b ∧ b.length ≤ 1100) ∧ u.1.length = t.1.length + (if b = true then 1 else 0) := by
  intro x b
  unfold station_Station_put.j0
  by_cases c : b = true
  ·rw [if_pos c, if_pos (by omega), clone, if_pos (Eq.refl _), bsome, if_pos (by simp only [List.length_cons, List.length_nil]; omega), if_pos c]
   exact ⟨_, Eq.refl _, Eq.refl _, fun b hb => (List.mem_append.1 hb).elim (ht.b1 b) fun q => List.mem_singleton.1 q ▸ hp, by dsimp only; rw [List.length_append]; rfl⟩
  ·rw [if_neg c, if_neg c]; exact ⟨_, Eq.refl _, Eq.refl _, ht.b1, Eq.refl _⟩
 have tell1 : ∀ (x : station_Station) (b : Bool), ∃ u : Told, station_Station_put.j0 t 1 p x b = some (x, u) ∧ u.1 = t.1 ∧ (∀ b ∈ u.2, By b ∧ b.length ≤ 1100) ∧ u.2.length = t.2.length + (if b = true then 1 else 0) := by
  intro x b
  unfold station_Station_put.j0
  by_cases c : b = true
  ·rw [if_pos c, if_pos (by omega), clone, if_neg (by decide), bsome, if_pos (by simp only [List.length_cons, List.length_nil]; omega), if_pos c]
   exact ⟨_, Eq.refl _, Eq.refl _, fun b hb => (List.mem_append.1 hb).elim (ht.b2 b) fun q => List.mem_singleton.1 q ▸ hp, by dsimp only; rw [List.length_append]; rfl⟩
  ·rw [if_neg c, if_neg c]; exact ⟨_, Eq.refl _, Eq.refl _, ht.b2, Eq.refl _⟩
 rcases hi with e | e
 ·subst e
  obtain ⟨a, ha, hg, hl⟩ := Mo.add_ok h.one.ring f2 (by omega) (by omega)
  obtain ⟨u, hu, e1, e2, e3⟩ := tell0 { s with sides := ({ s.sides.1 with ring := a.2 }, s.sides.2) } a.1
  refine ⟨({ s with sides := ({ s.sides.1 with ring := a.2 }, s.sides.2) }, u), fun k hk => ?_, { h with one := { h.one with ring := hg } }, (by constructor <;> exact Eq.refl _), ⟨by dsimp only; omega, by dsimp only; rw [e1]; exact n2, e2, by dsimp only; rw [e1]; exact ht.b2⟩⟩
  unfold station_Station_put.f
  rw [if_pos (by omega), if_pos (Eq.refl _), hf k (by omega), bsome, ha, bsome]
  exact hu
 ·subst e
  obtain ⟨a, ha, hg, hl⟩ := Mo.add_ok h.two.ring f2 (by omega) (by omega)
  obtain ⟨u, hu, e1, e2, e3⟩ := tell1 { s with sides := (s.sides.1, { s.sides.2 with ring := a.2 }) } a.1
  refine ⟨({ s with sides := (s.sides.1, { s.sides.2 with ring := a.2 }) }, u), fun k hk => ?_, { h with two := { h.two with ring := hg } }, (by constructor <;> exact Eq.refl _), ⟨by dsimp only; rw [e1]; exact n1, by dsimp only; omega, by dsimp only; rw [e1]; exact ht.b1, e2⟩⟩
  unfold station_Station_put.f
  rw [if_pos (by omega), if_neg (by omega), hf k (by omega), bsome, ha, bsome]
  exact hu
theorem kput_ok (q l : Int) : ∃ r, kcode_Put.f q l = some r ∧ By r ∧ r.length = 2 := by
 unfold kcode_Put.f request_Of.f request_Of.j0 kcode_Put.j0
 have fin : ∀ x : Int, 0 ≤ x ∧ x < 256 → ∃ r : List Int, some ([x, icom .u8 x] : List Int) = some r ∧ By r ∧ r.length = 2 := by
  intro x hx
  refine ⟨_, Eq.refl _, fun z hz => ?_, Eq.refl _⟩
  simp only [List.mem_cons, List.not_mem_nil, or_false] at hz
  rcases hz with e | e <;> subst e
  ·exact hx
  ·unfold icom; exact Fr.u8b _
 have key : ∀ y : Int, ∃ r, (if l = 1 then some ([IntKind.u8.wrap ((IntKind.u8.wrap (w64 (y * 16))) + 1), icom .u8 (IntKind.u8.wrap ((IntKind.u8.wrap (w64 (y * 16))) + 1))] : List Int) else some [IntKind.u8.wrap (w64 (y * 16)), icom .u8 (IntKind.u8.wrap (w64 (y * 16)))]) = some r ∧ By r ∧ r.length = 2 := by
  intro y; split <;> exact fin _ (Fr.u8b _)
 split
 ·rw [if_pos (Eq.refl _), bsome]; exact key _
 ·split
  ·rw [bsome]; exact key _
  ·rw [bsome]; exact key _
theorem twice_eq (s : station_Station) : station_Station_twice.f s = some (decide (s.c.Mode = 0)) := Eq.refl _
theorem step_l1 (t21 : Int × aps_Aps) (t38 : List (List Int) × arq_Arq) (hl : t38.1.length ≤ 2000000000000) (hB : ∀ b ∈ t38.1, By b ∧ b.length ≤ 1006) {C : Nat} {S : Int} (hC : C ≤ 2000000000000) : ∀ (d i : Nat) (s : station_Station) (t : Told), i + d = t38.1.length → SI s C S → TD t s →
  ∃ r : Told × station_Station, (∀ k, d + 1300 ≤ k → station_Station_Step.l1 k t21 t38 (i : Int) s t = some r) ∧ SI r.2 (C + 1) S ∧ Pt s r.2 ∧ TD r.1 r.2
 | 0, i, s, t, hi, h, ht => by
  have hk := h.keep
  have hs := h.steps
  have e64 : w64 (s.steps + 1) = s.steps + 1 := w64_in ⟨by omega, by omega⟩
  have h' : SI { s with steps := s.steps + 1 } (C + 1) S := { h.more (D := C + 1) (by omega) with steps := by show 0 ≤ s.steps + 1 ∧ s.steps + 1 ≤ ((C + 1 : Nat) : Int); omega }
  have P' : Pt s { s with steps := s.steps + 1 } := by constructor <;> exact Eq.refl _
  obtain ⟨q, hq, hqb, hql⟩ := kput_ok s.aps.own t21.1
  have hpb : By (([1] : List Int) ++ q) ∧ (([1] : List Int) ++ q).length ≤ 1100 := ⟨Fr.By.app (fun z hz => by simp at hz; omega) hqb, by rw [List.length_append]; show 1 + q.length ≤ 1100; omega⟩
  have head : ∀ k, station_Station_Step.l1 (k + 1) t21 t38 (i : Int) s t = if (s.steps + 1).tmod s.c.Keep = 0 then (station_Station_put.f k { s with steps := s.steps + 1 } t 0 (([1] : List Int) ++ q)).bind fun t126 => (station_Station_put.f k t126.1 t126.2 1 (([1] : List Int) ++ q)).bind fun t129 => some (t129.2, t129.1) else some (t, { s with steps := s.steps + 1 }) := by
   intro k
   rw [station_Station_Step.l1, if_neg (by omega), if_pos (by omega), e64]
   unfold aps_Aps_Request.f
   by_cases c : (s.steps + 1).tmod s.c.Keep = 0
   ·rw [if_pos c, if_pos c, bsome, hq, bsome, if_pos (by rw [hql]; simp)]
   ·rw [if_neg c, if_neg c]
  by_cases c : (s.steps + 1).tmod s.c.Keep = 0
  ·obtain ⟨u, hu, u1, u2, u3⟩ := put_ok h' ⟨ht.n1, ht.n2, ht.b1, ht.b2⟩ (.inl (Eq.refl 0)) hpb
   obtain ⟨v, hv, v1, v2, v3⟩ := put_ok u1 u3 (.inr (Eq.refl 1)) hpb
   refine ⟨(v.2, v.1), fun k hk => ?_, v1, (P'.trans u2).trans v2, v3⟩
   obtain ⟨k, rfl⟩ : ∃ j, k = j + 1 := ⟨k - 1, by omega⟩
   rw [head, if_pos c, hu k (by omega), bsome, hv k (by omega), bsome]
  ·refine ⟨(t, _), fun k hk => ?_, h', P', ⟨ht.n1, ht.n2, ht.b1, ht.b2⟩⟩
   obtain ⟨k, rfl⟩ : ∃ j, k = j + 1 := ⟨k - 1, by omega⟩
   rw [head, if_neg c]
 | d + 1, i, s, t, hi, h, ht => by
  have hlt : i < t38.1.length := by omega
  have eg : t38.1.getD ((i : Int)).toNat [] = t38.1[i] := by simp [List.getD, hlt]
  obtain ⟨p, hp, p1, p2, p3, p4, p5⟩ := piece_ok h (hB _ (List.getElem_mem hlt))
  have ew : w64 ((i : Int) + 1) = ((i + 1 : Nat) : Int) := w64_in ⟨by omega, by omega⟩
  have hpb : By p.1 ∧ p.1.length ≤ 1100 := ⟨p3, by omega⟩
  have ht' : TD t p.2 := ⟨by rw [p5]; exact ht.n1, by rw [p5]; exact ht.n2, ht.b1, ht.b2⟩
  have rest : ∀ (x : station_Station) (u : Told), SI x C S → Pt s x → TD u x → ∃ r : Told × station_Station, (∀ k, d + 1300 ≤ k → station_Station_Step.l1 k t21 t38 (w64 ((i : Int) + 1)) x u = some r) ∧ SI r.2 (C + 1) S ∧ Pt s r.2 ∧ TD r.1 r.2 := by
   intro x u hx hP hu
   obtain ⟨r, hr, r1, r2, r3⟩ := step_l1 t21 t38 hl hB hC d (i + 1) x u (by omega) hx hu
   exact ⟨r, fun k hk => by rw [ew]; exact hr k hk, r1, hP.trans r2, r3⟩
  have j3 : ∀ (x : station_Station × Told) (b : Bool), SI x.1 C S → Pt s x.1 → TD x.2 x.1 → ∃ r : Told × station_Station, (∀ k, d + 1300 ≤ k → station_Station_Step.j3 k (i : Int) p x (station_Station_Step.l1 k t21 t38) b = some r) ∧ SI r.2 (C + 1) S ∧ Pt s r.2 ∧ TD r.1 r.2 := by
   intro x b hx hP hu
   by_cases c : b = true
   ·obtain ⟨u, hu', u1, u2, u3⟩ := put_ok hx hu (.inr (Eq.refl 1)) hpb
    obtain ⟨r, hr, hr'⟩ := rest u.1 u.2 u1 (hP.trans u2) u3
    refine ⟨r, fun k hk => ?_, hr'⟩
    unfold station_Station_Step.j3
    rw [if_pos c, hu' k (by omega), bsome]; exact hr k hk
   ·obtain ⟨r, hr, hr'⟩ := rest x.1 x.2 hx hP hu
    refine ⟨r, fun k hk => ?_, hr'⟩
    unfold station_Station_Step.j3
    rw [if_neg c]; exact hr k hk
  have j4 : ∀ b : Bool, ∃ r : Told × station_Station, (∀ k, d + 1300 ≤ k → station_Station_Step.j4 k (i : Int) t p (station_Station_Step.l1 k t21 t38) b = some r) ∧ SI r.2 (C + 1) S ∧ Pt s r.2 ∧ TD r.1 r.2 := by
   intro b
   by_cases c : b = true
   ·obtain ⟨u, hu', u1, u2, u3⟩ := put_ok p1 ht' (.inr (Eq.refl 1)) hpb
    obtain ⟨r, hr, hr'⟩ := rest u.1 u.2 u1 (p2.trans u2) u3
    refine ⟨r, fun k hk => ?_, hr'⟩
    unfold station_Station_Step.j4
    rw [if_pos c, hu' k (by omega), bsome]; exact hr k hk
   ·obtain ⟨r, hr, hr'⟩ := rest p.2 t p1 p2 ht'
    refine ⟨r, fun k hk => ?_, hr'⟩
    unfold station_Station_Step.j4
    rw [if_neg c]; exact hr k hk
  have j2 : ∀ b : Bool, ∃ r : Told × station_Station, (∀ k, d + 1300 ≤ k → station_Station_Step.j2 k t21 (i : Int) t p (station_Station_Step.l1 k t21 t38) b = some r) ∧ SI r.2 (C + 1) S ∧ Pt s r.2 ∧ TD r.1 r.2 := by
   intro b
   by_cases c : b = true
   ·obtain ⟨u, hu', u1, u2, u3⟩ := put_ok p1 ht' (.inl (Eq.refl 0)) hpb
    obtain ⟨r, hr, hr'⟩ := j3 u (if decide (u.1.c.Mode = 0) = true then true else decide (1 = t21.1)) u1 (p2.trans u2) u3
    refine ⟨r, fun k hk => ?_, hr'⟩
    rw [← hr k hk]
    unfold station_Station_Step.j2
    rw [if_pos c, hu' k (by omega), bsome, twice_eq, bsome]
    split <;> rfl
   ·obtain ⟨r, hr, hr'⟩ := j4 (if decide (p.2.c.Mode = 0) = true then true else decide (1 = t21.1))
    refine ⟨r, fun k hk => ?_, hr'⟩
    rw [← hr k hk]
    unfold station_Station_Step.j2
    rw [if_neg c, twice_eq, bsome]
    split <;> rfl
  obtain ⟨r, hr, hr'⟩ := j2 (if decide (p.2.c.Mode = 0) = true then true else decide (0 = t21.1))
  refine ⟨r, fun k hk => ?_, hr'⟩
  obtain ⟨k, rfl⟩ : ∃ j, k = j + 1 := ⟨k - 1, by omega⟩
  rw [← hr k (by omega)]
  rw [station_Station_Step.l1, if_pos (by omega), if_pos (by omega), eg, hp k (by omega), bsome, twice_eq, bsome]
  split <;> rfl
end St
namespace St
open Fr (By)
open Aq (AI big)
open Bo (BO)
theorem apass_ok (a : aps_Aps) (x y : Int) : ∃ r, aps_Aps_Pass.f a x y = some r := by
 have hof : ∀ q, ∃ r, request_Of.f q = some r := by
  intro q; unfold request_Of.f request_Of.j0
  split
  ·exact ⟨_, if_pos (Eq.refl _)⟩
  ·split <;> exact ⟨_, Eq.refl _⟩
 have j0 : ∀ (z : aps_Aps) (q : Int), ∃ r, aps_Aps_Pass.j0 z q = some r := by
  intro z q
  unfold aps_Aps_Pass.j0 request_Wins.f
  obtain ⟨r1, h1⟩ := hof q
  obtain ⟨r2, h2⟩ := hof z.remote
  rw [h1, bsome, h2, bsome, bsome]
  have hl : ∀ q, ∃ r, request_Line.f q = some r := by
   intro q; unfold request_Line.f request_Line.j0
   repeat' split
   all_goals exact ⟨_, Eq.refl _⟩
  obtain ⟨r3, h3⟩ := hl (imax r1 r2)
  rw [h3, bsome]; exact ⟨_, Eq.refl _⟩
 have hh : ∃ r, aps_Aps_held.f a x = some r := by
  unfold aps_Aps_held.f
  repeat' split
  all_goals exact ⟨_, Eq.refl _⟩
 have hl : ∀ u v w, ∃ r, request_Local.f u v w = some r := by
  intro u v w; unfold request_Local.f
  repeat' split
  all_goals exact ⟨_, Eq.refl _⟩
 have ha : ∀ z : aps_Aps, ∃ r, aps_Aps_after.f z = some r := by
  intro z; unfold aps_Aps_after.f aps_Aps_after.j0
  repeat' split
  all_goals exact ⟨_, Eq.refl _⟩
 unfold aps_Aps_Pass.f
 obtain ⟨r1, h1⟩ := hh
 obtain ⟨r2, h2⟩ := hl a.command r1.1 y
 rw [h1, bsome, h2, bsome]
 split
 ·obtain ⟨r3, h3⟩ := ha r1.2
  rw [h3, bsome]; exact j0 _ _
 ·exact j0 _ _
structure Kp (s r : station_Station) : Prop where
 c : r.c = s.c
 tw : r.twins = s.twins
 r1 : r.sides.1.reader = s.sides.1.reader
 c1 : r.sides.1.counts = s.sides.1.counts
 r2 : r.sides.2.reader = s.sides.2.reader
 c2 : r.sides.2.counts = s.sides.2.counts
def emp (a : arq_Arq) : arq_Arq := { a with out := [] }
theorem j0_ok (t21 : Int × aps_Aps) {x : station_Station} {C : Nat} {S : Int} (h : SI x C S) (hC : C + 20000 ≤ big) : ∃ r : Told × station_Station, (∀ k, C + 1400000 ≤ k → station_Station_Step.j0 k t21 x = some r) ∧ SI r.2 (C + 7001) S ∧ TD r.1 r.2 ∧ Kp x r.2 ∧ r.2.arq = emp (Aq.pass x.arq 1) := by
 have A := Aq.pass_ai h.arq (by omega) 1
 have B := Bo.pass h.arq h.bo 1
 have hb : big = 1000000000000 := Eq.refl _
 have ho := A.out
 obtain ⟨r, hr, r1, r2, r3⟩ := step_l1 t21 ((Aq.pass x.arq 1).out, emp (Aq.pass x.arq 1)) (by dsimp only; omega) B.out (C := C + 7000) (S := S) (by omega) (Aq.pass x.arq 1).out.length 0 { x with arq := emp (Aq.pass x.arq 1), line := t21.1 } ([], []) (by dsimp only; omega)
  { h.more (D := C + 7000) (by omega) with arq := Bo.outp_ai A, bo := Bo.outp B } ⟨Nat.zero_le _, Nat.zero_le _, fun _ q => (nomatch q), fun _ q => (nomatch q)⟩
 refine ⟨r, fun k hk => ?_, r1, r3, ⟨r2.c, r2.tw, r2.r1, r2.c1, r2.r2, r2.c2⟩, r2.arq⟩
 unfold station_Station_Step.j0 arq_Arq_Output.f
 rw [Aq.passes_eq h.arq (by omega) 1 (by omega), bsome, bsome]
 exact hr k (by omega)
theorem step_ok {s : station_Station} {C : Nat} {S : Int} (h : SI s C S) (hC : C + 30000 ≤ big) : ∃ r : Told × station_Station, (∀ k, C + 1500000 ≤ k → station_Station_Step.f k s = some r) ∧ SI r.2 (C + 12000) S ∧ TD r.1 r.2 ∧ Kp s r.2 ∧ (r.2.arq = emp (Aq.pass s.arq 1) ∨ r.2.arq = emp (Aq.pass (Aq.again s.arq) 1)) := by
 obtain ⟨m1, hm1, i1⟩ := Mo.mpass_ok h.one.mon
 obtain ⟨m2, hm2, i2⟩ := Mo.mpass_ok h.two.mon
 obtain ⟨p, hp⟩ := apass_ok s.aps m1.1 m2.1
 have h1 : SI { s with aps := p.2, sides := ({ s.sides.1 with monitor := m1.2 }, { s.sides.2 with monitor := m2.2 }) } C S := { h with one := { h.one with mon := i1 }, two := { h.two with mon := i2 } }
 have hj : ∀ b : Bool, ∃ r : Told × station_Station, (∀ k, C + 1500000 ≤ k → station_Station_Step.j5 k s m1 m2 p b = some r) ∧ SI r.2 (C + 12000) S ∧ TD r.1 r.2 ∧ Kp s r.2 ∧ (r.2.arq = emp (Aq.pass s.arq 1) ∨ r.2.arq = emp (Aq.pass (Aq.again s.arq) 1)) := by
  intro b
  by_cases c : b = true
  ·obtain ⟨r, hr, r1, r2, r3, r4⟩ := j0_ok p (x := { s with arq := Aq.again s.arq, aps := p.2, sides := ({ s.sides.1 with monitor := m1.2 }, { s.sides.2 with monitor := m2.2 }) }) (C := C + 4096) (S := S) { h1.more (D := C + 4096) (by omega) with arq := Aq.again_ai h.arq, bo := Bo.again h.arq h.bo } (by omega)
   refine ⟨r, fun k hk => ?_, r1.more (by omega), r2, ⟨r3.c, r3.tw, r3.r1, r3.c1, r3.r2, r3.c2⟩, .inr r4⟩
   unfold station_Station_Step.j5
   rw [if_pos c]
   refine Eq.trans (congrArg (fun z => Option.bind z _) (Aq.again_eq h.arq (by omega) (by omega) : arq_Arq_Again.f k s.arq = _)) ?_
   rw [bsome]
   exact hr k (by omega)
  ·obtain ⟨r, hr, r1, r2, r3, r4⟩ := j0_ok p h1 (by omega)
   refine ⟨r, fun k hk => ?_, r1.more (by omega), r2, ⟨r3.c, r3.tw, r3.r1, r3.c1, r3.r2, r3.c2⟩, .inl r4⟩
   unfold station_Station_Step.j5
   rw [if_neg c]
   exact hr k (by omega)
 obtain ⟨r, hr, hr'⟩ := hj (if decide (s.c.Mode = 0) = true then false else (!(decide (p.1 = s.line))))
 refine ⟨r, fun k hk => ?_, hr'⟩
 rw [← hr k hk]
 unfold station_Station_Step.f
 rw [hm1, bsome, hm2, bsome, hp, bsome, twice_eq, bsome]
 split <;> rfl
def cs (x : api_Counts) : api_Counts := { x with Twins := 0 }
structure Cm (s r : station_Station) : Prop where
 c : r.c = s.c
 r1 : r.sides.1.reader = s.sides.1.reader
 m1 : r.sides.1.monitor = s.sides.1.monitor
 g1 : r.sides.1.ring = s.sides.1.ring
 c1 : cs r.sides.1.counts = cs s.sides.1.counts
 r2 : r.sides.2.reader = s.sides.2.reader
 m2 : r.sides.2.monitor = s.sides.2.monitor
 g2 : r.sides.2.ring = s.sides.2.ring
 c2 : cs r.sides.2.counts = cs s.sides.2.counts
theorem Cm.rfl (s : station_Station) : Cm s s := by constructor <;> exact Eq.refl _
theorem kread_ok (b : List Int) : ∃ r, kcode_Read.f b = some r := by
 have j0 : ∀ x, ∃ r, kcode_Read.j0 b x = some r := by intro x; unfold kcode_Read.j0; split <;> exact ⟨_, Eq.refl _⟩
 unfold kcode_Read.f
 split
 ·exact ⟨_, Eq.refl _⟩
 ·rw [if_pos (by omega)]
  split
  ·exact j0 _
  ·rw [if_pos (by omega)]
   repeat' split
   all_goals exact j0 _
theorem came_ok {s : station_Station} {C : Nat} {S : Int} (h : SI s C S) (hC : C + 30000 ≤ big) {l : Int} (hl : l = 0 ∨ l = 1) {b : List Int} (hb : By b) (h0 : 1 ≤ b.length) (h9 : b.length ≤ 1101) :
  ∃ r, (∀ k, C + 30000 ≤ k → station_Station_came.f k s l b = some r) ∧ SI r (C + 13000) S ∧ Cm s r ∧ (r.arq = s.arq ∨ r.arq = Aq.input s.arq (b.drop 5)) := by
 have h' := h.more (D := C + 13000) (by omega)
 have same : ∃ r, (∀ k, C + 30000 ≤ k → (some s : Option station_Station) = some r) ∧ SI r (C + 13000) S ∧ Cm s r ∧ (r.arq = s.arq ∨ r.arq = Aq.input s.arq (b.drop 5)) := ⟨s, fun _ _ => Eq.refl _, h', Cm.rfl s, .inl (Eq.refl _)⟩
 have cut_ok : ∀ n : Int, 0 ≤ n → n ≤ b.length → cut b n (b.length : Int) = b.drop n.toNat := fun n q _ => Aq.cut_drop b q
 have j1 : ∀ x, ∃ r, (∀ k, C + 30000 ≤ k → station_Station_came.j1 s b x = some r) ∧ SI r (C + 13000) S ∧ Cm s r ∧ (r.arq = s.arq ∨ r.arq = Aq.input s.arq (b.drop 5)) := by
  intro x
  unfold station_Station_came.j1
  split
  ·rw [if_pos ⟨by omega, by omega, by omega⟩]
   obtain ⟨q, hq⟩ := kread_ok (cut b 1 (b.length : Int))
   rw [hq, bsome]
   split
   ·unfold aps_Aps_Remote.f request_Of.f request_Of.j0
    have fin : ∀ q : Int, ∃ r, (∀ k, C + 30000 ≤ k → some ({ s with aps := { s.aps with remote := q } } : station_Station) = some r) ∧ SI r (C + 13000) S ∧ Cm s r ∧ (r.arq = s.arq ∨ r.arq = Aq.input s.arq (b.drop 5)) :=
     fun q => ⟨_, fun _ _ => Eq.refl _, { h' with }, by constructor <;> exact Eq.refl _, .inl (Eq.refl _)⟩
    repeat' split
    all_goals first | (rw [if_pos (Eq.refl _)]; exact fin _) | exact fin _
   ·exact same
  ·exact same
 have j2 : ∀ x, station_Station_came.j2 s b x = station_Station_came.j1 s b x := fun x => Eq.refl _
 have j0 : ∀ x, 5 ≤ b.length → ∃ r, (∀ k, C + 30000 ≤ k → station_Station_came.j0 k s l b x = some r) ∧ SI r (C + 13000) S ∧ Cm s r ∧ (r.arq = s.arq ∨ r.arq = Aq.input s.arq (b.drop 5)) := by
  intro x h5
  by_cases c : x = true
  ·obtain ⟨r, hr, hr'⟩ := same
   refine ⟨r, fun k hk => ?_, hr'⟩
   unfold station_Station_came.j0
   rw [if_pos c]; exact hr k hk
  ·have key : ∀ n : Int, ∃ t : Bool × twins_Table, (∀ k, 5000 ≤ k → twins_Table_Fresh.f k s.twins n = some t) ∧ Mo.TI t.2 := fun n => Mo.fresh_ok h.tw n
   obtain ⟨t, ht, hT⟩ := key (ior .u32 (ior .u32 (ior .u32 (IntKind.u32.wrap ((IntKind.u32.wrap (b.getD (1 : Int).toNat 0)) * 2 ^ (min (24 : Int).toNat IntKind.u32.bits))) (IntKind.u32.wrap ((IntKind.u32.wrap (b.getD (2 : Int).toNat 0)) * 2 ^ (min (16 : Int).toNat IntKind.u32.bits)))) (IntKind.u32.wrap ((IntKind.u32.wrap (b.getD (3 : Int).toNat 0)) * 2 ^ (min (8 : Int).toNat IntKind.u32.bits)))) (IntKind.u32.wrap (b.getD (4 : Int).toNat 0)))
   have hd : By (b.drop 5) := fun z hz => hb z (List.mem_of_mem_drop hz)
   have ec : cut b 5 (b.length : Int) = b.drop 5 := cut_ok 5 (by omega) (by omega)
   by_cases c2 : t.1 = true
   ·refine ⟨{ s with arq := Aq.input s.arq (b.drop 5), twins := t.2 }, fun k hk => ?_, { h' with arq := Aq.input_ai h.arq hd, bo := Bo.input h.arq h.bo hd, tw := hT }, by constructor <;> exact Eq.refl _, .inr (Eq.refl _)⟩
    unfold station_Station_came.j0
    rw [if_neg c, if_pos (by omega), if_pos (by omega), if_pos (by omega), if_pos (by omega), ht k (by omega), bsome, if_pos c2, if_pos (by omega), ec, Aq.input_eq h.arq (by omega) hd (by rw [List.length_drop]; omega) (by omega), bsome]
   ·by_cases c3 : l = 0
    ·refine ⟨{ s with twins := t.2, sides := ({ s.sides.1 with counts := { s.sides.1.counts with Twins := station_one.f s.sides.1.counts.Twins } }, s.sides.2) }, fun k hk => ?_, { h' with tw := hT, one := { h.one with } }, by constructor <;> exact Eq.refl _, .inl (Eq.refl _)⟩
     unfold station_Station_came.j0
     rw [if_neg c, if_pos (by omega), if_pos (by omega), if_pos (by omega), if_pos (by omega), ht k (by omega), bsome, if_neg c2, if_pos (by omega), if_pos c3]
    ·refine ⟨{ s with twins := t.2, sides := (s.sides.1, { s.sides.2 with counts := { s.sides.2.counts with Twins := station_one.f s.sides.2.counts.Twins } }) }, fun k hk => ?_, { h' with tw := hT, two := { h.two with } }, by constructor <;> exact Eq.refl _, .inl (Eq.refl _)⟩
     unfold station_Station_came.j0
     rw [if_neg c, if_pos (by omega), if_pos (by omega), if_pos (by omega), if_pos (by omega), ht k (by omega), bsome, if_neg c2, if_pos (by omega), if_neg c3]
 have head : ∀ k, station_Station_came.f k s l b = if b.getD (0 : Int).toNat 0 = 0 ∧ 5 ≤ b.length then station_Station_came.j0 k s l b (if decide (s.c.Mode = 0) = true then false else !(decide (l = s.aps.line))) else station_Station_came.j1 s b (if b.getD (0 : Int).toNat 0 = 1 then decide (l = 1) else false) := by
  intro k
  unfold station_Station_came.f
  rw [if_pos (by omega)]
  by_cases c1 : b.getD (0 : Int).toNat 0 = 0
  ·rw [if_pos c1]
   by_cases c2 : 5 ≤ b.length
   ·rw [if_pos (by omega), if_pos ⟨c1, c2⟩, twice_eq, bsome]
    unfold aps_Aps_Line.f
    rw [bsome]
    split <;> rfl
   ·rw [if_neg (show ¬ (b.length : Int) ≥ 5 by omega), if_neg (show ¬ b.getD (0 : Int).toNat 0 = 1 by omega), if_neg (fun q : _ ∧ 5 ≤ b.length => c2 q.2), if_neg (show ¬ b.getD (0 : Int).toNat 0 = 1 by omega)]
  ·rw [if_neg c1, if_neg (fun q : b.getD (0 : Int).toNat 0 = 0 ∧ _ => c1 q.1)]
   by_cases c3 : b.getD (0 : Int).toNat 0 = 1
   ·rw [if_pos c3, if_pos c3, j2]
   ·rw [if_neg c3, if_neg c3, j2]
 by_cases c : b.getD (0 : Int).toNat 0 = 0 ∧ 5 ≤ b.length
 ·obtain ⟨r, hr, hr'⟩ := j0 (if decide (s.c.Mode = 0) = true then false else !(decide (l = s.aps.line))) c.2
  exact ⟨r, fun k hk => by rw [head, if_pos c]; exact hr k hk, hr'⟩
 ·obtain ⟨r, hr, hr'⟩ := j1 (if b.getD (0 : Int).toNat 0 = 1 then decide (l = 1) else false)
  exact ⟨r, fun k hk => by rw [head, if_neg c]; exact hr k hk, hr'⟩
def tick (x : Int) (c : api_Counts) : api_Counts :=
 if x = 1 then { c with Good := station_one.f c.Good } else if x = 2 then { c with Runts := station_one.f c.Runts } else if x = 4 then { c with Bad := station_one.f c.Bad }
 else if x = 3 then { c with Giants := station_one.f c.Giants } else if x = 5 then { c with Aborts := station_one.f c.Aborts } else c
theorem push0 {s : station_Station} {C : Nat} {S : Int} (h : SI s C S) (hC : C + 30000 ≤ big) {c : Int} (hc : 0 ≤ c ∧ c < 256) :
  ∃ t : Int × List Int × station_Station, (∀ k, C + 100000 ≤ k → station_Station_Push.f k s 0 c = some t) ∧ SI t.2.2 (C + 13000) S ∧ (0 ≤ t.1 ∧ t.1 ≤ 5) ∧ cs t.2.2.sides.1.counts = cs (tick t.1 s.sides.1.counts) ∧ cs t.2.2.sides.2.counts = cs s.sides.2.counts ∧ t.2.2.c = s.c ∧ t.2.2.sides.1.ring = s.sides.1.ring ∧ t.2.2.sides.2.ring = s.sides.2.ring ∧ (t.2.2.arq = s.arq ∨ ∃ b, t.2.2.arq = Aq.input s.arq b ∧ By b) := by
 obtain ⟨x, hx, x1, x2, x3, x4, x5, x6, x7⟩ := Fr.push_ok h.one.reader hc
 have h' := h.more (D := C + 13000) (by omega)
 have hm := h.one.short
 have sh : x.2.2.most ≤ 1100 := by omega
 have hf : station_has.f 0 = some true := Eq.refl _
 obtain ⟨mT, hmT, iT⟩ := Mo.mnote_ok h.one.mon true
 obtain ⟨mF, hmF, iF⟩ := Mo.mnote_ok h.one.mon false
 have head : ∀ k, 70000 ≤ k → station_Station_Push.f k s 0 c = (if x.1 = 1 then ((monitor_Monitor_Note.f s.sides.1.monitor true).bind fun t12 => (station_Station_came.f k { s with sides := ({ s.sides.1 with reader := x.2.2, monitor := t12.2, counts := { s.sides.1.counts with Good := station_one.f s.sides.1.counts.Good } }, s.sides.2) } 0 x.2.1).bind fun t14 => some (x.1, x.2.1, t14)) else if x.1 = 2 then some (x.1, x.2.1, { s with sides := ({ s.sides.1 with reader := x.2.2, counts := { s.sides.1.counts with Runts := station_one.f s.sides.1.counts.Runts } }, s.sides.2) })
   else if x.1 = 4 then ((monitor_Monitor_Note.f s.sides.1.monitor false).bind fun t18 => some (x.1, x.2.1, { s with sides := ({ s.sides.1 with reader := x.2.2, monitor := t18.2, counts := { s.sides.1.counts with Bad := station_one.f s.sides.1.counts.Bad } }, s.sides.2) })) else if x.1 = 3 then ((monitor_Monitor_Note.f s.sides.1.monitor false).bind fun t18 => some (x.1, x.2.1, { s with sides := ({ s.sides.1 with reader := x.2.2, monitor := t18.2, counts := { s.sides.1.counts with Giants := station_one.f s.sides.1.counts.Giants } }, s.sides.2) }))
   else if x.1 = 5 then ((monitor_Monitor_Note.f s.sides.1.monitor false).bind fun t18 => some (x.1, x.2.1, { s with sides := ({ s.sides.1 with reader := x.2.2, monitor := t18.2, counts := { s.sides.1.counts with Aborts := station_one.f s.sides.1.counts.Aborts } }, s.sides.2) })) else some (x.1, x.2.1, { s with sides := ({ s.sides.1 with reader := x.2.2 }, s.sides.2) })) := by
  intro k hk
  unfold station_Station_Push.f
  rw [hf, bsome, if_pos (Eq.refl _), if_pos (by decide), if_pos (Eq.refl _), hx k hk, bsome]
 have hring : ∀ t : station_Station, t.sides.1.ring = s.sides.1.ring → True := fun _ _ => trivial
 by_cases c1 : x.1 = 1
 ·obtain ⟨r, hr, r1, r2, r3⟩ := came_ok (s := { s with sides := ({ s.sides.1 with reader := x.2.2, monitor := mT.2, counts := { s.sides.1.counts with Good := station_one.f s.sides.1.counts.Good } }, s.sides.2) }) (C := C) (S := S) { h with one := { h.one with reader := x1, short := sh, mon := iT } } hC (l := 0) (by decide) x5 (x6 c1) (by omega)
  refine ⟨(x.1, x.2.1, r), fun k hk => ?_, r1, x4, r2.c1.trans ?_, r2.c2, r2.c, r2.g1, r2.g2, r3.imp id fun q => ⟨_, q, fun z hz => x5 z (List.mem_of_mem_drop hz)⟩⟩
  ·rw [head k (by omega), if_pos c1, hmT, bsome, hr k (by omega), bsome]
  ·dsimp only; unfold tick; rw [if_pos c1]
 by_cases c2 : x.1 = 2
 ·refine ⟨(x.1, x.2.1, { s with sides := ({ s.sides.1 with reader := x.2.2, counts := { s.sides.1.counts with Runts := station_one.f s.sides.1.counts.Runts } }, s.sides.2) }), fun k hk => by rw [head k (by omega), if_neg c1, if_pos c2], { h' with one := { h'.one with reader := x1, short := sh } }, x4, ?_, Eq.refl _, Eq.refl _, Eq.refl _, Eq.refl _, .inl (Eq.refl _)⟩
  dsimp only; unfold tick; rw [if_neg c1, if_pos c2]
 by_cases c4 : x.1 = 4
 ·refine ⟨(x.1, x.2.1, { s with sides := ({ s.sides.1 with reader := x.2.2, monitor := mF.2, counts := { s.sides.1.counts with Bad := station_one.f s.sides.1.counts.Bad } }, s.sides.2) }), fun k hk => by rw [head k (by omega), if_neg c1, if_neg c2, if_pos c4, hmF, bsome], { h' with one := { h'.one with reader := x1, short := sh, mon := iF } }, x4, ?_, Eq.refl _, Eq.refl _, Eq.refl _, Eq.refl _, .inl (Eq.refl _)⟩
  dsimp only; unfold tick; rw [if_neg c1, if_neg c2, if_pos c4]
 by_cases c3 : x.1 = 3
 ·refine ⟨(x.1, x.2.1, { s with sides := ({ s.sides.1 with reader := x.2.2, monitor := mF.2, counts := { s.sides.1.counts with Giants := station_one.f s.sides.1.counts.Giants } }, s.sides.2) }), fun k hk => by rw [head k (by omega), if_neg c1, if_neg c2, if_neg c4, if_pos c3, hmF, bsome], { h' with one := { h'.one with reader := x1, short := sh, mon := iF } }, x4, ?_, Eq.refl _, Eq.refl _, Eq.refl _, Eq.refl _, .inl (Eq.refl _)⟩
  dsimp only; unfold tick; rw [if_neg c1, if_neg c2, if_neg c4, if_pos c3]
 by_cases c5 : x.1 = 5
 ·refine ⟨(x.1, x.2.1, { s with sides := ({ s.sides.1 with reader := x.2.2, monitor := mF.2, counts := { s.sides.1.counts with Aborts := station_one.f s.sides.1.counts.Aborts } }, s.sides.2) }), fun k hk => by rw [head k (by omega), if_neg c1, if_neg c2, if_neg c4, if_neg c3, if_pos c5, hmF, bsome], { h' with one := { h'.one with reader := x1, short := sh, mon := iF } }, x4, ?_, Eq.refl _, Eq.refl _, Eq.refl _, Eq.refl _, .inl (Eq.refl _)⟩
  dsimp only; unfold tick; rw [if_neg c1, if_neg c2, if_neg c4, if_neg c3, if_pos c5]
 ·refine ⟨(x.1, x.2.1, { s with sides := ({ s.sides.1 with reader := x.2.2 }, s.sides.2) }), fun k hk => by rw [head k (by omega), if_neg c1, if_neg c2, if_neg c4, if_neg c3, if_neg c5], { h' with one := { h'.one with reader := x1, short := sh } }, x4, ?_, Eq.refl _, Eq.refl _, Eq.refl _, Eq.refl _, .inl (Eq.refl _)⟩
  dsimp only; unfold tick; rw [if_neg c1, if_neg c2, if_neg c4, if_neg c3, if_neg c5]
theorem push1 {s : station_Station} {C : Nat} {S : Int} (h : SI s C S) (hC : C + 30000 ≤ big) {c : Int} (hc : 0 ≤ c ∧ c < 256) :
  ∃ t : Int × List Int × station_Station, (∀ k, C + 100000 ≤ k → station_Station_Push.f k s 1 c = some t) ∧ SI t.2.2 (C + 13000) S ∧ (0 ≤ t.1 ∧ t.1 ≤ 5) ∧ cs t.2.2.sides.2.counts = cs (tick t.1 s.sides.2.counts) ∧ cs t.2.2.sides.1.counts = cs s.sides.1.counts ∧ t.2.2.c = s.c ∧ t.2.2.sides.1.ring = s.sides.1.ring ∧ t.2.2.sides.2.ring = s.sides.2.ring ∧ (t.2.2.arq = s.arq ∨ ∃ b, t.2.2.arq = Aq.input s.arq b ∧ By b) := by
 obtain ⟨x, hx, x1, x2, x3, x4, x5, x6, x7⟩ := Fr.push_ok h.two.reader hc
 have h' := h.more (D := C + 13000) (by omega)
 have hm := h.two.short
 have sh : x.2.2.most ≤ 1100 := by omega
 have hf : station_has.f 1 = some true := Eq.refl _
 obtain ⟨mT, hmT, iT⟩ := Mo.mnote_ok h.two.mon true
 obtain ⟨mF, hmF, iF⟩ := Mo.mnote_ok h.two.mon false
 have head : ∀ k, 70000 ≤ k → station_Station_Push.f k s 1 c = (if x.1 = 1 then ((monitor_Monitor_Note.f s.sides.2.monitor true).bind fun t12 => (station_Station_came.f k { s with sides := (s.sides.1, { s.sides.2 with reader := x.2.2, monitor := t12.2, counts := { s.sides.2.counts with Good := station_one.f s.sides.2.counts.Good } }) } 1 x.2.1).bind fun t14 => some (x.1, x.2.1, t14)) else if x.1 = 2 then some (x.1, x.2.1, { s with sides := (s.sides.1, { s.sides.2 with reader := x.2.2, counts := { s.sides.2.counts with Runts := station_one.f s.sides.2.counts.Runts } }) })
   else if x.1 = 4 then ((monitor_Monitor_Note.f s.sides.2.monitor false).bind fun t18 => some (x.1, x.2.1, { s with sides := (s.sides.1, { s.sides.2 with reader := x.2.2, monitor := t18.2, counts := { s.sides.2.counts with Bad := station_one.f s.sides.2.counts.Bad } }) })) else if x.1 = 3 then ((monitor_Monitor_Note.f s.sides.2.monitor false).bind fun t18 => some (x.1, x.2.1, { s with sides := (s.sides.1, { s.sides.2 with reader := x.2.2, monitor := t18.2, counts := { s.sides.2.counts with Giants := station_one.f s.sides.2.counts.Giants } }) }))
   else if x.1 = 5 then ((monitor_Monitor_Note.f s.sides.2.monitor false).bind fun t18 => some (x.1, x.2.1, { s with sides := (s.sides.1, { s.sides.2 with reader := x.2.2, monitor := t18.2, counts := { s.sides.2.counts with Aborts := station_one.f s.sides.2.counts.Aborts } }) })) else some (x.1, x.2.1, { s with sides := (s.sides.1, { s.sides.2 with reader := x.2.2 }) })) := by
  intro k hk
  unfold station_Station_Push.f
  rw [hf, bsome, if_pos (Eq.refl _), if_pos (by decide), if_neg (by decide), hx k hk, bsome]
 have hring : ∀ t : station_Station, t.sides.1.ring = s.sides.1.ring → True := fun _ _ => trivial
 by_cases c1 : x.1 = 1
 ·obtain ⟨r, hr, r1, r2, r3⟩ := came_ok (s := { s with sides := (s.sides.1, { s.sides.2 with reader := x.2.2, monitor := mT.2, counts := { s.sides.2.counts with Good := station_one.f s.sides.2.counts.Good } }) }) (C := C) (S := S) { h with two := { h.two with reader := x1, short := sh, mon := iT } } hC (l := 1) (by decide) x5 (x6 c1) (by omega)
  refine ⟨(x.1, x.2.1, r), fun k hk => ?_, r1, x4, r2.c2.trans ?_, r2.c1, r2.c, r2.g1, r2.g2, r3.imp id fun q => ⟨_, q, fun z hz => x5 z (List.mem_of_mem_drop hz)⟩⟩
  ·rw [head k (by omega), if_pos c1, hmT, bsome, hr k (by omega), bsome]
  ·dsimp only; unfold tick; rw [if_pos c1]
 by_cases c2 : x.1 = 2
 ·refine ⟨(x.1, x.2.1, { s with sides := (s.sides.1, { s.sides.2 with reader := x.2.2, counts := { s.sides.2.counts with Runts := station_one.f s.sides.2.counts.Runts } }) }), fun k hk => by rw [head k (by omega), if_neg c1, if_pos c2], { h' with two := { h'.two with reader := x1, short := sh } }, x4, ?_, Eq.refl _, Eq.refl _, Eq.refl _, Eq.refl _, .inl (Eq.refl _)⟩
  dsimp only; unfold tick; rw [if_neg c1, if_pos c2]
 by_cases c4 : x.1 = 4
 ·refine ⟨(x.1, x.2.1, { s with sides := (s.sides.1, { s.sides.2 with reader := x.2.2, monitor := mF.2, counts := { s.sides.2.counts with Bad := station_one.f s.sides.2.counts.Bad } }) }), fun k hk => by rw [head k (by omega), if_neg c1, if_neg c2, if_pos c4, hmF, bsome], { h' with two := { h'.two with reader := x1, short := sh, mon := iF } }, x4, ?_, Eq.refl _, Eq.refl _, Eq.refl _, Eq.refl _, .inl (Eq.refl _)⟩
  dsimp only; unfold tick; rw [if_neg c1, if_neg c2, if_pos c4]
 by_cases c3 : x.1 = 3
 ·refine ⟨(x.1, x.2.1, { s with sides := (s.sides.1, { s.sides.2 with reader := x.2.2, monitor := mF.2, counts := { s.sides.2.counts with Giants := station_one.f s.sides.2.counts.Giants } }) }), fun k hk => by rw [head k (by omega), if_neg c1, if_neg c2, if_neg c4, if_pos c3, hmF, bsome], { h' with two := { h'.two with reader := x1, short := sh, mon := iF } }, x4, ?_, Eq.refl _, Eq.refl _, Eq.refl _, Eq.refl _, .inl (Eq.refl _)⟩
  dsimp only; unfold tick; rw [if_neg c1, if_neg c2, if_neg c4, if_pos c3]
 by_cases c5 : x.1 = 5
 ·refine ⟨(x.1, x.2.1, { s with sides := (s.sides.1, { s.sides.2 with reader := x.2.2, monitor := mF.2, counts := { s.sides.2.counts with Aborts := station_one.f s.sides.2.counts.Aborts } }) }), fun k hk => by rw [head k (by omega), if_neg c1, if_neg c2, if_neg c4, if_neg c3, if_pos c5, hmF, bsome], { h' with two := { h'.two with reader := x1, short := sh, mon := iF } }, x4, ?_, Eq.refl _, Eq.refl _, Eq.refl _, Eq.refl _, .inl (Eq.refl _)⟩
  dsimp only; unfold tick; rw [if_neg c1, if_neg c2, if_neg c4, if_neg c3, if_pos c5]
 ·refine ⟨(x.1, x.2.1, { s with sides := (s.sides.1, { s.sides.2 with reader := x.2.2 }) }), fun k hk => by rw [head k (by omega), if_neg c1, if_neg c2, if_neg c4, if_neg c3, if_neg c5], { h' with two := { h'.two with reader := x1, short := sh } }, x4, ?_, Eq.refl _, Eq.refl _, Eq.refl _, Eq.refl _, .inl (Eq.refl _)⟩
  dsimp only; unfold tick; rw [if_neg c1, if_neg c2, if_neg c4, if_neg c3, if_neg c5]
theorem status_eq (s : station_Station) : station_Station_Status.f s = some { State := s.arq.state, Line := if s.c.Mode = 0 then 0 else s.aps.line, Lines := (s.sides.1.monitor.state, s.sides.2.monitor.state), Sent := s.arq.sent, Acked := s.arq.acked, Lost := s.arq.lost } := by
 unfold station_Station_Status.f station_Station_Status.j0 station_Station_Status.j1 arq_Arq_State.f aps_Aps_Line.f arq_Arq_Counts.f monitor_Monitor_State.f
 rw [bsome, bsome, twice_eq, bsome]
 by_cases c : s.c.Mode = 0
 ·rw [decide_eq_true c, if_pos (Eq.refl _), if_pos c]; rfl
 ·rw [decide_eq_false c, if_neg (by simp), if_neg c]; rfl
end St
namespace St
open Fr (By)
open Aq (AI big)
open Bo (BO)
def wn (n l h : Int) : Bool := decide (l ≤ n) && decide (n ≤ h)
theorem within_eq (n l h : Int) : shape_within.f n l h = some (wn n l h) := by
 unfold shape_within.f wn
 by_cases c : n ≥ l
 ·rw [if_pos c, decide_eq_true (show l ≤ n from c)]; rfl
 ·rw [if_neg c, decide_eq_false (show ¬ l ≤ n from c)]; rfl
def mostR (c : api_Config) : Int := w64 ((w64 (2 * (w64 ((imax (1) (imin c.Size (1000))) + 16)))) + 2)
def okB (c : api_Config) : Bool :=
 ((c.Mode == 0 || c.Mode == 1) && (c.Modulus == 128 || c.Modulus == 32768)) &&
 (wn c.T1 1 1048576 && wn c.N2 1 100 && wn c.Hold 0 1048576 && wn c.Wait 1 1048576 && wn c.Keep 1 65536) &&
 (wn c.Window 1 (w64 (c.Modulus.tdiv 8)) && wn c.Queue 0 1000 && wn c.Size 1 1000 && wn c.Rate 1 4096 && wn c.Ring (mostR c) 1048576) &&
 (wn c.Bad 1 16 && wn c.Good 1 16) && decide (w64 (c.Keep * c.Rate) ≥ 32)
theorem check_eq (c : api_Config) : shape_Check.f c = some (if okB c = true then 0 else 1) := by
 have h4 : ∀ x, shape_Check.j4 x = some (if x = true then 0 else 1) := by intro x; unfold shape_Check.j4; cases x <;> rfl
 have h3 : ∀ a b d e, shape_Check.j3 c a b d e = some (if (a && b && d && e && decide (w64 (c.Keep * c.Rate) ≥ 32)) = true then 0 else 1) := by
  intro a b d e; unfold shape_Check.j3; simp only [h4]; cases a <;> cases b <;> cases d <;> cases e <;> rfl
 have h2 : ∀ a b d, shape_Check.j2 c a b d = some (if (a && b && d && (wn c.Bad 1 16 && wn c.Good 1 16) && decide (w64 (c.Keep * c.Rate) ≥ 32)) = true then 0 else 1) := by
  intro a b d; unfold shape_Check.j2; simp only [within_eq, h3, bsome]; cases wn c.Bad 1 16 <;> cases wn c.Good 1 16 <;> rfl
 have h1 : ∀ a b, shape_Check.j1 c a b = some (if (a && b && (wn c.Window 1 (w64 (c.Modulus.tdiv 8)) && wn c.Queue 0 1000 && wn c.Size 1 1000 && wn c.Rate 1 4096 && wn c.Ring (mostR c) 1048576) && (wn c.Bad 1 16 && wn c.Good 1 16) && decide (w64 (c.Keep * c.Rate) ≥ 32)) = true then 0 else 1) := by
  intro a b; unfold shape_Check.j1 shape_Most.f; simp only [within_eq, h2, bsome]
  cases wn c.Window 1 (w64 (c.Modulus.tdiv 8)) <;> cases wn c.Queue 0 1000 <;> cases wn c.Size 1 1000 <;> cases wn c.Rate 1 4096 <;> rfl
 have h0 : ∀ a, shape_Check.j0 c a = some (if (a && (wn c.T1 1 1048576 && wn c.N2 1 100 && wn c.Hold 0 1048576 && wn c.Wait 1 1048576 && wn c.Keep 1 65536) && (wn c.Window 1 (w64 (c.Modulus.tdiv 8)) && wn c.Queue 0 1000 && wn c.Size 1 1000 && wn c.Rate 1 4096 && wn c.Ring (mostR c) 1048576) && (wn c.Bad 1 16 && wn c.Good 1 16) && decide (w64 (c.Keep * c.Rate) ≥ 32)) = true then 0 else 1) := by
  intro a; unfold shape_Check.j0; simp only [within_eq, h1, bsome]
  cases wn c.T1 1 1048576 <;> cases wn c.N2 1 100 <;> cases wn c.Hold 0 1048576 <;> cases wn c.Wait 1 1048576 <;> rfl
 unfold shape_Check.f okB
 simp only [h0]
 by_cases m0 : c.Mode = 0
 ·by_cases m1 : c.Modulus = 128 <;> simp [m0, m1]
 ·by_cases m2 : c.Mode = 1
  ·by_cases m1 : c.Modulus = 128 <;> simp [m2, m1]
  ·simp [m0, m2]
structure Ok (c : api_Config) : Prop where
 mode : c.Mode = 0 ∨ c.Mode = 1
 mod : c.Modulus = 128 ∨ c.Modulus = 32768
 t1 : 1 ≤ c.T1 ∧ c.T1 ≤ 1048576
 n2 : 1 ≤ c.N2 ∧ c.N2 ≤ 100
 hold : 0 ≤ c.Hold ∧ c.Hold ≤ 1048576
 wait : 1 ≤ c.Wait ∧ c.Wait ≤ 1048576
 keep : 1 ≤ c.Keep ∧ c.Keep ≤ 65536
 win : 1 ≤ c.Window ∧ c.Window ≤ w64 (c.Modulus.tdiv 8)
 que : 0 ≤ c.Queue ∧ c.Queue ≤ 1000
 size : 1 ≤ c.Size ∧ c.Size ≤ 1000
 rate : 1 ≤ c.Rate ∧ c.Rate ≤ 4096
 ring : mostR c ≤ c.Ring ∧ c.Ring ≤ 1048576
 bad : 1 ≤ c.Bad ∧ c.Bad ≤ 16
 good : 1 ≤ c.Good ∧ c.Good ≤ 16
theorem ok_of {c : api_Config} (h : okB c = true) : Ok c := by
 unfold okB wn at h
 simp only [Bool.and_eq_true, Bool.or_eq_true, beq_iff_eq, decide_eq_true_eq] at h
 obtain ⟨⟨⟨⟨⟨m1, m2⟩, ⟨⟨⟨a1, a2⟩, a3⟩, a4⟩, a5⟩, ⟨⟨⟨b1, b2⟩, b3⟩, b4⟩, b5⟩, c1, c2⟩, _⟩ := h
 exact ⟨m1, m2, a1, a2, a3, a4, a5, b1, b2, b3, b4, b5, c1, c2⟩
def cnt0 : api_Counts := { Good := 0, Bad := 0, Aborts := 0, Runts := 0, Giants := 0, Dropped := 0, Twins := 0 }
theorem new_no {c : api_Config} (h : okB c ≠ true) (k : Nat) : station_New.f k c = some (none, 1) := by
 unfold station_New.f
 rw [check_eq, if_neg h, bsome, if_neg (by decide)]
theorem clampI {n a b : Int} (h : a ≤ n ∧ n ≤ b) : imax a (imin n b) = n := by unfold imax imin; (repeat' split) <;> omega
theorem new_ok {c : api_Config} (h : okB c = true) : ∃ s : station_Station, (∀ k, 1000 ≤ k → station_New.f k c = some (some s, 0)) ∧ SI s 0 0 ∧ s.c = c ∧ s.sides.1.counts = cnt0 ∧ s.sides.2.counts = cnt0 ∧ s.sides.1.ring.b = [] ∧ s.sides.2.ring.b = [] ∧
  s.arq = Aq.anew c.Modulus c.T1 c.N2 c.Size c.Window c.Queue := by
 have o := ok_of h
 have hz := o.size
 obtain ⟨t, ht, hT⟩ := Mo.tnew_ok (imin (w64 (c.Modulus.tdiv (2))) (1024))
 have e11 : w64 (c.Size + 11) = c.Size + 11 := w64_in ⟨by omega, by omega⟩
 obtain ⟨f, hf, hF, hM⟩ := Fr.new_ok (c.Size + 11) c.Wide (by omega)
 obtain ⟨m, hm, hMI⟩ := Mo.mnew_ok c.Bad c.Good (w64 (3 * c.Keep))
 obtain ⟨g, hg, hG, hG0⟩ := Mo.gnew_ok c.Ring
 have hmod : (if c.Modulus = 32768 then 32768 else 128 : Int) = c.Modulus := by have := o.mod; split <;> omega
 have hwin : c.Window ≤ c.Modulus / 8 := by
  have := o.win
  rcases o.mod with e | e <;> rw [e] at this ⊢ <;> exact this.2
 have ha : arq_New.f c = some (Aq.anew c.Modulus c.T1 c.N2 c.Size c.Window c.Queue) := by
  rw [Aq.new_eq, hmod, clampI o.t1, clampI o.n2, clampI o.size, clampI o.que, clampI ⟨o.win.1, hwin⟩]
 refine ⟨{ c := c, arq := Aq.anew c.Modulus c.T1 c.N2 c.Size c.Window c.Queue, aps := { hold := imax (0) (imin c.Hold (1048576)), wait := imax (1) (imin c.Wait (1048576)), revert := c.Revert, command := 0, remote := 0, own := 0, bad := 0, left := 0, line := 0 }, twins := t, number := 0, steps := 0, line := 0, sides := ({ reader := f, monitor := m, ring := g, counts := cnt0 }, { reader := f, monitor := m, ring := g, counts := cnt0 }) }, fun k hk => ?_, ?_, Eq.refl _, Eq.refl _, Eq.refl _, hG0, hG0, Eq.refl _⟩
 ·unfold station_New.f aps_New.f
  rw [check_eq, if_pos h, bsome, if_pos (Eq.refl _), ha, bsome, bsome, ht, bsome, e11, hf k (by omega), bsome, hm, bsome, hg, bsome, bsome, bsome, bsome]
  rfl
 ·have hr : f.most ≤ 1100 := by have := hM (by omega); omega
  exact ⟨o.keep, Aq.anew_ai o.mod o.t1 o.n2 o.size ⟨o.win.1, hwin⟩ o.que, Bo.new _ _ _ _ _ _, hT, by dsimp only; omega, by dsimp only; omega, ⟨hF, hr, hMI, hG⟩, ⟨hF, hr, hMI, hG⟩⟩
end St
namespace Po
open Aq
def pot (a : arq_Arq) : Nat := a.inds.length + (a.order.kept.length + a.order.ready.length)
variable {a : arq_Arq} {C : Nat}
theorem ind (n : Int) : pot (tellInd a n) = pot a + 1 := by unfold pot; show (a.inds ++ [n]).length + (a.order.kept.length + a.order.ready.length) = _; rw [List.length_append]; simp; omega
theorem frsh (st : Int) : pot (fresh a st) ≤ pot a := by unfold pot; show a.inds.length + (0 + a.order.ready.length) ≤ _; omega
theorem aend : pot (Aq.aend a) ≤ pot a + 1 := by unfold Aq.aend; rw [ind]; have := frsh (a := a) 0; omega
theorem out1 : pot (Aq.out1 a) = pot a := by unfold Aq.out1; show pot (if run a > 0 then _ else _) = _; split <;> rfl
theorem pumpL : ∀ (d : Nat) {a : arq_Arq}, pot (Aq.pumpL d a) = pot a
 | 0, _ => rfl
 | d + 1, a => by
  rw [Aq.pumpL]
  split
  ·rw [pumpL d, out1]
  ·rfl
theorem pump : pot (Aq.pump a) = pot a := by unfold Aq.pump; split; exact pumpL _; rfl
theorem resend : pot (Aq.resend a) = pot a := by unfold Aq.resend; split <;> rfl
theorem ackd (k : Int) : pot (Aq.ackd a k) = pot a := by unfold Aq.ackd; show pot (if a.log.out - k > 0 then _ else _) = _; split <;> rfl
theorem acknow (nr : Int) : pot (Aq.acknow a nr).2 = pot a := by
 unfold Aq.acknow
 by_cases c : ackOk a nr
 ·rw [if_pos c]
  dsimp only
  split
  ·rfl
  ·exact ackd _
 ·rw [if_neg c]
theorem answer (p : Bool) : pot (Aq.answer a p) = pot a := by unfold Aq.answer; split <;> rfl
theorem put (h : AI a C) (n : Int) (b : List Int) : pot (Aq.put a n b) ≤ pot a + 1 := by
 have o : Or.OI a.order (a.order.kept.length + a.order.ready.length) := ⟨h.ord.hm, h.ord.hwin, h.ord.hnext, Nat.le_refl _⟩
 have := (Or.put_oi o n b).held
 unfold pot Aq.put
 dsimp only
 omega
theorem come (h : AI a C) (c : api_Ctl) (b : List Int) : pot (Aq.come a c b) ≤ pot a + 1 := by unfold Aq.come; rw [answer]; exact put h _ _
theorem numbered (h : AI a C) (t : Int) (c : api_Ctl) (b : List Int) : pot (Aq.numbered a t c b) ≤ pot a + 1 := by
 unfold Aq.numbered
 split
 ·exact Nat.le_succ _
 split
 ·split
  ·exact aend (a := Aq.say a a.tag (ct 7 0 0 false) [])
  ·have A1 := acknow_ai h c.Nr
   have A2 : ∃ D, AI (if (Aq.acknow a c.Nr).1 = true ∧ c.Kind = 2 then Aq.resend (Aq.acknow a c.Nr).2 else (Aq.acknow a c.Nr).2) D := by split; exact ⟨_, resend_ai A1⟩; exact ⟨_, A1⟩
   have P2 : pot (if (Aq.acknow a c.Nr).1 = true ∧ c.Kind = 2 then Aq.resend (Aq.acknow a c.Nr).2 else (Aq.acknow a c.Nr).2) = pot a := by split; rw [resend, acknow]; rw [acknow]
   obtain ⟨D, A2⟩ := A2
   rw [pump]
   dsimp only
   split
   ·have := come A2 c b; omega
   ·omega
 ·exact Nat.le_succ _
theorem accept (t : Int) (p : Bool) : pot (Aq.accept a t p) ≤ pot a + 1 := by unfold Aq.accept; rw [ind]; exact Nat.succ_le_succ (frsh (a := a) 2)
theorem asked (t : Int) (p : Bool) : pot (Aq.asked a t p) ≤ pot a + 1 := by
 unfold Aq.asked
 repeat' split
 all_goals first | exact accept _ _ | exact Nat.le_succ _
theorem accepted : pot (Aq.accepted a) ≤ pot a + 1 := by
 unfold Aq.accepted
 split
 ·rw [pump, ind]; exact Nat.le_refl _
 split
 ·exact aend
 ·exact Nat.le_succ _
theorem closed (t : Int) (p : Bool) : pot (Aq.closed a t p) ≤ pot a + 1 := by
 unfold Aq.closed
 split
 ·exact aend (a := Aq.say a a.tag (ct 4 0 0 p) [])
 ·exact Nat.le_succ _
theorem refused (t : Int) : pot (Aq.refused a t) ≤ pot a + 1 := by
 unfold Aq.refused
 split
 ·exact aend
 split
 ·exact aend (a := { a with tag := t })
 ·exact Nat.le_succ _
theorem take (h : AI a C) (t : Int) (c : api_Ctl) (b : List Int) : pot (Aq.take a t c b) ≤ pot a + 1 := by
 unfold Aq.take
 repeat' split
 ·exact asked _ _
 ·exact accepted
 ·exact Nat.le_succ _
 ·exact closed _ _
 ·exact refused _
 ·exact aend
 ·exact Nat.le_succ _
 ·exact numbered h _ _ _
theorem input (h : AI a C) (b : List Int) : pot (Aq.input a b) ≤ pot a + 1 := by
 unfold Aq.input
 repeat' split
 ·exact Nat.le_succ _
 ·exact take h _ _ _
 ·exact Nat.le_succ _
theorem connect : pot (Aq.connect a).2 = pot a := by unfold Aq.connect; split <;> rfl
theorem close : pot (Aq.close a).2 ≤ pot a := by
 unfold Aq.close
 split
 ·exact Nat.le_refl _
 ·exact frsh (a := a) 3
theorem send (b : List Int) : pot (Aq.send a b).2 = pot a := by
 unfold Aq.send
 split
 ·rfl
 split
 ·split
  ·rfl
  ·exact pump
 ·rfl
theorem again : pot (Aq.again a) = pot a := by unfold Aq.again; split; exact resend; rfl
theorem remind : pot (Aq.remind a) = pot a := by unfold Aq.remind; split; rfl; split; rfl; split <;> rfl
theorem late : pot (Aq.late a) ≤ pot a + 1 := by
 unfold Aq.late
 split
 ·exact aend (a := { a with tries := a.n2 })
 ·rw [remind]; exact Nat.le_succ _
theorem passL : ∀ (d : Nat) (n : Int) {a : arq_Arq}, pot (Aq.passL d n a) ≤ pot a + d
 | 0, _, _ => Nat.le_refl _
 | d + 1, n, a => by
  rw [Aq.passL]
  split
  ·have h1 := passL d (n - run a) (a := Aq.late (Aq.passing a (run a)))
   have h2 := late (a := Aq.passing a (run a))
   have h3 : pot (Aq.passing a (run a)) = pot a := rfl
   omega
  ·show pot a ≤ _; omega
theorem pass (n : Int) : pot (Aq.pass a n) ≤ pot a + 120 := passL _ _
end Po
namespace Wg
open Fr (By)
open Aq (AI big)
open St
open Po (pot)
structure PP (p : pipe_Pipe) : Prop where
 room : 0 ≤ p.room ∧ p.room ≤ 1048576
 len : (p.b.length : Int) ≤ p.room
 by_ : By p.b
theorem pnew (n : Int) : ∃ p, pipe_New.f n = some p ∧ PP p := by
 have e : 0 ≤ imax 0 (imin n 1048576) ∧ imax 0 (imin n 1048576) ≤ 1048576 := by unfold imax imin; constructor <;> (repeat' split) <;> omega
 exact ⟨_, rfl, e, e.1, fun _ h => nomatch h⟩
theorem pgone {p : pipe_Pipe} (h : PP p) (n : Int) : ∃ t : List Int × pipe_Pipe, pipe_Pipe_gone.f p n = some t ∧ PP t.2 ∧ By t.1 ∧ (t.1.length : Int) ≤ imax 0 n := by
 have hr := h.room
 have hl := h.len
 have e : 0 ≤ imax 0 (imin n (p.b.length : Int)) ∧ imax 0 (imin n (p.b.length : Int)) ≤ p.b.length ∧ imax 0 (imin n (p.b.length : Int)) ≤ imax 0 n := by unfold imax imin; refine ⟨?_, ?_, ?_⟩ <;> (repeat' split) <;> omega
 obtain ⟨m, hm⟩ : ∃ m : Nat, imax 0 (imin n (p.b.length : Int)) = m := ⟨_, (Int.toNat_of_nonneg e.1).symm⟩
 rw [hm] at e
 refine ⟨(p.b.take m, { p with b := p.b.drop m }), ?_, ⟨hr, by dsimp only; rw [List.length_drop]; omega, fun z hz => h.by_ z (List.mem_of_mem_drop hz)⟩, fun z hz => h.by_ z (List.mem_of_mem_take hz), by dsimp only; rw [List.length_take]; omega⟩
 unfold pipe_Pipe_gone.f
 rw [hm, if_pos ⟨by omega, e.1, e.2.1⟩, Fr.cut0, Bl.clone_eq (by rw [List.length_take]; omega), bsome, Mo.del_ok p.b e.2.1, bsome]
theorem ptake {p : pipe_Pipe} (h : PP p) {n : Int} (hn : 1 ≤ n ∧ n ≤ 4096) : ∃ t : List Int × pipe_Pipe, pipe_Pipe_Take.f p n = some t ∧ PP t.2 ∧ By t.1 ∧ t.1.length ≤ 4096 := by
 unfold pipe_Pipe_Take.f
 split
 ·exact ⟨_, rfl, h, fun _ q => (nomatch q), Nat.zero_le _⟩
 ·obtain ⟨t, ht, h1, h2, h3⟩ := pgone h n
  rw [ht, bsome]
  refine ⟨t, rfl, h1, h2, ?_⟩
  have : imax 0 n = n := by unfold imax; split <;> omega
  omega
theorem pput {p : pipe_Pipe} (h : PP p) {b : List Int} (hb : By b) (hl : b.length ≤ 1048576) : ∃ t, pipe_Pipe_Put.f p b = some t ∧ PP t.2 := by
 have hr := h.room
 have h1 := h.len
 unfold pipe_Pipe_Put.f
 split
 ·exact ⟨_, rfl, h⟩
 ·unfold pipe_Pipe_Room.f
  rw [bsome, w64_in ⟨by omega, by omega⟩]
  have e : 0 ≤ imin (b.length : Int) (p.room - p.b.length) ∧ imin (b.length : Int) (p.room - p.b.length) ≤ b.length ∧ imin (b.length : Int) (p.room - p.b.length) ≤ p.room - p.b.length := by unfold imin; refine ⟨?_, ?_, ?_⟩ <;> split <;> omega
  obtain ⟨m, hm⟩ : ∃ m : Nat, imin (b.length : Int) (p.room - p.b.length) = m := ⟨_, (Int.toNat_of_nonneg e.1).symm⟩
  rw [hm] at e ⊢
  rw [if_pos ⟨by omega, e.1, e.2.1⟩, Fr.cut0, if_pos (by rw [List.length_take]; omega)]
  refine ⟨_, rfl, hr, ?_, Fr.By.app h.by_ fun z hz => hb z (List.mem_of_mem_take hz)⟩
  show ((p.b ++ b.take m).length : Int) ≤ p.room
  rw [List.length_append, List.length_take]; omega
structure WY (x : world_way) (N : Nat) : Prop where
 pipe : PP x.pipe
 got : x.got.length ≤ N
 sent : x.sent.length ≤ N
theorem WY.more {x : world_way} {N M : Nat} (h : WY x N) (l : N ≤ M) : WY x M := ⟨h.pipe, Nat.le_trans h.got l, Nat.le_trans h.sent l⟩
structure WI (w : world_World) (C1 C2 N P : Nat) (S1 S2 : Int) : Prop where
 rate : 1 ≤ w.c.Rate ∧ w.c.Rate ≤ 4096
 one : SI w.stations.1 C1 S1
 two : SI w.stations.2 C2 S2
 pot : pot w.stations.1.arq + pot w.stations.2.arq ≤ P
 y11 : WY w.ways.1.1 N
 y12 : WY w.ways.1.2 N
 y21 : WY w.ways.2.1 N
 y22 : WY w.ways.2.2 N
 now : 0 ≤ w.now ∧ w.now ≤ N
theorem WI.more {w : world_World} {C1 C2 N P D1 D2 M Q : Nat} {S1 S2 : Int} (h : WI w C1 C2 N P S1 S2) (l1 : C1 ≤ D1) (l2 : C2 ≤ D2) (l3 : N ≤ M) (l4 : P ≤ Q) : WI w D1 D2 M Q S1 S2 :=
 ⟨h.rate, h.one.more l1, h.two.more l2, Nat.le_trans h.pot l4, h.y11.more l3, h.y12.more l3, h.y21.more l3, h.y22.more l3, by have := h.now; omega⟩
theorem potIn {s r : station_Station} {C : Nat} {S : Int} (h : SI s C S) (e : r.arq = s.arq ∨ ∃ b, r.arq = Aq.input s.arq b ∧ By b) : pot r.arq ≤ pot s.arq + 1 := by
 rcases e with e | ⟨b, e, _⟩
 ·rw [e]; exact Nat.le_succ _
 ·rw [e]; exact Po.input h.arq b
theorem potStep {s r : station_Station} (e : r.arq = emp (Aq.pass s.arq 1) ∨ r.arq = emp (Aq.pass (Aq.again s.arq) 1)) : pot r.arq ≤ pot s.arq + 120 := by
 rcases e with e | e
 ·rw [e]; exact Po.pass (a := s.arq) 1
 ·rw [e]; have := Po.pass (a := Aq.again s.arq) 1; rw [Po.again] at this; exact this
variable {C1 C2 N P : Nat} {S1 S2 : Int}
set_option maxHeartbeats 4000000 in
theorem l7_ok (u : List Int × pipe_Pipe) (hu : u.1.length ≤ 4096) (hB : By u.1) : ∀ (d i : Nat) (w : world_World) (C1 C2 N P : Nat), i + d = u.1.length → WI w C1 C2 N P S1 S2 → C1 + 13000 * d + 60000000 ≤ big → C2 + 13000 * d + 60000000 ≤ big → N + d + 5000 ≤ 1000000000000 →
  ∃ r, (∀ k, C1 + C2 + 13000 * d + 60000000 + d ≤ k → world_World_Step.l7 k u (i : Int) w = some r) ∧ WI r (C1 + 0 + 13000 * d) (C2 + 0) (N + 1 + d) (P + 0 + d) S1 S2
 | 0, i, w, C1, C2, N, P, hi, h, h1, h2, hN => by
  have hnow := h.now
  refine ⟨{ w with now := w.now + 1 }, fun k hk => ?_, { h.more (D1 := C1 + 0 + 13000 * 0) (D2 := C2 + 0) (M := N + 1 + 0) (Q := P + 0 + 0) (by omega) (by omega) (by omega) (by omega) with now := by dsimp only; omega }⟩
  obtain ⟨k, rfl⟩ : ∃ j, k = j + 1 := ⟨k - 1, by omega⟩
  rw [world_World_Step.l7, if_neg (by omega), w64_in ⟨by omega, by omega⟩]
 | d + 1, i, w, C1, C2, N, P, hi, h, h1, h2, hN => by
  have hlt : i < u.1.length := by omega
  have eg : u.1.getD ((i : Int)).toNat 0 = u.1[i] := by simp [List.getD, hlt]
  obtain ⟨t, ht, t1, t2, _, _, _, _, _, t3⟩ := push1 h.one (by omega) (hB _ (List.getElem_mem hlt))
  have tp := potIn h.one t3
  have hp := h.pot
  have ew : w64 ((i : Int) + 1) = ((i + 1 : Nat) : Int) := w64_in ⟨by omega, by omega⟩
  have hg := h.y22.got
  have head : ∀ k, C1 + C2 + 100000 ≤ k → world_World_Step.l7 (k + 1) u (i : Int) w = if t.1 = 1 then world_World_Step.l7 k u (w64 ((i : Int) + 1)) { w with stations := (t.2.2, w.stations.2), ways := (w.ways.1, (w.ways.2.1, { w.ways.2.2 with got := w.ways.2.2.got ++ [t.2.1] })) } else world_World_Step.l7 k u (w64 ((i : Int) + 1)) { w with stations := (t.2.2, w.stations.2) } := by
   intro k hk
   rw [world_World_Step.l7, if_pos (by omega), if_pos (by omega), eg, ht k (by omega), bsome]
   by_cases c : t.1 = 1
   ·rw [if_pos c, if_pos c, if_pos (by simp only [List.length_cons, List.length_nil]; omega)]
   ·rw [if_neg c, if_neg c]
  by_cases c : t.1 = 1
  ·have hw : WI { w with stations := (t.2.2, w.stations.2), ways := (w.ways.1, (w.ways.2.1, { w.ways.2.2 with got := w.ways.2.2.got ++ [t.2.1] })) } (C1 + 13000) C2 (N + 1) (P + 1) S1 S2 :=
    { h.more (D1 := (C1 + 13000)) (D2 := C2) (M := N + 1) (Q := P + 1) (by omega) (by omega) (by omega) (by omega) with one := t1, pot := by dsimp only; omega, y22 := ⟨h.y22.pipe, by dsimp only; rw [List.length_append]; simp; omega, by dsimp only; have := h.y22.sent; omega⟩ }
   obtain ⟨r, hr, r1⟩ := l7_ok u hu hB d (i + 1) _ _ _ _ _ (by omega) hw (by omega) (by omega) (by omega)
   refine ⟨r, fun k hk => ?_, r1.more (by omega) (by omega) (by omega) (by omega)⟩
   obtain ⟨k, rfl⟩ : ∃ j, k = j + 1 := ⟨k - 1, by omega⟩
   rw [head k (by omega), if_pos c, ew]; exact hr k (by omega)
  ·have hw : WI { w with stations := (t.2.2, w.stations.2) } (C1 + 13000) C2 (N + 1) (P + 1) S1 S2 :=
    { h.more (D1 := (C1 + 13000)) (D2 := C2) (M := N + 1) (Q := P + 1) (by omega) (by omega) (by omega) (by omega) with one := t1, pot := by dsimp only; omega }
   obtain ⟨r, hr, r1⟩ := l7_ok u hu hB d (i + 1) _ _ _ _ _ (by omega) hw (by omega) (by omega) (by omega)
   refine ⟨r, fun k hk => ?_, r1.more (by omega) (by omega) (by omega) (by omega)⟩
   obtain ⟨k, rfl⟩ : ∃ j, k = j + 1 := ⟨k - 1, by omega⟩
   rw [head k (by omega), if_neg c, ew]; exact hr k (by omega)
set_option maxHeartbeats 4000000 in
theorem l6_ok (u : List Int × pipe_Pipe) (hu : u.1.length ≤ 4096) (hB : By u.1) : ∀ (d i : Nat) (w : world_World) (C1 C2 N P : Nat), i + d = u.1.length → WI w C1 C2 N P S1 S2 → C1 + 13000 * d + 120000000 ≤ big → C2 + 13000 * d + 120000000 ≤ big → N + d + 10000 ≤ 1000000000000 →
  ∃ r, (∀ k, C1 + C2 + 13000 * d + 120000000 + d ≤ k → world_World_Step.l6 k u (i : Int) w = some r) ∧ WI r (C1 + 53248000) (C2 + 0 + 13000 * d) (N + 4097 + d) (P + 4096 + d) S1 S2
 | 0, i, w, C1, C2, N, P, hi, h, h1, h2, hN => by
  obtain ⟨v, hv, v1, v2, v3⟩ := ptake h.y22.pipe h.rate
  obtain ⟨r, hr, r1⟩ := l7_ok v v3 v2 v.1.length 0 { w with ways := (w.ways.1, (w.ways.2.1, { w.ways.2.2 with pipe := v.2 })) } C1 C2 N P (by omega) { h with y22 := ⟨v1, h.y22.got, h.y22.sent⟩ } (by omega) (by omega) (by omega)
  refine ⟨r, fun k hk => ?_, r1.more (by omega) (by omega) (by omega) (by omega)⟩
  obtain ⟨k, rfl⟩ : ∃ j, k = j + 1 := ⟨k - 1, by omega⟩
  rw [world_World_Step.l6, if_neg (by omega), hv, bsome]
  exact hr k (by omega)
 | d + 1, i, w, C1, C2, N, P, hi, h, h1, h2, hN => by
  have hlt : i < u.1.length := by omega
  have eg : u.1.getD ((i : Int)).toNat 0 = u.1[i] := by simp [List.getD, hlt]
  obtain ⟨t, ht, t1, t2, _, _, _, _, _, t3⟩ := push1 h.two (by omega) (hB _ (List.getElem_mem hlt))
  have tp := potIn h.two t3
  have hp := h.pot
  have ew : w64 ((i : Int) + 1) = ((i + 1 : Nat) : Int) := w64_in ⟨by omega, by omega⟩
  have hg := h.y21.got
  have head : ∀ k, C1 + C2 + 100000 ≤ k → world_World_Step.l6 (k + 1) u (i : Int) w = if t.1 = 1 then world_World_Step.l6 k u (w64 ((i : Int) + 1)) { w with stations := (w.stations.1, t.2.2), ways := (w.ways.1, ({ w.ways.2.1 with got := w.ways.2.1.got ++ [t.2.1] }, w.ways.2.2)) } else world_World_Step.l6 k u (w64 ((i : Int) + 1)) { w with stations := (w.stations.1, t.2.2) } := by
   intro k hk
   rw [world_World_Step.l6, if_pos (by omega), if_pos (by omega), eg, ht k (by omega), bsome]
   by_cases c : t.1 = 1
   ·rw [if_pos c, if_pos c, if_pos (by simp only [List.length_cons, List.length_nil]; omega)]
   ·rw [if_neg c, if_neg c]
  by_cases c : t.1 = 1
  ·have hw : WI { w with stations := (w.stations.1, t.2.2), ways := (w.ways.1, ({ w.ways.2.1 with got := w.ways.2.1.got ++ [t.2.1] }, w.ways.2.2)) } C1 (C2 + 13000) (N + 1) (P + 1) S1 S2 :=
    { h.more (D1 := C1) (D2 := (C2 + 13000)) (M := N + 1) (Q := P + 1) (by omega) (by omega) (by omega) (by omega) with two := t1, pot := by dsimp only; omega, y21 := ⟨h.y21.pipe, by dsimp only; rw [List.length_append]; simp; omega, by dsimp only; have := h.y21.sent; omega⟩ }
   obtain ⟨r, hr, r1⟩ := l6_ok u hu hB d (i + 1) _ _ _ _ _ (by omega) hw (by omega) (by omega) (by omega)
   refine ⟨r, fun k hk => ?_, r1.more (by omega) (by omega) (by omega) (by omega)⟩
   obtain ⟨k, rfl⟩ : ∃ j, k = j + 1 := ⟨k - 1, by omega⟩
   rw [head k (by omega), if_pos c, ew]; exact hr k (by omega)
  ·have hw : WI { w with stations := (w.stations.1, t.2.2) } C1 (C2 + 13000) (N + 1) (P + 1) S1 S2 :=
    { h.more (D1 := C1) (D2 := (C2 + 13000)) (M := N + 1) (Q := P + 1) (by omega) (by omega) (by omega) (by omega) with two := t1, pot := by dsimp only; omega }
   obtain ⟨r, hr, r1⟩ := l6_ok u hu hB d (i + 1) _ _ _ _ _ (by omega) hw (by omega) (by omega) (by omega)
   refine ⟨r, fun k hk => ?_, r1.more (by omega) (by omega) (by omega) (by omega)⟩
   obtain ⟨k, rfl⟩ : ∃ j, k = j + 1 := ⟨k - 1, by omega⟩
   rw [head k (by omega), if_neg c, ew]; exact hr k (by omega)
set_option maxHeartbeats 4000000 in
theorem l5_ok (u : List Int × pipe_Pipe) (hu : u.1.length ≤ 4096) (hB : By u.1) : ∀ (d i : Nat) (w : world_World) (C1 C2 N P : Nat), i + d = u.1.length → WI w C1 C2 N P S1 S2 → C1 + 13000 * d + 180000000 ≤ big → C2 + 13000 * d + 180000000 ≤ big → N + d + 15000 ≤ 1000000000000 →
  ∃ r, (∀ k, C1 + C2 + 13000 * d + 180000000 + d ≤ k → world_World_Step.l5 k u (i : Int) w = some r) ∧ WI r (C1 + 53248000 + 13000 * d) (C2 + 53248000) (N + 8193 + d) (P + 8192 + d) S1 S2
 | 0, i, w, C1, C2, N, P, hi, h, h1, h2, hN => by
  obtain ⟨v, hv, v1, v2, v3⟩ := ptake h.y21.pipe h.rate
  obtain ⟨r, hr, r1⟩ := l6_ok v v3 v2 v.1.length 0 { w with ways := (w.ways.1, ({ w.ways.2.1 with pipe := v.2 }, w.ways.2.2)) } C1 C2 N P (by omega) { h with y21 := ⟨v1, h.y21.got, h.y21.sent⟩ } (by omega) (by omega) (by omega)
  refine ⟨r, fun k hk => ?_, r1.more (by omega) (by omega) (by omega) (by omega)⟩
  obtain ⟨k, rfl⟩ : ∃ j, k = j + 1 := ⟨k - 1, by omega⟩
  rw [world_World_Step.l5, if_neg (by omega), hv, bsome]
  exact hr k (by omega)
 | d + 1, i, w, C1, C2, N, P, hi, h, h1, h2, hN => by
  have hlt : i < u.1.length := by omega
  have eg : u.1.getD ((i : Int)).toNat 0 = u.1[i] := by simp [List.getD, hlt]
  obtain ⟨t, ht, t1, t2, _, _, _, _, _, t3⟩ := push0 h.one (by omega) (hB _ (List.getElem_mem hlt))
  have tp := potIn h.one t3
  have hp := h.pot
  have ew : w64 ((i : Int) + 1) = ((i + 1 : Nat) : Int) := w64_in ⟨by omega, by omega⟩
  have hg := h.y12.got
  have head : ∀ k, C1 + C2 + 100000 ≤ k → world_World_Step.l5 (k + 1) u (i : Int) w = if t.1 = 1 then world_World_Step.l5 k u (w64 ((i : Int) + 1)) { w with stations := (t.2.2, w.stations.2), ways := ((w.ways.1.1, { w.ways.1.2 with got := w.ways.1.2.got ++ [t.2.1] }), w.ways.2) } else world_World_Step.l5 k u (w64 ((i : Int) + 1)) { w with stations := (t.2.2, w.stations.2) } := by
   intro k hk
   rw [world_World_Step.l5, if_pos (by omega), if_pos (by omega), eg, ht k (by omega), bsome]
   by_cases c : t.1 = 1
   ·rw [if_pos c, if_pos c, if_pos (by simp only [List.length_cons, List.length_nil]; omega)]
   ·rw [if_neg c, if_neg c]
  by_cases c : t.1 = 1
  ·have hw : WI { w with stations := (t.2.2, w.stations.2), ways := ((w.ways.1.1, { w.ways.1.2 with got := w.ways.1.2.got ++ [t.2.1] }), w.ways.2) } (C1 + 13000) C2 (N + 1) (P + 1) S1 S2 :=
    { h.more (D1 := (C1 + 13000)) (D2 := C2) (M := N + 1) (Q := P + 1) (by omega) (by omega) (by omega) (by omega) with one := t1, pot := by dsimp only; omega, y12 := ⟨h.y12.pipe, by dsimp only; rw [List.length_append]; simp; omega, by dsimp only; have := h.y12.sent; omega⟩ }
   obtain ⟨r, hr, r1⟩ := l5_ok u hu hB d (i + 1) _ _ _ _ _ (by omega) hw (by omega) (by omega) (by omega)
   refine ⟨r, fun k hk => ?_, r1.more (by omega) (by omega) (by omega) (by omega)⟩
   obtain ⟨k, rfl⟩ : ∃ j, k = j + 1 := ⟨k - 1, by omega⟩
   rw [head k (by omega), if_pos c, ew]; exact hr k (by omega)
  ·have hw : WI { w with stations := (t.2.2, w.stations.2) } (C1 + 13000) C2 (N + 1) (P + 1) S1 S2 :=
    { h.more (D1 := (C1 + 13000)) (D2 := C2) (M := N + 1) (Q := P + 1) (by omega) (by omega) (by omega) (by omega) with one := t1, pot := by dsimp only; omega }
   obtain ⟨r, hr, r1⟩ := l5_ok u hu hB d (i + 1) _ _ _ _ _ (by omega) hw (by omega) (by omega) (by omega)
   refine ⟨r, fun k hk => ?_, r1.more (by omega) (by omega) (by omega) (by omega)⟩
   obtain ⟨k, rfl⟩ : ∃ j, k = j + 1 := ⟨k - 1, by omega⟩
   rw [head k (by omega), if_neg c, ew]; exact hr k (by omega)
set_option maxHeartbeats 4000000 in
theorem l4_ok (u : List Int × pipe_Pipe) (hu : u.1.length ≤ 4096) (hB : By u.1) : ∀ (d i : Nat) (w : world_World) (C1 C2 N P : Nat), i + d = u.1.length → WI w C1 C2 N P S1 S2 → C1 + 13000 * d + 240000000 ≤ big → C2 + 13000 * d + 240000000 ≤ big → N + d + 20000 ≤ 1000000000000 →
  ∃ r, (∀ k, C1 + C2 + 13000 * d + 240000000 + d ≤ k → world_World_Step.l4 k u (i : Int) w = some r) ∧ WI r (C1 + 106496000) (C2 + 53248000 + 13000 * d) (N + 12289 + d) (P + 12288 + d) S1 S2
 | 0, i, w, C1, C2, N, P, hi, h, h1, h2, hN => by
  obtain ⟨v, hv, v1, v2, v3⟩ := ptake h.y12.pipe h.rate
  obtain ⟨r, hr, r1⟩ := l5_ok v v3 v2 v.1.length 0 { w with ways := ((w.ways.1.1, { w.ways.1.2 with pipe := v.2 }), w.ways.2) } C1 C2 N P (by omega) { h with y12 := ⟨v1, h.y12.got, h.y12.sent⟩ } (by omega) (by omega) (by omega)
  refine ⟨r, fun k hk => ?_, r1.more (by omega) (by omega) (by omega) (by omega)⟩
  obtain ⟨k, rfl⟩ : ∃ j, k = j + 1 := ⟨k - 1, by omega⟩
  rw [world_World_Step.l4, if_neg (by omega), hv, bsome]
  exact hr k (by omega)
 | d + 1, i, w, C1, C2, N, P, hi, h, h1, h2, hN => by
  have hlt : i < u.1.length := by omega
  have eg : u.1.getD ((i : Int)).toNat 0 = u.1[i] := by simp [List.getD, hlt]
  obtain ⟨t, ht, t1, t2, _, _, _, _, _, t3⟩ := push0 h.two (by omega) (hB _ (List.getElem_mem hlt))
  have tp := potIn h.two t3
  have hp := h.pot
  have ew : w64 ((i : Int) + 1) = ((i + 1 : Nat) : Int) := w64_in ⟨by omega, by omega⟩
  have hg := h.y11.got
  have head : ∀ k, C1 + C2 + 100000 ≤ k → world_World_Step.l4 (k + 1) u (i : Int) w = if t.1 = 1 then world_World_Step.l4 k u (w64 ((i : Int) + 1)) { w with stations := (w.stations.1, t.2.2), ways := (({ w.ways.1.1 with got := w.ways.1.1.got ++ [t.2.1] }, w.ways.1.2), w.ways.2) } else world_World_Step.l4 k u (w64 ((i : Int) + 1)) { w with stations := (w.stations.1, t.2.2) } := by
   intro k hk
   rw [world_World_Step.l4, if_pos (by omega), if_pos (by omega), eg, ht k (by omega), bsome]
   by_cases c : t.1 = 1
   ·rw [if_pos c, if_pos c, if_pos (by simp only [List.length_cons, List.length_nil]; omega)]
   ·rw [if_neg c, if_neg c]
  by_cases c : t.1 = 1
  ·have hw : WI { w with stations := (w.stations.1, t.2.2), ways := (({ w.ways.1.1 with got := w.ways.1.1.got ++ [t.2.1] }, w.ways.1.2), w.ways.2) } C1 (C2 + 13000) (N + 1) (P + 1) S1 S2 :=
    { h.more (D1 := C1) (D2 := (C2 + 13000)) (M := N + 1) (Q := P + 1) (by omega) (by omega) (by omega) (by omega) with two := t1, pot := by dsimp only; omega, y11 := ⟨h.y11.pipe, by dsimp only; rw [List.length_append]; simp; omega, by dsimp only; have := h.y11.sent; omega⟩ }
   obtain ⟨r, hr, r1⟩ := l4_ok u hu hB d (i + 1) _ _ _ _ _ (by omega) hw (by omega) (by omega) (by omega)
   refine ⟨r, fun k hk => ?_, r1.more (by omega) (by omega) (by omega) (by omega)⟩
   obtain ⟨k, rfl⟩ : ∃ j, k = j + 1 := ⟨k - 1, by omega⟩
   rw [head k (by omega), if_pos c, ew]; exact hr k (by omega)
  ·have hw : WI { w with stations := (w.stations.1, t.2.2) } C1 (C2 + 13000) (N + 1) (P + 1) S1 S2 :=
    { h.more (D1 := C1) (D2 := (C2 + 13000)) (M := N + 1) (Q := P + 1) (by omega) (by omega) (by omega) (by omega) with two := t1, pot := by dsimp only; omega }
   obtain ⟨r, hr, r1⟩ := l4_ok u hu hB d (i + 1) _ _ _ _ _ (by omega) hw (by omega) (by omega) (by omega)
   refine ⟨r, fun k hk => ?_, r1.more (by omega) (by omega) (by omega) (by omega)⟩
   obtain ⟨k, rfl⟩ : ∃ j, k = j + 1 := ⟨k - 1, by omega⟩
   rw [head k (by omega), if_neg c, ew]; exact hr k (by omega)
theorem stake0 {s : station_Station} {C : Nat} {S : Int} (h : SI s C S) (n : Int) : ∃ r : List Int × station_Station, (∀ k, 1100000 ≤ k → station_Station_Take.f k s 0 n = some r) ∧ SI r.2 C S ∧ r.2.arq = s.arq ∧ By r.1 ∧ r.1.length ≤ 1048576 := by
 obtain ⟨t, ht, hT, e1, _⟩ := Mo.take_ok h.one.ring n
 have g1 := h.one.ring.room
 have g2 := h.one.ring.len
 refine ⟨(t.1, { s with sides := ({ s.sides.1 with ring := t.2 }, s.sides.2) }), fun k hk => ?_, { h with one := { h.one with ring := hT } }, rfl, by dsimp only; rw [e1]; exact fun z hz => h.one.ring.by_ z (List.mem_of_mem_take hz), by dsimp only; rw [e1, List.length_take]; omega⟩
 unfold station_Station_Take.f
 rw [show station_has.f 0 = some true from rfl, bsome, if_pos rfl, if_pos (by decide), if_pos rfl, ht k hk, bsome]
theorem stake1 {s : station_Station} {C : Nat} {S : Int} (h : SI s C S) (n : Int) : ∃ r : List Int × station_Station, (∀ k, 1100000 ≤ k → station_Station_Take.f k s 1 n = some r) ∧ SI r.2 C S ∧ r.2.arq = s.arq ∧ By r.1 ∧ r.1.length ≤ 1048576 := by
 obtain ⟨t, ht, hT, e1, _⟩ := Mo.take_ok h.two.ring n
 have g1 := h.two.ring.room
 have g2 := h.two.ring.len
 refine ⟨(t.1, { s with sides := (s.sides.1, { s.sides.2 with ring := t.2 }) }), fun k hk => ?_, { h with two := { h.two with ring := hT } }, rfl, by dsimp only; rw [e1]; exact fun z hz => h.two.ring.by_ z (List.mem_of_mem_take hz), by dsimp only; rw [e1, List.length_take]; omega⟩
 unfold station_Station_Take.f
 rw [show station_has.f 1 = some true from rfl, bsome, if_pos rfl, if_pos (by decide), if_neg (by decide), ht k hk, bsome]
set_option maxHeartbeats 4000000 in
theorem wstep {w : world_World} (h : WI w C1 C2 N P S1 S2) (h1 : C1 + 400000000 ≤ big) (h2 : C2 + 400000000 ≤ big) (hN : N ≤ 900000000000) :
  ∃ r, (∀ k, C1 + C2 + 300000000 ≤ k → world_World_Step.f k w = some r) ∧ WI r (C1 + 106510000) (C2 + 106510000) (N + 1070000) (P + 17000) S1 S2 := by
 obtain ⟨s1, hs1, i1, d1, _, e1⟩ := step_ok h.one (by omega)
 obtain ⟨s2, hs2, i2, d2, _, e2⟩ := step_ok h.two (by omega)
 have p1 := potStep e1
 have p2 := potStep e2
 have hp := h.pot
 have g1 := i1.one.ring.room
 have g2 := i1.two.ring.room
 have g3 := i2.one.ring.room
 have g4 := i2.two.ring.room
 have g1' := i1.one.ring.len
 have g2' := i1.two.ring.len
 have g3' := i2.one.ring.len
 have g4' := i2.two.ring.len
 have n1 := d1.n1
 have n2 := d1.n2
 have n3 := d2.n1
 have n4 := d2.n2
 have m1 := h.y11.sent
 have m2 := h.y12.sent
 have m3 := h.y21.sent
 have m4 := h.y22.sent
 have q1 := h.y11.got
 have q2 := h.y12.got
 have q3 := h.y21.got
 have q4 := h.y22.got
 have hnow := h.now
 obtain ⟨t1, ht1, j1, f1, b1, c1⟩ := stake0 i1 (if w.ways.1.1.pipe.cut = true then w.c.Rate else imin w.c.Rate (w64 (w.ways.1.1.pipe.room - (w.ways.1.1.pipe.b.length : Int))))
 obtain ⟨o1, ho1, O1⟩ := pput h.y11.pipe b1 c1
 obtain ⟨t2, ht2, j2, f2, b2, c2⟩ := stake0 i2 (if w.ways.1.2.pipe.cut = true then w.c.Rate else imin w.c.Rate (w64 (w.ways.1.2.pipe.room - (w.ways.1.2.pipe.b.length : Int))))
 obtain ⟨o2, ho2, O2⟩ := pput h.y12.pipe b2 c2
 obtain ⟨t3, ht3, j3, f3, b3, c3⟩ := stake1 j1 (if w.ways.2.1.pipe.cut = true then w.c.Rate else imin w.c.Rate (w64 (w.ways.2.1.pipe.room - (w.ways.2.1.pipe.b.length : Int))))
 obtain ⟨o3, ho3, O3⟩ := pput h.y21.pipe b3 c3
 obtain ⟨t4, ht4, j4, f4, b4, c4⟩ := stake1 j2 (if w.ways.2.2.pipe.cut = true then w.c.Rate else imin w.c.Rate (w64 (w.ways.2.2.pipe.room - (w.ways.2.2.pipe.b.length : Int))))
 obtain ⟨o4, ho4, O4⟩ := pput h.y22.pipe b4 c4
 obtain ⟨v, hv, v1, v2, v3⟩ := ptake O1 h.rate
 have hw : WI { w with stations := (t3.2, t4.2), ways := (({ pipe := v.2, sent := w.ways.1.1.sent ++ s1.1.1, got := w.ways.1.1.got }, { pipe := o2.2, sent := w.ways.1.2.sent ++ s2.1.1, got := w.ways.1.2.got }), ({ pipe := o3.2, sent := w.ways.2.1.sent ++ s1.1.2, got := w.ways.2.1.got }, { pipe := o4.2, sent := w.ways.2.2.sent ++ s2.1.2, got := w.ways.2.2.got })) } (C1 + 12000) (C2 + 12000) (N + 1048576) (P + 240) S1 S2 :=
  ⟨h.rate, j3, j4, by dsimp only; rw [f3, f1, f4, f2]; omega, ⟨v1, by dsimp only; omega, by dsimp only; rw [List.length_append]; omega⟩, ⟨O2, by dsimp only; omega, by dsimp only; rw [List.length_append]; omega⟩, ⟨O3, by dsimp only; omega, by dsimp only; rw [List.length_append]; omega⟩, ⟨O4, by dsimp only; omega, by dsimp only; rw [List.length_append]; omega⟩, by dsimp only; omega⟩
 obtain ⟨r, hr, r1⟩ := l4_ok v v3 v2 v.1.length 0 _ _ _ _ _ (by omega) hw (by omega) (by omega) (by omega)
 refine ⟨r, fun k hk => ?_, r1.more (by omega) (by omega) (by omega) (by omega)⟩
 rw [← hr k (by omega)]
 unfold world_World_Step.f pipe_Pipe_Cut.f pipe_Pipe_Room.f
 rw [hs1 k (by omega), bsome, if_pos (by omega), if_pos (by omega), hs2 k (by omega), bsome, if_pos (by omega), if_pos (by omega), bsome, bsome]
 rw [show (if w.ways.1.1.pipe.cut = true then world_World_Step.j0 k w s1 s2 w.c.Rate else world_World_Step.j0 k w s1 s2 (imin w.c.Rate (w64 (w.ways.1.1.pipe.room - (w.ways.1.1.pipe.b.length : Int))))) = world_World_Step.j0 k w s1 s2 (if w.ways.1.1.pipe.cut = true then w.c.Rate else imin w.c.Rate (w64 (w.ways.1.1.pipe.room - (w.ways.1.1.pipe.b.length : Int)))) by split <;> rfl]
 unfold world_World_Step.j0 pipe_Pipe_Cut.f pipe_Pipe_Room.f
 rw [ht1 k (by omega), bsome, ho1, bsome, bsome, bsome]
 rw [show (if w.ways.1.2.pipe.cut = true then world_World_Step.j1 k w s1 s2 t1 o1 w.c.Rate else world_World_Step.j1 k w s1 s2 t1 o1 (imin w.c.Rate (w64 (w.ways.1.2.pipe.room - (w.ways.1.2.pipe.b.length : Int))))) = world_World_Step.j1 k w s1 s2 t1 o1 (if w.ways.1.2.pipe.cut = true then w.c.Rate else imin w.c.Rate (w64 (w.ways.1.2.pipe.room - (w.ways.1.2.pipe.b.length : Int)))) by split <;> rfl]
 unfold world_World_Step.j1 pipe_Pipe_Cut.f pipe_Pipe_Room.f
 rw [ht2 k (by omega), bsome, ho2, bsome, bsome, bsome]
 rw [show (if w.ways.2.1.pipe.cut = true then world_World_Step.j2 k w s1 s2 t1 o1 t2 o2 w.c.Rate else world_World_Step.j2 k w s1 s2 t1 o1 t2 o2 (imin w.c.Rate (w64 (w.ways.2.1.pipe.room - (w.ways.2.1.pipe.b.length : Int))))) = world_World_Step.j2 k w s1 s2 t1 o1 t2 o2 (if w.ways.2.1.pipe.cut = true then w.c.Rate else imin w.c.Rate (w64 (w.ways.2.1.pipe.room - (w.ways.2.1.pipe.b.length : Int)))) by split <;> rfl]
 unfold world_World_Step.j2 pipe_Pipe_Cut.f pipe_Pipe_Room.f
 rw [ht3 k (by omega), bsome, ho3, bsome, bsome, bsome]
 rw [show (if w.ways.2.2.pipe.cut = true then world_World_Step.j3 k w s1 s2 o1 t2 o2 t3 o3 w.c.Rate else world_World_Step.j3 k w s1 s2 o1 t2 o2 t3 o3 (imin w.c.Rate (w64 (w.ways.2.2.pipe.room - (w.ways.2.2.pipe.b.length : Int))))) = world_World_Step.j3 k w s1 s2 o1 t2 o2 t3 o3 (if w.ways.2.2.pipe.cut = true then w.c.Rate else imin w.c.Rate (w64 (w.ways.2.2.pipe.room - (w.ways.2.2.pipe.b.length : Int)))) by split <;> rfl]
 unfold world_World_Step.j3
 rw [ht4 k (by omega), bsome, ho4, bsome, hv, bsome]
 rfl
end Wg
namespace Pl
open Fr (By)
open Aq (AI big)
open St
open Po (pot)
open Wg
def ev (n a i : Int) : api_Event := { Step := n, At := a, Ind := i, B := [] }
def clr (s : station_Station) : station_Station := { s with arq := { s.arq with inds := [] } }
def indsP (p : signalman_player) : signalman_player :=
 { w := { p.w with stations := (clr p.w.stations.1, clr p.w.stations.2) }, out := p.out ++ (p.w.stations.1.arq.inds.map (ev p.w.now 0) ++ p.w.stations.2.arq.inds.map (ev p.w.now 1)) }
theorem inds_l1 (t : List Int × station_Station) (w : world_World) : ∀ (d i : Nat) (o : List api_Event) (k : Nat), t.1.length ≤ 1000000000000 → i + d = t.1.length → o.length + d ≤ 1000000000000 → d + 1 ≤ k →
  signalman_player_inds.l1 k t (i : Int) { w := w, out := o } = some { w := w, out := o ++ (t.1.drop i).map (ev w.now 1) }
 | 0, i, o, k, ht, hi, ho, hk => by
  obtain ⟨k, rfl⟩ : ∃ j, k = j + 1 := ⟨k - 1, by omega⟩
  rw [signalman_player_inds.l1, if_neg (by omega), List.drop_eq_nil_of_le (by omega)]; simp
 | d + 1, i, o, k, ht, hi, ho, hk => by
  obtain ⟨k, rfl⟩ : ∃ j, k = j + 1 := ⟨k - 1, by omega⟩
  have hlt : i < t.1.length := by omega
  have eg : t.1.getD ((i : Int)).toNat 0 = t.1[i] := by simp [List.getD, hlt]
  rw [signalman_player_inds.l1, if_pos (by omega), if_pos (by omega)]
  unfold world_World_Now.f
  rw [bsome, if_pos (by simp only [List.length_cons, List.length_nil]; omega), w64_in ⟨by omega, by omega⟩, eg]
  have r := inds_l1 t w d (i + 1) (o ++ [ev w.now 1 t.1[i]]) k ht (by omega) (by rw [List.length_append]; simp; omega) (by omega)
  rw [show ((i : Int) + 1) = ((i + 1 : Nat) : Int) by omega]
  refine Eq.trans r ?_
  rw [← List.getElem_cons_drop hlt, List.map_cons, List.append_assoc]; rfl
theorem inds_l0 (t : List Int × station_Station) (w : world_World) (hw : w.stations.2.arq.inds.length ≤ 1000000000000) : ∀ (d i : Nat) (o : List api_Event) (k : Nat), t.1.length ≤ 1000000000000 → i + d = t.1.length → o.length + d + w.stations.2.arq.inds.length ≤ 1000000000000 → d + w.stations.2.arq.inds.length + 2 ≤ k →
  signalman_player_inds.l0 k t (i : Int) { w := w, out := o } = some { w := { w with stations := (w.stations.1, clr w.stations.2) }, out := o ++ ((t.1.drop i).map (ev w.now 0) ++ w.stations.2.arq.inds.map (ev w.now 1)) }
 | 0, i, o, k, ht, hi, ho, hk => by
  obtain ⟨k, rfl⟩ : ∃ j, k = j + 1 := ⟨k - 1, by omega⟩
  rw [signalman_player_inds.l0, if_neg (by omega), List.drop_eq_nil_of_le (by omega)]
  unfold station_Station_Inds.f arq_Arq_Inds.f
  rw [bsome, bsome]
  exact inds_l1 (w.stations.2.arq.inds, clr w.stations.2) { w with stations := (w.stations.1, clr w.stations.2) } w.stations.2.arq.inds.length 0 o k hw (by dsimp only; omega) (by omega) (by omega)
 | d + 1, i, o, k, ht, hi, ho, hk => by
  obtain ⟨k, rfl⟩ : ∃ j, k = j + 1 := ⟨k - 1, by omega⟩
  have hlt : i < t.1.length := by omega
  have eg : t.1.getD ((i : Int)).toNat 0 = t.1[i] := by simp [List.getD, hlt]
  rw [signalman_player_inds.l0, if_pos (by omega), if_pos (by omega)]
  unfold world_World_Now.f
  rw [bsome, if_pos (by simp only [List.length_cons, List.length_nil]; omega), w64_in ⟨by omega, by omega⟩, eg]
  have r := inds_l0 t w hw d (i + 1) (o ++ [ev w.now 0 t.1[i]]) k ht (by omega) (by rw [List.length_append]; simp; omega) (by omega)
  rw [show ((i : Int) + 1) = ((i + 1 : Nat) : Int) by omega]
  refine Eq.trans r ?_
  rw [← List.getElem_cons_drop hlt, List.map_cons, List.append_assoc]; rfl
theorem inds_eq (p : signalman_player) (h : p.out.length + pot p.w.stations.1.arq + pot p.w.stations.2.arq ≤ 1000000000000) {k : Nat} (hk : 1000000000010 ≤ k) : signalman_player_inds.f k p = some (indsP p) := by
 unfold Po.pot at h
 unfold signalman_player_inds.f station_Station_Inds.f arq_Arq_Inds.f
 rw [bsome, bsome]
 exact inds_l0 (p.w.stations.1.arq.inds, clr p.w.stations.1) { p.w with stations := (clr p.w.stations.1, p.w.stations.2) } (by dsimp only; omega) p.w.stations.1.arq.inds.length 0 p.out k (by dsimp only; omega) (by dsimp only; omega) (by dsimp only; omega) (by dsimp only; omega)
structure PL (p : signalman_player) (C N P : Nat) (S1 S2 : Int) : Prop where
 w : WI p.w C C N P S1 S2
 pot : p.out.length + (pot p.w.stations.1.arq + pot p.w.stations.2.arq) ≤ P
theorem clr_si {s : station_Station} {C : Nat} {S : Int} (h : SI s C S) : SI (clr s) C S := { h with arq := { h.arq with inds := Nat.zero_le _ }, bo := { h.bo with } }
theorem clr_pot (s : station_Station) : pot (clr s).arq + s.arq.inds.length = pot s.arq := by unfold Po.pot clr; dsimp only; simp; omega
theorem inds_pl {p : signalman_player} {C N P : Nat} {S1 S2 : Int} (h : PL p C N P S1 S2) : PL (indsP p) C N P S1 S2 := by
 have e1 := clr_pot p.w.stations.1
 have e2 := clr_pot p.w.stations.2
 have hp := h.pot
 refine ⟨{ h.w with one := clr_si h.w.one, two := clr_si h.w.two, pot := ?_ }, ?_⟩
 ·show pot (clr p.w.stations.1).arq + pot (clr p.w.stations.2).arq ≤ P; omega
 ·show (p.out ++ _).length + (pot (clr p.w.stations.1).arq + pot (clr p.w.stations.2).arq) ≤ P
  rw [List.length_append, List.length_append, List.length_map, List.length_map]; omega
def one (k : Nat) (p : signalman_player) : Option signalman_player := (world_World_Step.f k p.w).bind fun t => signalman_player_inds.f k { w := t, out := p.out }
def Many (K : Nat) : Nat → signalman_player → signalman_player → Prop
 | 0, p, q => q = p
 | n + 1, p, q => ∃ m, (∀ k, K ≤ k → one k p = some m) ∧ Many K n m q
theorem steps_l0 {K : Nat} {a : Int} : ∀ (n : Nat) (i : Int) (p q : signalman_player) (k : Nat), 0 ≤ i → i ≤ 100000 → (i + n = imin a 100000 ∨ n = 0 ∧ imin a 100000 ≤ i) → Many K n p q → K + n + 1 ≤ k → signalman_player_steps.l0 k a i p = some q
 | 0, i, p, q, k, h0, h1, h2, h, hk => by
  obtain ⟨k, rfl⟩ : ∃ j, k = j + 1 := ⟨k - 1, by omega⟩
  rw [signalman_player_steps.l0, if_neg (by omega), h]
 | n + 1, i, p, q, k, h0, h1, h2, h, hk => by
  obtain ⟨k, rfl⟩ : ∃ j, k = j + 1 := ⟨k - 1, by omega⟩
  obtain ⟨m, hm, h3⟩ := h
  have hle : imin a 100000 ≤ 100000 := by unfold imin; split <;> omega
  have e := hm k (by omega)
  unfold one at e
  obtain ⟨t, ht, hi⟩ := Option.bind_eq_some_iff.1 e
  rw [signalman_player_steps.l0, if_pos (by omega), ht, bsome, hi, bsome, w64_in ⟨by omega, by omega⟩]
  exact steps_l0 n (i + 1) m q k (by omega) (by omega) (by omega) h3 (by omega)
def KK : Nat := 3000000000000
theorem one_ok {p : signalman_player} {C N P : Nat} {S1 S2 : Int} (h : PL p C N P S1 S2) (hC : C + 400000000 ≤ big) (hN : N ≤ 900000000000) (hP : P ≤ 900000000000) :
  ∃ q, (∀ k, KK ≤ k → one k p = some q) ∧ PL q (C + 106510000) (N + 1070000) (P + 17000) S1 S2 ∧ q.w.stations.1.arq.inds = [] ∧ q.w.stations.2.arq.inds = [] ∧ ∃ e, q.out = p.out ++ e := by
 have hw : WI p.w C C N (pot p.w.stations.1.arq + pot p.w.stations.2.arq) S1 S2 := { h.w with pot := Nat.le_refl _ }
 have hb : big = 1000000000000 := rfl
 obtain ⟨r, hr, r1⟩ := wstep hw hC hC hN
 have hp := h.pot
 have rp := r1.pot
 have r2 : PL { w := r, out := p.out } (C + 106510000) (N + 1070000) (P + 17000) S1 S2 := ⟨r1.more (Nat.le_refl _) (Nat.le_refl _) (Nat.le_refl _) (by omega), by dsimp only; omega⟩
 refine ⟨indsP { w := r, out := p.out }, fun k hk => ?_, inds_pl r2, rfl, rfl, _, rfl⟩
 unfold KK at hk
 unfold one
 rw [hr k (by omega), bsome, inds_eq _ (by dsimp only; omega) (by omega)]
theorem many_ok {a b c : Nat} (ha : a = 106510000) (hb : b = 1070000) (hc : c = 17000) : ∀ (n : Nat) {p : signalman_player} {C N P : Nat} {S1 S2 : Int}, PL p C N P S1 S2 → C + a * n + 400000000 ≤ big → N + b * n ≤ 900000000000 → P + c * n ≤ 900000000000 →
  ∃ q, Many KK n p q ∧ PL q (C + a * n) (N + b * n) (P + c * n) S1 S2 ∧ (0 < n → q.w.stations.1.arq.inds = [] ∧ q.w.stations.2.arq.inds = []) ∧ ∃ e, q.out = p.out ++ e
 | 0, p, C, N, P, S1, S2, h, _, _, _ => by
  refine ⟨p, rfl, ?_, fun q => absurd q (by omega), [], (List.append_nil _).symm⟩
  rw [Nat.mul_zero, Nat.mul_zero, Nat.mul_zero]; exact h
 | n + 1, p, C, N, P, S1, S2, h, hC, hN, hP => by
  have e1 : a * (n + 1) = a * n + a := Nat.mul_succ a n
  have e2 : b * (n + 1) = b * n + b := Nat.mul_succ b n
  have e3 : c * (n + 1) = c * n + c := Nat.mul_succ c n
  obtain ⟨m, hm, m1, m2, m3, e, he⟩ := one_ok h (by omega) (by omega) (by omega)
  rw [← ha, ← hb, ← hc] at m1
  obtain ⟨q, hq, q1, q2, e', he'⟩ := many_ok ha hb hc n m1 (by omega) (by omega) (by omega)
  refine ⟨q, ⟨m, hm, hq⟩, ⟨q1.w.more (by omega) (by omega) (by omega) (by omega), Nat.le_trans q1.pot (by omega)⟩, fun _ => ?_, e ++ e', by rw [he', he, List.append_assoc]⟩
  cases n with
  | zero => rw [show q = m from hq]; exact ⟨m2, m3⟩
  | succ n => exact q2 (by omega)
end Pl
namespace Pl
open Fr (By)
open Aq (AI big)
open St
open Po (pot)
open Wg
theorem pfault {p : pipe_Pipe} (h : PP p) (kd n : Int) {c : Int} (hc : 0 ≤ c ∧ c < 256) : ∃ r : Bool × pipe_Pipe, pipe_Pipe_Fault.f p kd n c = some r ∧ PP r.2 := by
 have hr := h.room
 have hl := h.len
 unfold pipe_Pipe_Fault.f
 by_cases k0 : kd = 0
 ·rw [if_pos k0]; exact ⟨_, rfl, hr, hl, h.by_⟩
 rw [if_neg k0]
 by_cases k1 : kd = 1
 ·rw [if_pos k1]; exact ⟨_, rfl, hr, hl, h.by_⟩
 rw [if_neg k1]
 by_cases k2 : kd = 2
 ·rw [if_pos k2]; exact ⟨_, rfl, hr, hl, h.by_⟩
 rw [if_neg k2]
 by_cases k3 : kd = 3
 ·rw [if_pos k3]
  obtain ⟨t, ht, h1, _⟩ := pgone h n
  rw [ht, bsome]; exact ⟨_, rfl, h1⟩
 rw [if_neg k3]
 by_cases k4 : kd = 4
 ·rw [if_pos k4]
  have no : ∃ r : Bool × pipe_Pipe, pipe_Pipe_Fault.j0 p n c true = some r ∧ PP r.2 := ⟨_, by unfold pipe_Pipe_Fault.j0; rw [if_pos rfl], h⟩
  by_cases n0 : n < 0
  ·rw [if_pos n0]; exact no
  rw [if_neg n0]
  by_cases n1 : n ≥ (p.b.length : Int)
  ·rw [decide_eq_true n1]; exact no
  ·rw [decide_eq_false n1]
   unfold pipe_Pipe_Fault.j0
   rw [if_neg (by decide), if_pos (by omega)]
   refine ⟨_, rfl, hr, by dsimp only; rw [List.length_set]; exact hl, fun z hz => ?_⟩
   rcases List.mem_or_eq_of_mem_set hz with q | q
   ·exact h.by_ z q
   ·exact q ▸ hc
 rw [if_neg k4]
 by_cases k5 : kd = 5
 ·rw [if_pos k5]
  have no : ∃ r : Bool × pipe_Pipe, pipe_Pipe_Fault.j1 p n c true = some r ∧ PP r.2 := ⟨_, by unfold pipe_Pipe_Fault.j1; rw [if_pos rfl], h⟩
  by_cases n0 : n < 0
  ·rw [if_pos n0]; exact no
  rw [if_neg n0]
  by_cases n1 : n > (p.b.length : Int)
  ·rw [if_pos n1]; exact no
  rw [if_neg n1]
  unfold pipe_Pipe_Room.f
  rw [bsome, w64_in ⟨by omega, by omega⟩]
  by_cases n2 : p.room - (p.b.length : Int) = 0
  ·rw [decide_eq_true n2]; exact no
  ·rw [decide_eq_false n2]
   have hB : By [c] := fun z hz => by simp at hz; omega
   unfold pipe_Pipe_Fault.j1 slices_Insert_Sbytebyte.f
   rw [if_neg (by decide), if_pos ⟨by omega, by omega, by omega⟩, if_neg (show ¬ (([c] : List Int).length : Int) = 0 by simp)]
   by_cases n3 : n = (p.b.length : Int)
   ·rw [if_pos n3, if_pos (by simp only [List.length_cons, List.length_nil]; omega), bsome]
    exact ⟨_, rfl, hr, by dsimp only; rw [List.length_append]; simp; omega, Fr.By.app h.by_ hB⟩
   ·rw [if_neg n3, if_pos (by simp only [List.length_cons, List.length_nil]; omega), bsome]
    exact ⟨_, rfl, hr, by dsimp only; rw [List.length_append, List.length_append, List.length_take, List.length_drop]; simp; omega, Fr.By.app (Fr.By.app (fun z hz => h.by_ z (List.mem_of_mem_take hz)) hB) (fun z hz => h.by_ z (List.mem_of_mem_drop hz))⟩
 rw [if_neg k5]; exact ⟨_, rfl, h⟩
theorem fault_ok {w : world_World} {C1 C2 N P : Nat} {S1 S2 : Int} (h : WI w C1 C2 N P S1 S2) (a b kd n : Int) {c : Int} (hc : 0 ≤ c ∧ c < 256) : ∃ r : Bool × world_World, world_World_Fault.f w a b kd n c = some r ∧ WI r.2 C1 C2 N P S1 S2 ∧ r.2.stations = w.stations := by
 have no : ∃ r : Bool × world_World, (some (false, w) : Option (Bool × world_World)) = some r ∧ WI r.2 C1 C2 N P S1 S2 ∧ r.2.stations = w.stations := ⟨_, rfl, h, rfl⟩
 unfold world_World_Fault.f
 by_cases a0 : a ≥ 0
 ·by_cases a1 : a < 2
  ·by_cases b0 : b ≥ 0
   ·by_cases b1 : b < 2
    ·rw [if_pos a0, if_pos a1, if_pos b0, if_pos b1, if_pos ⟨a0, a1⟩]
     by_cases a2 : a = 0
     ·rw [if_pos a2, if_pos ⟨b0, b1⟩]
      by_cases b2 : b = 0
      ·obtain ⟨t, ht, h1⟩ := pfault h.y11.pipe kd n hc
       rw [if_pos b2, ht, bsome]; exact ⟨_, rfl, { h with y11 := ⟨h1, h.y11.got, h.y11.sent⟩ }, rfl⟩
      ·obtain ⟨t, ht, h1⟩ := pfault h.y12.pipe kd n hc
       rw [if_neg b2, ht, bsome]; exact ⟨_, rfl, { h with y12 := ⟨h1, h.y12.got, h.y12.sent⟩ }, rfl⟩
     ·rw [if_neg a2, if_pos ⟨b0, b1⟩]
      by_cases b2 : b = 0
      ·obtain ⟨t, ht, h1⟩ := pfault h.y21.pipe kd n hc
       rw [if_pos b2, ht, bsome]; exact ⟨_, rfl, { h with y21 := ⟨h1, h.y21.got, h.y21.sent⟩ }, rfl⟩
      ·obtain ⟨t, ht, h1⟩ := pfault h.y22.pipe kd n hc
       rw [if_neg b2, ht, bsome]; exact ⟨_, rfl, { h with y22 := ⟨h1, h.y22.got, h.y22.sent⟩ }, rfl⟩
    ·rw [if_pos a0, if_pos a1, if_pos b0, if_neg b1]; exact no
   ·rw [if_pos a0, if_pos a1, if_neg b0]; exact no
  ·rw [if_pos a0, if_neg a1]; exact no
 ·rw [if_neg a0]; exact no
theorem acom_ok (a : aps_Aps) (n : Int) : ∃ r, aps_Aps_Command.f a n = some r := by
 have j1 : ∀ b, ∃ r, aps_Aps_Command.j1 a n b = some r := by intro b; unfold aps_Aps_Command.j1; split <;> exact ⟨_, rfl⟩
 have j0 : ∀ b, ∃ r, aps_Aps_Command.j0 a n b = some r := by
  intro b; unfold aps_Aps_Command.j0
  split
  ·exact ⟨_, rfl⟩
  split
  ·split
   ·exact j1 _
   ·exact j1 _
  ·exact j1 _
 unfold aps_Aps_Command.f
 split
 ·exact j0 _
 ·exact j0 _
theorem wrong_ok (b : Bool) : ∃ r, signalman_wrong.f b = some r := by unfold signalman_wrong.f; split <;> exact ⟨_, rfl⟩
theorem first_ok {b : List Int} (h : By b) : ∃ r, signalman_first.f b = some r ∧ 0 ≤ r ∧ r < 256 := by
 unfold signalman_first.f
 split
 ·exact ⟨0, rfl, by decide, by decide⟩
 ·rw [if_pos (by omega)]
  refine ⟨_, rfl, ?_⟩
  cases b with
  | nil => simp at *
  | cons x b => exact h x (List.mem_cons_self ..)
def onA (s : station_Station) (a : arq_Arq) : station_Station := { s with arq := a }
theorem onA_si {s : station_Station} {C D : Nat} {S T : Int} (h : SI s C S) (l : C ≤ D) {a : arq_Arq} (ha : AI a D) (hb : Bo.BO a T) : SI (onA s a) D T :=
 ⟨h.keep, ha, hb, h.tw, h.num, by have := h.steps; show 0 ≤ s.steps ∧ s.steps ≤ (D : Int); omega, h.one, h.two⟩
theorem recv_nil {s : station_Station} (h : s.arq.order.ready = []) : station_Station_Recv.f s = some ([], false, s) := by
 unfold station_Station_Recv.f arq_Arq_Recv.f
 rw [Or.take_nil h, bsome, bsome]
theorem recv_cons {s : station_Station} {b : List Int} {r : List (List Int)} (h : s.arq.order.ready = b :: r) : station_Station_Recv.f s = some (b, true, onA s { s.arq with order := Or.ost s.arq.order s.arq.order.next s.arq.order.kept r }) := by
 unfold station_Station_Recv.f arq_Arq_Recv.f
 rw [Or.take_cons h, bsome, bsome]; rfl
theorem recv_si {s : station_Station} {C : Nat} {S : Int} (h : SI s C S) {b : List Int} {r : List (List Int)} (e : s.arq.order.ready = b :: r) : SI (onA s { s.arq with order := Or.ost s.arq.order s.arq.order.next s.arq.order.kept r }) C S := by
 have hh := h.arq.ord.held
 rw [e, List.length_cons] at hh
 exact onA_si h (Nat.le_refl _) { h.arq with ord := ⟨h.arq.ord.hm, h.arq.ord.hwin, h.arq.ord.hnext, by show s.arq.order.kept.length + r.length ≤ C; omega⟩ } { h.bo with }
theorem recv_pot {s : station_Station} {b : List Int} {r : List (List Int)} (e : s.arq.order.ready = b :: r) : pot (onA s { s.arq with order := Or.ost s.arq.order s.arq.order.next s.arq.order.kept r }).arq + 1 = pot s.arq := by
 unfold Po.pot; show s.arq.inds.length + (s.arq.order.kept.length + r.length) + 1 = _; rw [e, List.length_cons]; omega
def hear (n a : Int) (b : List Int) : api_Event := { Step := n, At := a, Ind := 0, B := b }
theorem recv_l0 (p : signalman_player) (z : api_Op) : ∀ (d : Nat) (s : station_Station) (o : List api_Event), s.arq.order.ready.length = d → o.length + d ≤ 1000000000000 →
  ∃ (e : List api_Event) (x : station_Station), (∀ k, d + 2 ≤ k → ((station_Station_Recv.f s).bind fun t => signalman_player_do.l0 k p z t.2.1 t.1 t.2.2 o) = some (0, { w := { p.w with stations := (x, p.w.stations.2) }, out := o ++ e })) ∧ (∀ C S, SI s C S → SI x C S) ∧ pot x.arq + e.length = pot s.arq
 | 0, s, o, hd, ho => by
  have e := List.eq_nil_of_length_eq_zero hd
  refine ⟨[], s, fun k hk => ?_, fun _ _ q => q, rfl⟩
  obtain ⟨k, rfl⟩ : ∃ j, k = j + 1 := ⟨k - 1, by omega⟩
  rw [recv_nil e, bsome, signalman_player_do.l0, if_neg (by simp), List.append_nil]
 | d + 1, s, o, hd, ho => by
  cases e : s.arq.order.ready with
  | nil => rw [e] at hd; cases hd
  | cons b r =>
   rw [e, List.length_cons] at hd
   obtain ⟨e', x, hx, x1, x2⟩ := recv_l0 p z d (onA s { s.arq with order := Or.ost s.arq.order s.arq.order.next s.arq.order.kept r }) (o ++ [hear p.w.now z.At b]) (by show r.length = d; omega) (by rw [List.length_append]; simp; omega)
   refine ⟨hear p.w.now z.At b :: e', x, fun k hk => ?_, fun C S q => x1 C S (recv_si q e), by have := recv_pot e; rw [List.length_cons]; omega⟩
   obtain ⟨k, rfl⟩ : ∃ j, k = j + 1 := ⟨k - 1, by omega⟩
   rw [recv_cons e, bsome, signalman_player_do.l0, if_pos rfl]
   unfold world_World_Now.f
   rw [bsome, if_pos (by simp only [List.length_cons, List.length_nil]; omega)]
   refine Eq.trans (hx k (by omega)) ?_
   rw [List.append_assoc]; rfl
theorem recv_l1 (p : signalman_player) (z : api_Op) : ∀ (d : Nat) (s : station_Station) (o : List api_Event), s.arq.order.ready.length = d → o.length + d ≤ 1000000000000 →
  ∃ (e : List api_Event) (x : station_Station), (∀ k, d + 2 ≤ k → ((station_Station_Recv.f s).bind fun t => signalman_player_do.l1 k p z t.2.1 t.1 t.2.2 o) = some (0, { w := { p.w with stations := (p.w.stations.1, x) }, out := o ++ e })) ∧ (∀ C S, SI s C S → SI x C S) ∧ pot x.arq + e.length = pot s.arq
 | 0, s, o, hd, ho => by
  have e := List.eq_nil_of_length_eq_zero hd
  refine ⟨[], s, fun k hk => ?_, fun _ _ q => q, rfl⟩
  obtain ⟨k, rfl⟩ : ∃ j, k = j + 1 := ⟨k - 1, by omega⟩
  rw [recv_nil e, bsome, signalman_player_do.l1, if_neg (by simp), List.append_nil]
 | d + 1, s, o, hd, ho => by
  cases e : s.arq.order.ready with
  | nil => rw [e] at hd; cases hd
  | cons b r =>
   rw [e, List.length_cons] at hd
   obtain ⟨e', x, hx, x1, x2⟩ := recv_l1 p z d (onA s { s.arq with order := Or.ost s.arq.order s.arq.order.next s.arq.order.kept r }) (o ++ [hear p.w.now z.At b]) (by show r.length = d; omega) (by rw [List.length_append]; simp; omega)
   refine ⟨hear p.w.now z.At b :: e', x, fun k hk => ?_, fun C S q => x1 C S (recv_si q e), by have := recv_pot e; rw [List.length_cons]; omega⟩
   obtain ⟨k, rfl⟩ : ∃ j, k = j + 1 := ⟨k - 1, by omega⟩
   rw [recv_cons e, bsome, signalman_player_do.l1, if_pos rfl]
   unfold world_World_Now.f
   rw [bsome, if_pos (by simp only [List.length_cons, List.length_nil]; omega)]
   refine Eq.trans (hx k (by omega)) ?_
   rw [List.append_assoc]; rfl
end Pl
namespace Pl
open Fr (By)
open Aq (AI big)
open St
open Po (pot)
open Wg
def upS (z : api_Op) (at_ e S : Int) : Int := S + if z.Kind = 4 ∧ z.At = at_ ∧ e = 0 then 1 else 0
theorem upS_no {z : api_Op} (h : z.Kind ≠ 4) (at_ e S : Int) : upS z at_ e S = S := by unfold upS; rw [if_neg (fun q => h q.1), Int.add_zero]
theorem upS_at {z : api_Op} {at_ : Int} (h : z.At ≠ at_) (e S : Int) : upS z at_ e S = S := by unfold upS; rw [if_neg (fun q => h q.2.1), Int.add_zero]
def cost (z : api_Op) : Nat := if z.Kind = 1 then (imin z.N 100000).toNat else 0
theorem st_connect {s : station_Station} {C : Nat} {S : Int} (h : SI s C S) (hC : C + 30000 ≤ big) {k : Nat} (hk : 20 ≤ k) : station_Station_Connect.f k s = some ((Aq.connect s.arq).1, onA s (Aq.connect s.arq).2) := by
 unfold station_Station_Connect.f; rw [Aq.connect_eq h.arq (by omega) hk, bsome]; rfl
theorem st_close {s : station_Station} {C : Nat} {S : Int} (h : SI s C S) (hC : C + 30000 ≤ big) {k : Nat} (hk : 20 ≤ k) : station_Station_Close.f k s = some ((Aq.close s.arq).1, onA s (Aq.close s.arq).2) := by
 unfold station_Station_Close.f; rw [Aq.close_eq h.arq (by omega) hk, bsome]; rfl
theorem st_send {s : station_Station} {C : Nat} {S : Int} (h : SI s C S) (hC : C + 30000 ≤ big) (b : List Int) {k : Nat} (hk : 5000 ≤ k) : station_Station_Send.f k s b = some ((Aq.send s.arq b).1, onA s (Aq.send s.arq b).2) := by
 unfold station_Station_Send.f; rw [Aq.send_eq h.arq (by omega) b hk, bsome]; rfl
variable {p : signalman_player} {C N P : Nat} {S1 S2 : Int}
theorem PL.more {D M Q : Nat} (h : PL p C N P S1 S2) (l1 : C ≤ D) (l2 : N ≤ M) (l3 : P ≤ Q) : PL p D M Q S1 S2 := ⟨h.w.more l1 l1 l2 l3, Nat.le_trans h.pot l3⟩
theorem set0 (h : PL p C N P S1 S2) {a : arq_Arq} {T : Int} (ha : AI a (C + 20000)) (hb : Bo.BO a T) (hp : pot a ≤ pot p.w.stations.1.arq) : PL { w := { p.w with stations := (onA p.w.stations.1 a, p.w.stations.2) }, out := p.out } (C + 20000) N P T S2 := by
 have h1 := h.pot
 have h2 := h.w.pot
 refine ⟨{ h.w.more (D1 := C + 20000) (D2 := C + 20000) (M := N) (Q := P) (by omega) (by omega) (by omega) (by omega) with one := onA_si h.w.one (by omega) ha hb, pot := ?_ }, ?_⟩
 ·show pot a + pot p.w.stations.2.arq ≤ P; omega
 ·show p.out.length + (pot a + pot p.w.stations.2.arq) ≤ P; omega
theorem set1 (h : PL p C N P S1 S2) {a : arq_Arq} {T : Int} (ha : AI a (C + 20000)) (hb : Bo.BO a T) (hp : pot a ≤ pot p.w.stations.2.arq) : PL { w := { p.w with stations := (p.w.stations.1, onA p.w.stations.2 a) }, out := p.out } (C + 20000) N P S1 T := by
 have h1 := h.pot
 have h2 := h.w.pot
 refine ⟨{ h.w.more (D1 := C + 20000) (D2 := C + 20000) (M := N) (Q := P) (by omega) (by omega) (by omega) (by omega) with two := onA_si h.w.two (by omega) ha hb, pot := ?_ }, ?_⟩
 ·show pot p.w.stations.1.arq + pot a ≤ P; omega
 ·show p.out.length + (pot p.w.stations.1.arq + pot a) ≤ P; omega
def Done (p : signalman_player) (z : api_Op) (e : Int) (q : signalman_player) : Prop := ∀ k, KK + 200000 ≤ k → signalman_player_do.f k p z = some (e, q)
theorem do_0 (h : PL p C N P S1 S2) (hC : C + 1000000 ≤ big) (hP : P ≤ 900000000000) {z : api_Op} (k1 : z.Kind ≠ 1) (k7 : z.Kind ≠ 7) (ha : z.At = 0) (hB : By z.B) :
  ∃ e q, Done p z e q ∧ PL q (C + 20000) N P (upS z 0 e S1) (upS z 1 e S2) ∧ ∃ e', q.out = p.out ++ e' := by
 have ho := h.w.one
 have hpot := h.pot
 have KKv : KK = 3000000000000 := rfl
 have other : ∀ e S, upS z 1 e S = S := fun e S => upS_at (by omega) e S
 have head : ∀ k, signalman_player_do.f k p z = (if z.Kind = 2 then ((station_Station_Connect.f k p.w.stations.1).bind fun t => some (t.1, ({ w := { p.w with stations := (t.2, p.w.stations.2) }, out := p.out } : signalman_player))) else if z.Kind = 3 then ((station_Station_Close.f k p.w.stations.1).bind fun t => some (t.1, { w := { p.w with stations := (t.2, p.w.stations.2) }, out := p.out }))
   else if z.Kind = 4 then ((station_Station_Send.f k p.w.stations.1 z.B).bind fun t => some (t.1, { w := { p.w with stations := (t.2, p.w.stations.2) }, out := p.out })) else if z.Kind = 5 then ((station_Station_Recv.f p.w.stations.1).bind fun t => signalman_player_do.l0 k p z t.2.1 t.1 t.2.2 p.out)
   else if z.Kind = 6 then ((station_Station_Command.f p.w.stations.1 z.N).bind fun t => (signalman_wrong.f (!t.1)).bind fun u => some (u, { w := { p.w with stations := (t.2, p.w.stations.2) }, out := p.out })) else some (1, p)) := by
  intro k
  unfold signalman_player_do.f
  rw [if_neg k1, if_neg k7, if_pos (by omega), if_pos (by omega), if_pos (by omega), if_pos ha]
 by_cases k2 : z.Kind = 2
 ·refine ⟨(Aq.connect p.w.stations.1.arq).1, { w := { p.w with stations := (onA p.w.stations.1 (Aq.connect p.w.stations.1.arq).2, p.w.stations.2) }, out := p.out }, fun k hk => ?_, ?_, [], (List.append_nil _).symm⟩
  ·rw [head, if_pos k2, st_connect ho (by omega) (by omega), bsome]
  ·rw [upS_no (by omega), upS_no (by omega)]
   exact set0 h ((Aq.connect_ai ho.arq).more (by omega)) (Bo.connect ho.arq ho.bo) (by rw [Po.connect]; exact Nat.le_refl _)
 by_cases k3 : z.Kind = 3
 ·refine ⟨(Aq.close p.w.stations.1.arq).1, { w := { p.w with stations := (onA p.w.stations.1 (Aq.close p.w.stations.1.arq).2, p.w.stations.2) }, out := p.out }, fun k hk => ?_, ?_, [], (List.append_nil _).symm⟩
  ·rw [head, if_neg k2, if_pos k3, st_close ho (by omega) (by omega), bsome]
  ·rw [upS_no (by omega), upS_no (by omega)]
   exact set0 h ((Aq.close_ai ho.arq).more (by omega)) (Bo.close ho.arq ho.bo) Po.close
 by_cases k4 : z.Kind = 4
 ·refine ⟨(Aq.send p.w.stations.1.arq z.B).1, { w := { p.w with stations := (onA p.w.stations.1 (Aq.send p.w.stations.1.arq z.B).2, p.w.stations.2) }, out := p.out }, fun k hk => ?_, ?_, [], (List.append_nil _).symm⟩
  ·rw [head, if_neg k2, if_neg k3, if_pos k4, st_send ho (by omega) z.B (by omega), bsome]
  ·rw [other]
   have e : ∀ S, upS z 0 (Aq.send p.w.stations.1.arq z.B).1 S = S + if (Aq.send p.w.stations.1.arq z.B).1 = 0 then 1 else 0 := by
    intro S; unfold upS
    by_cases c : (Aq.send p.w.stations.1.arq z.B).1 = 0
    ·rw [if_pos c, if_pos ⟨k4, ha, c⟩]
    ·rw [if_neg c, if_neg (fun q => c q.2.2)]
   rw [e]
   exact set0 h ((Aq.send_ai ho.arq z.B).more (by omega)) (Bo.send ho.arq ho.bo hB) (by rw [Po.send]; exact Nat.le_refl _)
 by_cases k5 : z.Kind = 5
 ·obtain ⟨e', x, hx, x1, x2⟩ := recv_l0 p z p.w.stations.1.arq.order.ready.length p.w.stations.1 p.out rfl (by unfold Po.pot at hpot; omega)
  refine ⟨0, { w := { p.w with stations := (x, p.w.stations.2) }, out := p.out ++ e' }, fun k hk => ?_, ?_, e', rfl⟩
  ·rw [head, if_neg k2, if_neg k3, if_neg k4, if_pos k5]
   exact hx k (by unfold Po.pot at hpot; omega)
  ·rw [upS_no (by omega), upS_no (by omega)]
   have h2 := h.w.pot
   refine ⟨{ h.w.more (D1 := C + 20000) (D2 := C + 20000) (M := N) (Q := P) (by omega) (by omega) (by omega) (by omega) with one := (x1 _ _ ho).more (by omega), pot := ?_ }, ?_⟩
   ·dsimp only; omega
   ·dsimp only; rw [List.length_append]; omega
 by_cases k6 : z.Kind = 6
 ·obtain ⟨a, hac⟩ := acom_ok p.w.stations.1.aps z.N
  obtain ⟨u, hu⟩ := wrong_ok (!a.1)
  refine ⟨u, { w := { p.w with stations := ({ p.w.stations.1 with aps := a.2 }, p.w.stations.2) }, out := p.out }, fun k hk => ?_, ?_, [], (List.append_nil _).symm⟩
  ·rw [head, if_neg k2, if_neg k3, if_neg k4, if_neg k5, if_pos k6]
   unfold station_Station_Command.f
   rw [hac, bsome, bsome, hu, bsome]
  ·rw [upS_no (by omega), upS_no (by omega)]
   exact ⟨{ h.w.more (D1 := C + 20000) (D2 := C + 20000) (M := N) (Q := P) (by omega) (by omega) (by omega) (by omega) with one := { ho.more (D := C + 20000) (by omega) with } }, h.pot⟩
 ·refine ⟨1, p, fun k hk => by rw [head, if_neg k2, if_neg k3, if_neg k4, if_neg k5, if_neg k6], ?_, [], (List.append_nil _).symm⟩
  rw [upS_no k4, upS_no k4]
  exact h.more (by omega) (Nat.le_refl _) (Nat.le_refl _)
theorem do_1 (h : PL p C N P S1 S2) (hC : C + 1000000 ≤ big) (hP : P ≤ 900000000000) {z : api_Op} (k1 : z.Kind ≠ 1) (k7 : z.Kind ≠ 7) (ha : z.At = 1) (hB : By z.B) :
  ∃ e q, Done p z e q ∧ PL q (C + 20000) N P (upS z 0 e S1) (upS z 1 e S2) ∧ ∃ e', q.out = p.out ++ e' := by
 have ho := h.w.two
 have hpot := h.pot
 have KKv : KK = 3000000000000 := rfl
 have other : ∀ e S, upS z 0 e S = S := fun e S => upS_at (by omega) e S
 have head : ∀ k, signalman_player_do.f k p z = (if z.Kind = 2 then ((station_Station_Connect.f k p.w.stations.2).bind fun t => some (t.1, ({ w := { p.w with stations := (p.w.stations.1, t.2) }, out := p.out } : signalman_player))) else if z.Kind = 3 then ((station_Station_Close.f k p.w.stations.2).bind fun t => some (t.1, { w := { p.w with stations := (p.w.stations.1, t.2) }, out := p.out }))
   else if z.Kind = 4 then ((station_Station_Send.f k p.w.stations.2 z.B).bind fun t => some (t.1, { w := { p.w with stations := (p.w.stations.1, t.2) }, out := p.out })) else if z.Kind = 5 then ((station_Station_Recv.f p.w.stations.2).bind fun t => signalman_player_do.l1 k p z t.2.1 t.1 t.2.2 p.out)
   else if z.Kind = 6 then ((station_Station_Command.f p.w.stations.2 z.N).bind fun t => (signalman_wrong.f (!t.1)).bind fun u => some (u, { w := { p.w with stations := (p.w.stations.1, t.2) }, out := p.out })) else some (1, p)) := by
  intro k
  unfold signalman_player_do.f
  rw [if_neg k1, if_neg k7, if_pos (by omega), if_pos (by omega), if_pos (by omega), if_neg (by omega)]
 by_cases k2 : z.Kind = 2
 ·refine ⟨(Aq.connect p.w.stations.2.arq).1, { w := { p.w with stations := (p.w.stations.1, onA p.w.stations.2 (Aq.connect p.w.stations.2.arq).2) }, out := p.out }, fun k hk => ?_, ?_, [], (List.append_nil _).symm⟩
  ·rw [head, if_pos k2, st_connect ho (by omega) (by omega), bsome]
  ·rw [upS_no (by omega), upS_no (by omega)]
   exact set1 h ((Aq.connect_ai ho.arq).more (by omega)) (Bo.connect ho.arq ho.bo) (by rw [Po.connect]; exact Nat.le_refl _)
 by_cases k3 : z.Kind = 3
 ·refine ⟨(Aq.close p.w.stations.2.arq).1, { w := { p.w with stations := (p.w.stations.1, onA p.w.stations.2 (Aq.close p.w.stations.2.arq).2) }, out := p.out }, fun k hk => ?_, ?_, [], (List.append_nil _).symm⟩
  ·rw [head, if_neg k2, if_pos k3, st_close ho (by omega) (by omega), bsome]
  ·rw [upS_no (by omega), upS_no (by omega)]
   exact set1 h ((Aq.close_ai ho.arq).more (by omega)) (Bo.close ho.arq ho.bo) Po.close
 by_cases k4 : z.Kind = 4
 ·refine ⟨(Aq.send p.w.stations.2.arq z.B).1, { w := { p.w with stations := (p.w.stations.1, onA p.w.stations.2 (Aq.send p.w.stations.2.arq z.B).2) }, out := p.out }, fun k hk => ?_, ?_, [], (List.append_nil _).symm⟩
  ·rw [head, if_neg k2, if_neg k3, if_pos k4, st_send ho (by omega) z.B (by omega), bsome]
  ·rw [other]
   have e : ∀ S, upS z 1 (Aq.send p.w.stations.2.arq z.B).1 S = S + if (Aq.send p.w.stations.2.arq z.B).1 = 0 then 1 else 0 := by
    intro S; unfold upS
    by_cases c : (Aq.send p.w.stations.2.arq z.B).1 = 0
    ·rw [if_pos c, if_pos ⟨k4, ha, c⟩]
    ·rw [if_neg c, if_neg (fun q => c q.2.2)]
   rw [e]
   exact set1 h ((Aq.send_ai ho.arq z.B).more (by omega)) (Bo.send ho.arq ho.bo hB) (by rw [Po.send]; exact Nat.le_refl _)
 by_cases k5 : z.Kind = 5
 ·obtain ⟨e', x, hx, x1, x2⟩ := recv_l1 p z p.w.stations.2.arq.order.ready.length p.w.stations.2 p.out rfl (by unfold Po.pot at hpot; omega)
  refine ⟨0, { w := { p.w with stations := (p.w.stations.1, x) }, out := p.out ++ e' }, fun k hk => ?_, ?_, e', rfl⟩
  ·rw [head, if_neg k2, if_neg k3, if_neg k4, if_pos k5]
   exact hx k (by unfold Po.pot at hpot; omega)
  ·rw [upS_no (by omega), upS_no (by omega)]
   have h2 := h.w.pot
   refine ⟨{ h.w.more (D1 := C + 20000) (D2 := C + 20000) (M := N) (Q := P) (by omega) (by omega) (by omega) (by omega) with two := (x1 _ _ ho).more (by omega), pot := ?_ }, ?_⟩
   ·dsimp only; omega
   ·dsimp only; rw [List.length_append]; omega
 by_cases k6 : z.Kind = 6
 ·obtain ⟨a, hac⟩ := acom_ok p.w.stations.2.aps z.N
  obtain ⟨u, hu⟩ := wrong_ok (!a.1)
  refine ⟨u, { w := { p.w with stations := (p.w.stations.1, { p.w.stations.2 with aps := a.2 }) }, out := p.out }, fun k hk => ?_, ?_, [], (List.append_nil _).symm⟩
  ·rw [head, if_neg k2, if_neg k3, if_neg k4, if_neg k5, if_pos k6]
   unfold station_Station_Command.f
   rw [hac, bsome, bsome, hu, bsome]
  ·rw [upS_no (by omega), upS_no (by omega)]
   exact ⟨{ h.w.more (D1 := C + 20000) (D2 := C + 20000) (M := N) (Q := P) (by omega) (by omega) (by omega) (by omega) with two := { ho.more (D := C + 20000) (by omega) with } }, h.pot⟩
 ·refine ⟨1, p, fun k hk => by rw [head, if_neg k2, if_neg k3, if_neg k4, if_neg k5, if_neg k6], ?_, [], (List.append_nil _).symm⟩
  rw [upS_no k4, upS_no k4]
  exact h.more (by omega) (Nat.le_refl _) (Nat.le_refl _)
theorem do_ok {a b c : Nat} (ea : a = 106510000) (eb : b = 1070000) (ec : c = 17000) (h : PL p C N P S1 S2) {z : api_Op} (hB : By z.B) (hC : C + a * cost z + 400000000 ≤ big) (hN : N + b * cost z ≤ 900000000000) (hP : P + c * cost z ≤ 900000000000) :
  ∃ e q, Done p z e q ∧ PL q (C + a * cost z + 20000) (N + b * cost z) (P + c * cost z) (upS z 0 e S1) (upS z 1 e S2) ∧ (z.Kind = 1 ∧ 0 < z.N → q.w.stations.1.arq.inds = [] ∧ q.w.stations.2.arq.inds = []) ∧ ∃ e', q.out = p.out ++ e' := by
 have KKv : KK = 3000000000000 := rfl
 by_cases k1 : z.Kind = 1
 ·have ez : cost z = (imin z.N 100000).toNat := if_pos k1
  have hm : imin z.N 100000 ≤ 100000 := by unfold imin; split <;> omega
  obtain ⟨q, hq, q1, q2, e', he'⟩ := many_ok ea eb ec (cost z) h hC hN hP
  obtain ⟨u, hu⟩ := wrong_ok (decide (z.N < 0))
  refine ⟨u, q, fun k hk => ?_, ?_, fun g => q2 (by rw [ez]; unfold imin; split <;> omega), e', he'⟩
  ·unfold signalman_player_do.f signalman_player_steps.f
   rw [if_pos k1, steps_l0 (cost z) 0 p q k (by decide) (by decide) (by omega) hq (by omega), bsome, hu, bsome]
  ·rw [upS_no (by omega), upS_no (by omega)]
   exact q1.more (by omega) (Nat.le_refl _) (Nat.le_refl _)
 have ez : cost z = 0 := if_neg k1
 rw [ez, Nat.mul_zero] at hC hN hP
 rw [ez, Nat.mul_zero, Nat.mul_zero, Nat.mul_zero]
 have no : (z.Kind = 1 ∧ 0 < z.N → ∀ X : Prop, X) := fun g => absurd g.1 k1
 by_cases k7 : z.Kind = 7
 ·obtain ⟨f, hf, f1⟩ := first_ok hB
  obtain ⟨r, hr, r1, r2⟩ := fault_ok h.w z.Line z.At z.Fault z.N f1
  obtain ⟨u, hu⟩ := wrong_ok (!r.1)
  refine ⟨u, { w := r.2, out := p.out }, fun k hk => ?_, ?_, fun g => absurd g.1 k1, [], (List.append_nil _).symm⟩
  ·unfold signalman_player_do.f
   rw [if_neg k1, if_pos k7, hf, bsome, hr, bsome, hu, bsome]
  ·rw [upS_no (by omega), upS_no (by omega)]
   refine PL.more (p := { w := r.2, out := p.out }) ⟨r1, ?_⟩ (by omega) (Nat.le_refl _) (Nat.le_refl _)
   dsimp only; rw [r2]; exact h.pot
 by_cases a0 : z.At = 0
 ·obtain ⟨e, q, h1, h2, h3⟩ := do_0 h (by omega) (by omega) k1 k7 a0 hB
  exact ⟨e, q, h1, h2, fun g => absurd g.1 k1, h3⟩
 by_cases a1 : z.At = 1
 ·obtain ⟨e, q, h1, h2, h3⟩ := do_1 h (by omega) (by omega) k1 k7 a1 hB
  exact ⟨e, q, h1, h2, fun g => absurd g.1 k1, h3⟩
 refine ⟨1, p, fun k hk => ?_, ?_, fun g => absurd g.1 k1, [], (List.append_nil _).symm⟩
 ·unfold signalman_player_do.f
  rw [if_neg k1, if_neg k7]
  by_cases a2 : z.At ≥ 0
  ·rw [if_pos a2, if_neg (by omega)]
  ·rw [if_neg a2]
 ·rw [upS_at a0, upS_at a1]; exact h.more (by omega) (Nat.le_refl _) (Nat.le_refl _)
end Pl
namespace Pl
open Fr (By)
open Aq (AI big)
open St
open Po (pot)
open Wg
def Runs : List api_Op → signalman_player → List Int → signalman_player → Prop
 | [], p, es, q => es = [] ∧ q = p
 | z :: l, p, es, q => ∃ e m es', Done p z e m ∧ Runs l m es' q ∧ es = e :: es'
def costs : List api_Op → Nat
 | [] => 0
 | z :: l => cost z + costs l
theorem costs_app : ∀ (l m : List api_Op), costs (l ++ m) = costs l + costs m
 | [], m => (Nat.zero_add _).symm
 | z :: l, m => by show cost z + costs (l ++ m) = cost z + costs l + costs m; rw [costs_app l m, Nat.add_assoc]
theorem runs_app : ∀ (l : List api_Op) {m : List api_Op} {p q r : signalman_player} {e f : List Int}, Runs l p e q → Runs m q f r → Runs (l ++ m) p (e ++ f) r
 | [], m, p, q, r, e, f, h1, h2 => by obtain ⟨rfl, rfl⟩ := h1; exact h2
 | z :: l, m, p, q, r, e, f, h1, h2 => by
  obtain ⟨x, y, es, a1, a2, rfl⟩ := h1
  exact ⟨x, y, es ++ f, a1, runs_app l a2 h2, rfl⟩
def ups (b : Int) : List api_Op → List Int → Int → Int
 | z :: l, e :: es, S => ups b l es (upS z b e S)
 | _, _, S => S
theorem runs_ok {a b c : Nat} (ea : a = 106510000) (eb : b = 1070000) (ec : c = 17000) : ∀ (l : List api_Op) {p : signalman_player} {C N P : Nat} {S1 S2 : Int}, PL p C N P S1 S2 → (∀ z ∈ l, By z.B) → C + a * costs l + 20000 * l.length + 400000000 ≤ big → N + b * costs l ≤ 900000000000 → P + c * costs l ≤ 900000000000 →
  ∃ es q, Runs l p es q ∧ PL q (C + a * costs l + 20000 * l.length) (N + b * costs l) (P + c * costs l) (ups 0 l es S1) (ups 1 l es S2) ∧ ∃ e', q.out = p.out ++ e'
 | [], p, C, N, P, S1, S2, h, _, _, _, _ => ⟨[], p, ⟨rfl, rfl⟩, by show PL p (C + a * 0 + 20000 * 0) (N + b * 0) (P + c * 0) S1 S2; rw [Nat.mul_zero, Nat.mul_zero, Nat.mul_zero, Nat.mul_zero]; exact h, [], (List.append_nil _).symm⟩
 | z :: l, p, C, N, P, S1, S2, h, hB, hC, hN, hP => by
  have e0 : costs (z :: l) = cost z + costs l := rfl
  have e1 : a * costs (z :: l) = a * cost z + a * costs l := by rw [e0, Nat.mul_add]
  have e2 : b * costs (z :: l) = b * cost z + b * costs l := by rw [e0, Nat.mul_add]
  have e3 : c * costs (z :: l) = c * cost z + c * costs l := by rw [e0, Nat.mul_add]
  have e4 : 20000 * (z :: l).length = 20000 * l.length + 20000 := by rw [List.length_cons, Nat.mul_succ]
  obtain ⟨e, m, m1, m2, _, f, hf⟩ := do_ok ea eb ec h (z := z) (hB z (List.mem_cons_self ..)) (by omega) (by omega) (by omega)
  obtain ⟨es, q, q1, q2, f', hf'⟩ := runs_ok ea eb ec l m2 (fun y hy => hB y (List.mem_cons_of_mem _ hy)) (by omega) (by omega) (by omega)
  exact ⟨e :: es, q, ⟨e, m, es, m1, q1, rfl⟩, q2.more (by omega) (by omega) (by omega), f ++ f', by rw [hf', hf, List.append_assoc]⟩
theorem play_l0 (l : List api_Op) (hl : l.length ≤ 1000000) {C N P : Nat} {S1 S2 : Int} : ∀ (d i : Nat) (p q : signalman_player) (acc es : List Int) (k : Nat), i + d = l.length → acc.length = i → Runs (l.drop i) p es q → PL q C N P S1 S2 → P ≤ 900000000000 → d + KK + 300000 ≤ k →
  signalman_play.l0 k l (i : Int) p acc = some (some (indsP q), acc ++ es)
 | 0, i, p, q, acc, es, k, hi, ha, h, hq, hP, hk => by
  have KKv : KK = 3000000000000 := rfl
  have hp := hq.pot
  obtain ⟨k, rfl⟩ : ∃ j, k = j + 1 := ⟨k - 1, by omega⟩
  rw [List.drop_eq_nil_of_le (by omega)] at h
  obtain ⟨rfl, rfl⟩ := h
  rw [signalman_play.l0, if_neg (by omega), inds_eq _ (by omega) (by omega), bsome, List.append_nil]
 | d + 1, i, p, q, acc, es, k, hi, ha, h, hq, hP, hk => by
  obtain ⟨k, rfl⟩ : ∃ j, k = j + 1 := ⟨k - 1, by omega⟩
  have hlt : i < l.length := by omega
  have eg : l.getD ((i : Int)).toNat default = l[i] := by simp [List.getD, hlt]
  rw [← List.getElem_cons_drop hlt] at h
  obtain ⟨e, m, es', h1, h2, rfl⟩ := h
  rw [signalman_play.l0, if_pos (by omega), if_pos (by omega), eg, h1 k (by omega), bsome, if_pos (by simp only [List.length_cons, List.length_nil]; omega), w64_in ⟨by omega, by omega⟩]
  have r := play_l0 l hl d (i + 1) m q (acc ++ [e]) es' k (by omega) (by rw [List.length_append]; simp; omega) h2 hq hP (by omega)
  rw [show ((i : Int) + 1) = ((i + 1 : Nat) : Int) by omega]
  refine Eq.trans r ?_
  rw [List.append_assoc]; rfl
theorem start_p {c : api_Config} (h : okB c = true) : ∃ p : signalman_player, PL p 0 0 0 0 0 ∧ p.out = [] ∧ ∀ (l : List api_Op), l.length ≤ 1000000 → ∀ (es : List Int) (q : signalman_player) (C N P : Nat) (S1 S2 : Int), Runs l p es q → PL q C N P S1 S2 → P ≤ 900000000000 →
  ∀ k, KK + 2000000 ≤ k → signalman_play.f k c l = some (some (indsP q), es) := by
 have KKv : KK = 3000000000000 := rfl
 obtain ⟨s, hs, hi, _, _, _, _, _, ha⟩ := new_ok h
 obtain ⟨x, hx, x1⟩ := pnew (w64 ((w64 (2 * c.Ring)) + c.Rate))
 have o := ok_of h
 have hp : pot s.arq = 0 := by rw [ha]; rfl
 have y : WY { pipe := x, sent := [], got := [] } 0 := ⟨x1, Nat.le_refl _, Nat.le_refl _⟩
 refine ⟨{ w := { c := c, stations := (s, s), ways := (({ pipe := x, sent := [], got := [] }, { pipe := x, sent := [], got := [] }), ({ pipe := x, sent := [], got := [] }, { pipe := x, sent := [], got := [] })), now := 0 }, out := [] }, ⟨⟨o.rate, hi, hi, by dsimp only; omega, y, y, y, y, by dsimp only; omega⟩, by dsimp only; rw [hp]; exact Nat.le_refl _⟩, rfl, fun l hl es q C N P S1 S2 hr hq hP k hk => ?_⟩
 have hw : world_New.f k c = some (some { c := c, stations := (s, s), ways := (({ pipe := x, sent := [], got := [] }, { pipe := x, sent := [], got := [] }), ({ pipe := x, sent := [], got := [] }, { pipe := x, sent := [], got := [] })), now := 0 }, 0) := by
  unfold world_New.f
  rw [hs _ (by omega), bsome, if_neg (show ¬ ((some s : Option station_Station).isNone = true) by simp), if_pos rfl, hx, bsome, bsome, bsome, if_neg (show ¬ ((some s : Option station_Station).isNone = true) by simp), if_pos rfl, bsome, bsome]
  rfl
 unfold signalman_play.f
 rw [hw, bsome, if_neg (show ¬ ((some _ : Option world_World).isNone = true) by simp), if_pos rfl]
 have r := play_l0 l hl l.length 0 _ q [] es k (by omega) rfl (by rw [List.drop_zero]; exact hr) hq hP (by omega)
 exact r
theorem start_ok {c : api_Config} (h : okB c = true) : ∃ p : signalman_player, PL p 0 0 0 0 0 ∧ p.out = [] ∧ ∀ (l : List api_Op), l.length ≤ 1000000 → ∀ (es : List Int) (q : signalman_player) (C N P : Nat) (S1 S2 : Int), Runs l p es q → PL q C N P S1 S2 → P ≤ 900000000000 →
  ∀ k, KK + 2000000 ≤ k → signalman_Play.f k c l = some ((indsP q).out, es) := by
 obtain ⟨p, h1, h2, h3⟩ := start_p h
 refine ⟨p, h1, h2, fun l hl es q C N P S1 S2 hr hq hP k hk => ?_⟩
 unfold signalman_Play.f
 rw [h3 l hl es q C N P S1 S2 hr hq hP k hk, bsome]
 exact if_neg (by simp)
theorem start_no {c : api_Config} (h : okB c ≠ true) (l : List api_Op) (k : Nat) : signalman_Play.f k c l = some ([], [1]) := by
 unfold signalman_Play.f signalman_play.f world_New.f
 rw [new_no h, bsome, if_pos (show (none : Option station_Station).isNone = true from rfl), if_neg (by decide), bsome, if_pos (show (none : Option world_World).isNone = true from rfl), if_neg (by decide), bsome]
 exact if_pos rfl
theorem few_l0 (l : List api_Op) (hl : (l.length : Int) ≤ 9223372036854775807) : ∀ (d i : Nat) (x : Int), i + d = l.length → (l.length ≤ 80 → 0 ≤ x ∧ x ≤ 1000 * i) →
  ∃ r, (∀ k, d + 1 ≤ k → signalmanlaw25_Few.l0 k l x (i : Int) = some r) ∧ (r = true → l.length ≤ 80 ∧ x + costs (l.drop i) ≤ 2500)
 | 0, i, x, hi, hx => by
  refine ⟨if (l.length : Int) ≤ 80 then decide (x ≤ 2500) else false, fun k hk => ?_, fun h => ?_⟩
  ·obtain ⟨k, rfl⟩ : ∃ j, k = j + 1 := ⟨k - 1, by omega⟩
   rw [signalmanlaw25_Few.l0, if_neg (by omega)]
   split <;> rfl
  ·by_cases c : (l.length : Int) ≤ 80
   ·rw [if_pos c] at h
    have := of_decide_eq_true h
    rw [List.drop_eq_nil_of_le (by omega)]
    exact ⟨by omega, by show x + ((0 : Nat) : Int) ≤ 2500; omega⟩
   ·rw [if_neg c] at h; cases h
 | d + 1, i, x, hi, hx => by
  have hlt : i < l.length := by omega
  have eg : l.getD ((i : Int)).toNat default = l[i] := by simp [List.getD, hlt]
  have ew : w64 ((i : Int) + 1) = ((i + 1 : Nat) : Int) := w64_in ⟨by omega, by omega⟩
  have head : ∀ k, signalmanlaw25_Few.l0 (k + 1) l x (i : Int) = if (l[i].B.length : Int) > 100 then some false else if l[i].Kind = 1 then (if l[i].N > 1000 then some false else if l[i].N > 0 then signalmanlaw25_Few.l0 k l (w64 (x + l[i].N)) ((i + 1 : Nat) : Int) else signalmanlaw25_Few.l0 k l x ((i + 1 : Nat) : Int)) else signalmanlaw25_Few.l0 k l x ((i + 1 : Nat) : Int) := by
   intro k
   rw [signalmanlaw25_Few.l0, if_pos (by omega), if_pos (by omega), eg, ew]
  have ed : costs (l.drop i) = cost l[i] + costs (l.drop (i + 1)) := by rw [← List.getElem_cons_drop hlt]; rfl
  have no : ∀ (g : ∀ k, signalmanlaw25_Few.l0 (k + 1) l x (i : Int) = some false), ∃ r, (∀ k, d + 1 + 1 ≤ k → signalmanlaw25_Few.l0 k l x (i : Int) = some r) ∧ (r = true → l.length ≤ 80 ∧ x + costs (l.drop i) ≤ 2500) := by
   intro g
   refine ⟨false, fun k hk => ?_, fun h => by cases h⟩
   obtain ⟨k, rfl⟩ : ∃ j, k = j + 1 := ⟨k - 1, by omega⟩
   exact g k
  by_cases c1 : (l[i].B.length : Int) > 100
  ·exact no fun k => by rw [head, if_pos c1]
  have go : ∀ (y : Int), (∀ k, signalmanlaw25_Few.l0 (k + 1) l x (i : Int) = signalmanlaw25_Few.l0 k l y ((i + 1 : Nat) : Int)) → (l.length ≤ 80 → y = x + cost l[i] ∧ cost l[i] ≤ 1000) → ∃ r, (∀ k, d + 1 + 1 ≤ k → signalmanlaw25_Few.l0 k l x (i : Int) = some r) ∧ (r = true → l.length ≤ 80 ∧ x + costs (l.drop i) ≤ 2500) := by
   intro y g hy
   obtain ⟨r, hr, h1⟩ := few_l0 l hl d (i + 1) y (by omega) (fun q => by have := hx q; have := hy q; omega)
   refine ⟨r, fun k hk => ?_, fun q => ?_⟩
   ·obtain ⟨k, rfl⟩ : ∃ j, k = j + 1 := ⟨k - 1, by omega⟩
    rw [g]; exact hr k (by omega)
   ·have := h1 q
    have := hy this.1
    rw [ed]; omega
  by_cases c2 : l[i].Kind = 1
  ·by_cases c3 : l[i].N > 1000
   ·exact no fun k => by rw [head, if_neg c1, if_pos c2, if_pos c3]
   have ec : cost l[i] = (imin l[i].N 100000).toNat := if_pos c2
   have em : imin l[i].N 100000 = l[i].N := by unfold imin; split <;> omega
   rw [em] at ec
   by_cases c4 : l[i].N > 0
   ·exact go (w64 (x + l[i].N)) (fun k => by rw [head, if_neg c1, if_pos c2, if_neg c3, if_pos c4]) (fun q => by have := hx q; rw [w64_in ⟨by omega, by omega⟩]; omega)
   ·exact go x (fun k => by rw [head, if_neg c1, if_pos c2, if_neg c3, if_neg c4]) (fun q => by omega)
  ·have ec : cost l[i] = 0 := if_neg c2
   exact go x (fun k => by rw [head, if_neg c1, if_neg c2]) (fun q => by omega)
end Pl
namespace Pl
theorem same_l0 (l : List api_Event) (hl : l.length ≤ 1000000000000) : ∀ (d i k : Nat), i + d = l.length → d + 1 ≤ k → signalmanref20_SameEvents.l0 k l l (i : Int) = some true
 | 0, i, k, hi, hk => by
  obtain ⟨k, rfl⟩ : ∃ j, k = j + 1 := ⟨k - 1, by omega⟩
  rw [signalmanref20_SameEvents.l0, if_neg (by omega)]
 | d + 1, i, k, hi, hk => by
  obtain ⟨k, rfl⟩ : ∃ j, k = j + 1 := ⟨k - 1, by omega⟩
  rw [signalmanref20_SameEvents.l0, if_pos (by omega), if_pos (by omega), if_pos (by omega), if_pos rfl, if_pos rfl, if_pos rfl, if_pos (by simp [sEq]), w64_in ⟨by omega, by omega⟩, show ((i : Int) + 1) = ((i + 1 : Nat) : Int) by omega]
  exact same_l0 l hl d (i + 1) k (by omega) (by omega)
theorem same_refl (l : List api_Event) (hl : l.length ≤ 1000000000000) {k : Nat} (hk : l.length + 1 ≤ k) : signalmanref20_SameEvents.f k l l = some true := by
 unfold signalmanref20_SameEvents.f
 rw [if_pos rfl]
 exact same_l0 l hl l.length 0 k (by omega) hk
end Pl
namespace Sp2
open Pl
open Fr (By)
open Aq (AI big)
theorem play_any (c : api_Config) {l : List api_Op} (hl : l.length ≤ 80) (cl : costs l ≤ 2500) (bl : ∀ z ∈ l, By z.B) : ∃ v, ∀ k, 3500000000000 ≤ k → signalman_Play.f k c l = some v := by
 by_cases hok : St.okB c = true
 ·obtain ⟨p0, h0, _, play⟩ := start_ok hok
  obtain ⟨a, ea⟩ : ∃ a, a = 106510000 := ⟨_, rfl⟩
  obtain ⟨b, eb⟩ : ∃ b, b = 1070000 := ⟨_, rfl⟩
  obtain ⟨d, ed⟩ : ∃ d, d = 17000 := ⟨_, rfl⟩
  have a1 : a * costs l ≤ 266275000000 := Nat.le_trans (Nat.mul_le_mul_left a cl) (by rw [ea]; exact Nat.le_refl _)
  have b1 : b * costs l ≤ 2675000000 := Nat.le_trans (Nat.mul_le_mul_left b cl) (by rw [eb]; exact Nat.le_refl _)
  have d1 : d * costs l ≤ 42500000 := Nat.le_trans (Nat.mul_le_mul_left d cl) (by rw [ed]; exact Nat.le_refl _)
  have hbig : big = 1000000000000 := rfl
  have KKv : KK = 3000000000000 := rfl
  obtain ⟨e1, p1, r1, h1, _⟩ := runs_ok ea eb ed l h0 bl (by omega) (by omega) (by omega)
  exact ⟨_, fun k hk => play l (by omega) e1 p1 _ _ _ _ _ r1 h1 (by omega) k (by omega)⟩
 ·exact ⟨_, fun k _ => start_no hok l k⟩
theorem alive0 : signalmanlaw25_alive.f 4000000000000 = some true := by kernel_rfl
theorem aliveS {k : Nat} (hk : 4000000000000 ≤ k) : signalmanlaw25_alive.f k = some true := by
 rw [← alive0]
 unfold signalmanlaw25_alive.f
 cases hg : signalmanlaw20_Good.f 0 3 30 false false with
 | none => rfl
 | some c =>
  obtain ⟨v, hv⟩ := play_any c (l := []) (by decide) (by decide) (fun z hz => nomatch hz)
  obtain ⟨u, hu⟩ := play_any c (l := [({ Kind := 2, At := 0, Line := 0, N := 0, Fault := 0, B := [] } : api_Op), ({ Kind := 1, At := 0, Line := 0, N := 60, Fault := 0, B := [] } : api_Op)]) (by decide) (by decide) (fun z hz => by
   simp only [List.mem_cons, List.not_mem_nil, or_false] at hz
   rcases hz with e | e <;> subst e <;> exact fun _ h => nomatch h)
  rw [bsome, bsome, hv k (by omega), hv _ (by omega), bsome, bsome, hu k (by omega), hu _ (by omega)]
end Sp2
namespace Rf
open Pl
open Fr (By)
open Aq (AI big)
abbrev bads : List api_Op := signalmanlaw25_SignalRefuses.c0
theorem far (p : signalman_player) {z : api_Op} (k1 : z.Kind ≠ 1) (k7 : z.Kind ≠ 7) (a : z.At < 0 ∨ z.At > 1) : Done p z 1 p := fun k _ => by
 unfold signalman_player_do.f
 rw [if_neg k1, if_neg k7]
 by_cases a2 : z.At ≥ 0
 ·rw [if_pos a2, if_neg (by omega)]
 ·rw [if_neg a2]
theorem none_ (p : signalman_player) {z : api_Op} (k : z.Kind < 1 ∨ z.Kind > 7) (a : z.At = 0) : Done p z 1 p := fun K hK => by
 clear hK
 unfold signalman_player_do.f
 rw [if_neg (by omega), if_neg (by omega), if_pos (by omega), if_pos (by omega), if_pos (by omega), if_pos a, if_neg (by omega), if_neg (by omega), if_neg (by omega), if_neg (by omega), if_neg (by omega)]
theorem back (p : signalman_player) : Done p { Kind := 1, At := 0, Line := 0, N := -1, Fault := 0, B := [] } 1 p := fun k hk => by
 have KKv : KK = 3000000000000 := rfl
 unfold signalman_player_do.f signalman_player_steps.f
 rw [if_pos rfl]
 dsimp only
 have hm : Many KK 0 p p := by unfold Many; rfl
 have hi : imin (-1) 100000 ≤ 0 := by decide
 have hq : KK + 0 + 1 ≤ k := by rw [Nat.add_zero]; exact Nat.le_trans (Nat.add_le_add_left (by decide : 1 ≤ 200000) KK) hk
 rw [steps_l0 0 0 p p k (by decide) (by decide) (.inr ⟨rfl, hi⟩) hm hq, bsome]
 rfl
theorem order (p : signalman_player) : Done p { Kind := 6, At := 0, Line := 0, N := 4, Fault := 0, B := [] } 1 p := fun k hk => by
 unfold signalman_player_do.f
 rw [if_neg (by decide), if_neg (by decide), if_pos (by decide), if_pos (by decide), if_pos (by decide), if_pos rfl, if_neg (by decide), if_neg (by decide), if_neg (by decide), if_neg (by decide), if_pos rfl]
 rfl
theorem line2 (p : signalman_player) : Done p { Kind := 7, At := 0, Line := 2, N := 0, Fault := 0, B := [] } 1 p := fun k hk => by
 unfold signalman_player_do.f
 rw [if_neg (by decide), if_pos rfl]
 rfl
theorem kind9 (p : signalman_player) : Done p { Kind := 7, At := 0, Line := 0, N := 0, Fault := 9, B := [] } 1 p := fun k hk => by
 unfold signalman_player_do.f
 rw [if_neg (by decide), if_pos rfl]
 rfl
theorem long {p : signalman_player} {C N P : Nat} {S1 S2 : Int} (h : PL p C N P S1 S2) (hC : C + 1000000 ≤ big) : Done p { Kind := 4, At := 0, Line := 0, N := 0, Fault := 0, B := List.replicate (1001 : Int).toNat 0 } 5 p := fun k hk => by
 have KKv : KK = 3000000000000 := rfl
 have hs := h.w.one.arq.size
 have e : Aq.send p.w.stations.1.arq (List.replicate (1001 : Int).toNat 0) = (5, p.w.stations.1.arq) := by
  unfold Aq.send; rw [if_pos (by rw [List.length_replicate, show (1001 : Int).toNat = 1001 from rfl]; omega)]
 unfold signalman_player_do.f
 rw [if_neg (by decide), if_neg (by decide), if_pos (by decide), if_pos (by decide), if_pos (by decide), if_pos rfl, if_neg (by decide), if_neg (by decide), if_pos rfl]
 dsimp only
 rw [st_send h.w.one (by omega) _ (by omega), bsome, e]
 rfl
theorem getD_l {x y : List Int} {i : Nat} (h : i < x.length) : (x ++ y).getD i 0 = x.getD i 0 := by simp [List.getD, List.getElem?_append_left h]
theorem getD_r {x y : List Int} {i : Nat} (h : x.length ≤ i) : (x ++ y).getD i 0 = y.getD (i - x.length) 0 := by simp [List.getD, List.getElem?_append_right h]
def errs : List Int := [1, 1, 1, 1, 1, 1, 1, 1, 5, 1]
theorem bad_runs {p : signalman_player} {C N P : Nat} {S1 S2 : Int} (h : PL p C N P S1 S2) (hC : C + 1000000 ≤ big) : Runs bads p errs p :=
 ⟨1, p, _, none_ p (.inl (by decide)) rfl, ⟨1, p, _, none_ p (.inr (by decide)) rfl, ⟨1, p, _, back p, ⟨1, p, _, far p (by decide) (by decide) (.inr (by decide)), ⟨1, p, _, far p (by decide) (by decide) (.inl (by decide)),
  ⟨1, p, _, order p, ⟨1, p, _, line2 p, ⟨1, p, _, kind9 p, ⟨5, p, _, long h hC, ⟨1, p, _, far p (by decide) (by decide) (.inr (by decide)), ⟨rfl, rfl⟩, rfl⟩, rfl⟩, rfl⟩, rfl⟩, rfl⟩, rfl⟩, rfl⟩, rfl⟩, rfl⟩, rfl⟩
theorem beq_self (x : api_Status) : api_Status.beq x x = true := by unfold api_Status.beq; simp
theorem runs_len : ∀ (l : List api_Op) {p q : signalman_player} {es : List Int}, Runs l p es q → es.length = l.length
 | [], p, q, es, h => by obtain ⟨rfl, _⟩ := h; rfl
 | z :: l, p, q, es, h => by obtain ⟨e, m, es', _, h2, rfl⟩ := h; simp [runs_len l h2]
theorem j5_go (x : Int) (L : Int → Option Bool) : signalmanlaw25_SignalRefuses.j5 x L false = L (w64 (x + 1)) := by unfold signalmanlaw25_SignalRefuses.j5; rw [if_neg (by decide)]
theorem ten {a : Int} (h : 0 ≤ a ∧ a ≤ 1000) : w64 (a + ((bads.length : Nat) : Int)) = a + 10 := w64_in ⟨by show _ ≤ a + 10; omega, by show a + 10 ≤ _; omega⟩
theorem eten {a : Int} (h : -1000 ≤ a ∧ a ≤ 1000) : w64 (a - ((bads.length : Nat) : Int)) = a - 10 := w64_in ⟨by show _ ≤ a - 10; omega, by show a - 10 ≤ _; omega⟩
theorem l3_ok {x y z : List Int} {oa ob : List api_Event} (hy : y = errs) (hl : x.length + z.length ≤ 80) : ∀ (d i k : Nat), i + d = x.length + 10 + z.length → d + 2 ≤ k →
  signalmanlaw25_SignalRefuses.l3 k (x.length : Int) (oa, x ++ z) (ob, x ++ y ++ z) (i : Int) = some true
 | 0, i, k, hi, hk => by
  obtain ⟨k, rfl⟩ : ∃ j, k = j + 1 := ⟨k - 1, by omega⟩
  have hy10 : y.length = 10 := by rw [hy]; rfl
  rw [signalmanlaw25_SignalRefuses.l3, if_neg (by dsimp only; rw [List.length_append, List.length_append]; omega)]
 | d + 1, i, k, hi, hk => by
  obtain ⟨k, rfl⟩ : ∃ j, k = j + 1 := ⟨k - 1, by omega⟩
  have hy10 : y.length = 10 := by rw [hy]; rfl
  have ew : w64 ((i : Int) + 1) = ((i + 1 : Nat) : Int) := w64_in ⟨by omega, by omega⟩
  have next := l3_ok (x := x) (y := y) (z := z) (oa := oa) (ob := ob) hy hl d (i + 1) k (by omega) (by omega)
  have lf : ((x ++ y ++ z).length : Int) = x.length + 10 + z.length := by rw [List.length_append, List.length_append]; omega
  have le : ((x ++ z).length : Int) = x.length + z.length := by rw [List.length_append]; omega
  have j4n : ¬ ((i : Int) ≥ x.length ∧ (i : Int) < x.length + 10) → signalmanlaw25_SignalRefuses.j4 (x.length : Int) (ob, x ++ y ++ z) (i : Int) (signalmanlaw25_SignalRefuses.l3 k (x.length : Int) (oa, x ++ z) (ob, x ++ y ++ z)) false = some true := by
   intro hn
   unfold signalmanlaw25_SignalRefuses.j4
   rw [if_neg (by decide)]
   by_cases c : (i : Int) ≥ x.length
   ·rw [if_pos c, if_neg (fun q => hn ⟨c, by rw [← ten (a := (x.length : Int)) ⟨by omega, by omega⟩]; exact q⟩), j5_go, ew]; exact next
   ·rw [if_neg c, j5_go, ew]; exact next
  rw [signalmanlaw25_SignalRefuses.l3]
  dsimp only
  rw [lf, if_pos (by omega)]
  by_cases c1 : (i : Int) < x.length
  ·have g1 : (x ++ y ++ z).getD ((i : Int)).toNat 0 = (x ++ z).getD ((i : Int)).toNat 0 := by
    rw [Int.toNat_natCast, List.append_assoc, getD_l (by omega), getD_l (by omega)]
   rw [if_pos c1, if_pos ⟨by omega, by omega⟩, le, if_pos ⟨by omega, by omega⟩, g1]
   unfold signalmanlaw25_num.f
   rw [bsome, bsome, if_pos rfl, if_neg (by have := ten (a := (x.length : Int)) ⟨by omega, by omega⟩; intro q; have q' : (i : Int) ≥ w64 ((x.length : Int) + ((bads.length : Nat) : Int)) := q; omega)]
   exact j4n (by omega)
  ·rw [if_neg c1]
   by_cases c2 : (i : Int) < x.length + 10
   ·rw [if_neg (by have := ten (a := (x.length : Int)) ⟨by omega, by omega⟩; intro q; have q' : (i : Int) ≥ w64 ((x.length : Int) + ((bads.length : Nat) : Int)) := q; omega)]
    unfold signalmanlaw25_SignalRefuses.j4
    dsimp only
    have g1 : (x ++ y ++ z).getD ((i : Int)).toNat 0 ≠ 0 := by
     rw [Int.toNat_natCast, List.append_assoc, getD_r (by omega), getD_l (by omega), hy]
     have : ∀ m : Nat, m < 10 → errs.getD m 0 ≠ 0 := by decide
     exact this _ (by omega)
    rw [if_neg (by decide), if_pos (by omega), if_pos (by have := ten (a := (x.length : Int)) ⟨by omega, by omega⟩; show (i : Int) < w64 ((x.length : Int) + ((bads.length : Nat) : Int)); omega), lf, if_pos ⟨by omega, by omega⟩]
    unfold signalmanlaw25_num.f
    rw [bsome, decide_eq_false g1, j5_go, ew]; exact next
   ·have e10 : w64 ((i : Int) - ((bads.length : Nat) : Int)) = (i : Int) - 10 := eten ⟨by omega, by omega⟩
    have g1 : (x ++ y ++ z).getD ((i : Int)).toNat 0 = (x ++ z).getD (w64 ((i : Int) - ((bads.length : Nat) : Int))).toNat 0 := by
     rw [e10, Int.toNat_natCast, List.append_assoc, getD_r (by omega), getD_r (by omega), getD_r (by omega)]
     congr 1; omega
    rw [if_pos (by have := ten (a := (x.length : Int)) ⟨by omega, by omega⟩; show (i : Int) ≥ w64 ((x.length : Int) + ((bads.length : Nat) : Int)); omega), if_pos ⟨by omega, by omega⟩, le]
    rw [if_pos (show 0 ≤ w64 ((i : Int) - ((bads.length : Nat) : Int)) ∧ w64 ((i : Int) - ((bads.length : Nat) : Int)) < (x.length : Int) + z.length by rw [e10]; omega)]
    unfold signalmanlaw25_num.f
    rw [bsome, bsome, decide_eq_true g1]
    exact j4n (by omega)
structure Both (c : api_Config) (l m : List api_Op) (o : List api_Event) (x z : List Int) : Prop where
 A : ∀ k, 3500000000000 ≤ k → signalman_Play.f k c l = some (o, x ++ z)
 B : ∀ k, 3500000000000 ≤ k → signalman_Play.f k c m = some (o, x ++ errs ++ z)
 S : ∃ u : api_Status × api_Status, ∀ k, 3500000000000 ≤ k → signalman_After.f k c l = some (u, true) ∧ signalman_After.f k c m = some (u, true)
 lo : o.length ≤ 1000000000000
theorem both_ok {c : api_Config} (hok : St.okB c = true) {l1 l2 : List api_Op} (hl : l1.length + l2.length ≤ 80) (cl : costs l1 + costs l2 ≤ 2500) (b1 : ∀ z ∈ l1, By z.B) (b2 : ∀ z ∈ l2, By z.B) : ∃ o x z, Both c (l1 ++ l2) (l1 ++ bads ++ l2) o x z ∧ x.length = l1.length ∧ z.length = l2.length := by
 obtain ⟨p0, h0, _, play⟩ := start_p hok
 obtain ⟨a, ea⟩ : ∃ a, a = 106510000 := ⟨_, rfl⟩
 obtain ⟨b, eb⟩ : ∃ b, b = 1070000 := ⟨_, rfl⟩
 obtain ⟨d, ed⟩ : ∃ d, d = 17000 := ⟨_, rfl⟩
 have c1 : costs l1 ≤ 2500 := by omega
 have c2 : costs l2 ≤ 2500 := by omega
 have a1 : a * costs l1 ≤ 266275000000 := Nat.le_trans (Nat.mul_le_mul_left a c1) (by rw [ea]; exact Nat.le_refl _)
 have a2 : a * costs l2 ≤ 266275000000 := Nat.le_trans (Nat.mul_le_mul_left a c2) (by rw [ea]; exact Nat.le_refl _)
 have x1 : b * costs l1 ≤ 2675000000 := Nat.le_trans (Nat.mul_le_mul_left b c1) (by rw [eb]; exact Nat.le_refl _)
 have x2 : b * costs l2 ≤ 2675000000 := Nat.le_trans (Nat.mul_le_mul_left b c2) (by rw [eb]; exact Nat.le_refl _)
 have d1 : d * costs l1 ≤ 42500000 := Nat.le_trans (Nat.mul_le_mul_left d c1) (by rw [ed]; exact Nat.le_refl _)
 have d2 : d * costs l2 ≤ 42500000 := Nat.le_trans (Nat.mul_le_mul_left d c2) (by rw [ed]; exact Nat.le_refl _)
 have hbig : big = 1000000000000 := rfl
 have KKv : KK = 3000000000000 := rfl
 obtain ⟨e1, p1, r1, h1, _⟩ := runs_ok ea eb ed l1 h0 b1 (by omega) (by omega) (by omega)
 replace h1 := h1.more (D := 270000000000) (M := 3000000000) (Q := 50000000) (by omega) (by omega) (by omega)
 obtain ⟨e2, p2, r2, h2, _⟩ := runs_ok ea eb ed l2 h1 b2 (by omega) (by omega) (by omega)
 replace h2 := h2.more (D := 900000000000) (M := 8000000000) (Q := 200000000) (by omega) (by omega) (by omega)
 have rA := runs_app l1 r1 r2
 have rB := runs_app (l1 ++ bads) (runs_app l1 r1 (bad_runs h1 (by omega))) r2
 have pA := play (l1 ++ l2) (by rw [List.length_append]; omega) _ p2 _ _ _ _ _ rA h2 (by omega)
 have pB := play (l1 ++ bads ++ l2) (by rw [List.length_append, List.length_append, show bads.length = 10 from rfl]; omega) _ p2 _ _ _ _ _ rB h2 (by omega)
 have h3 := inds_pl h2
 have hp := h3.pot
 have s1 := St.status_eq (indsP p2).w.stations.1
 have s2 := St.status_eq (indsP p2).w.stations.2
 have playf : ∀ (k : Nat) (l : List api_Op) (es : List Int), signalman_play.f k c l = some (some (indsP p2), es) → signalman_Play.f k c l = some ((indsP p2).out, es) := fun k l es h => by
  unfold signalman_Play.f; rw [h, bsome]; exact if_neg (by simp)
 have aft : ∀ (k : Nat) (l : List api_Op) (es : List Int), signalman_play.f k c l = some (some (indsP p2), es) → signalman_After.f k c l = some ((_, _), true) := fun k l es h => by
  unfold signalman_After.f
  rw [h, bsome]
  dsimp only
  rw [if_neg (by simp), show ((some (indsP p2)).getD default) = indsP p2 from rfl, s1, bsome, s2, bsome]
 exact ⟨(indsP p2).out, e1, e2, ⟨fun k hk => playf k _ _ (pA k (by omega)), fun k hk => playf k _ _ (pB k (by omega)), ⟨_, fun k hk => ⟨aft k _ _ (pA k (by omega)), aft k _ _ (pB k (by omega))⟩⟩, by omega⟩, runs_len l1 r1, runs_len l2 r2⟩
theorem play_no {c : api_Config} (hok : St.okB c ≠ true) (l : List api_Op) (k : Nat) : signalman_play.f k c l = some (none, [1]) := by
 unfold signalman_play.f world_New.f
 rw [St.new_no hok, bsome, if_pos (show (none : Option station_Station).isNone = true from rfl), if_neg (by decide), bsome, if_pos (show (none : Option world_World).isNone = true from rfl), if_neg (by decide)]
theorem after_no {c : api_Config} (hok : St.okB c ≠ true) (l : List api_Op) (k : Nat) : signalman_After.f k c l = some (({ State := 0, Line := 0, Lines := (0, 0), Sent := 0, Acked := 0, Lost := 0 }, { State := 0, Line := 0, Lines := (0, 0), Sent := 0, Acked := 0, Lost := 0 }), false) := by
 unfold signalman_After.f
 rw [play_no hok, bsome]
 exact if_pos rfl
theorem cutN (l : List api_Op) {n : Nat} (h : n ≤ l.length) : cut l (n : Int) (l.length : Int) = l.drop n := by
 unfold cut; rw [Int.toNat_natCast, Int.toNat_natCast]; exact List.take_of_length_le (by rw [List.length_drop]; omega)
theorem j1_ok {k : Nat} {a : Int} {o : List api_Event} {x y : List Int} {u v : api_Status × api_Status} {s : Bool} (hu : u = v) (lo : o.length ≤ 1000000000000) (hk : 1000000000002 ≤ k) {r : Option Bool} (h : signalmanlaw25_SignalRefuses.j2 k a (o, x) (o, y) (u, s) false = r) : signalmanlaw25_SignalRefuses.j1 k a (o, x) (o, y) (u, s) v s = r := by
 subst hu
 unfold signalmanlaw25_SignalRefuses.j1
 rw [same_refl o lo (by omega), bsome, if_pos rfl]
 dsimp only
 rw [beq_self, beq_self, if_pos (by decide)]
 simp only [bne_self_eq_false]
 exact h
end Rf
theorem SignalRefuses : signalmanlaw25_SignalRefuses.Pure := by
 intro a0 a1 a2 _ w1 l1 _
 obtain ⟨F, hF⟩ : ∃ F : Nat, F = 4000000000000 + a1.length := ⟨_, rfl⟩
 refine ⟨F, ?_⟩
 have out : signalmanlaw25_SignalRefuses.j0 F a0 a1 a2 true true = some true := by unfold signalmanlaw25_SignalRefuses.j0; rw [if_pos rfl]
 obtain ⟨f1, hf1, g1⟩ := Pl.few_l0 a1 l1 a1.length 0 0 (by omega) (fun _ => by omega)
 have F1 : signalmanlaw25_Few.f F a1 = some f1 := hf1 F (by omega)
 unfold signalmanlaw25_SignalRefuses.f
 rw [Sp2.aliveS (by omega), Option.bind_some, if_pos rfl, F1, Option.bind_some]
 by_cases b1 : f1 = false
 ·rw [b1, if_neg (by decide)]; exact out
 have c1 : f1 = true := by cases f1; exact absurd rfl b1; rfl
 rw [if_pos c1]
 by_cases c3 : a2 < 0
 ·rw [if_pos c3]; exact out
 rw [if_neg c3]
 by_cases c4 : a2 > (a1.length : Int)
 ·rw [decide_eq_true c4]; exact out
 rw [decide_eq_false c4]
 obtain ⟨q1, q2⟩ := g1 c1
 rw [List.drop_zero] at q2
 obtain ⟨n, rfl⟩ : ∃ n : Nat, a2 = n := ⟨a2.toNat, by omega⟩
 have hn : n ≤ a1.length := by omega
 have bB : ∀ z ∈ a1, Fr.By z.B := fun z hz y hy => wf8 ((w1 z hz).2.2.2.2.2.1.1 y hy)
 have tl : (a1.take n).length = n := by rw [List.length_take]; omega
 have dl : (a1.drop n).length = a1.length - n := by rw [List.length_drop]
 have el : a1.take n ++ a1.drop n = a1 := List.take_append_drop n a1
 have cl : Pl.costs (a1.take n) + Pl.costs (a1.drop n) ≤ 2500 := by rw [← Pl.costs_app, el]; omega
 unfold signalmanlaw25_SignalRefuses.j0
 rw [if_neg (by decide), if_pos (by decide)]
 have whole : (([] : List api_Op) ++ cut a1 (0 : Int) (n : Int)) ++ Rf.bads ++ cut a1 (n : Int) (a1.length : Int) = a1.take n ++ Rf.bads ++ a1.drop n := by
  rw [List.nil_append, Fr.cut0, Rf.cutN a1 hn]
 have c0 : cut a1 (0 : Int) (n : Int) = a1.take n := Fr.cut0 _ _
 by_cases hok : St.okB a0 = true
 ·obtain ⟨o, x, z, hb, hx, hz⟩ := Rf.both_ok hok (l1 := a1.take n) (l2 := a1.drop n) (by omega) cl (fun y hy => bB y (List.mem_of_mem_take hy)) (fun y hy => bB y (List.mem_of_mem_drop hy))
  rw [el] at hb
  obtain ⟨u, hu⟩ := hb.S
  obtain ⟨u1, u2⟩ := hu F (by omega)
  rw [hb.A F (by omega), bsome, if_pos ⟨by omega, by omega, by omega⟩, if_pos ⟨by omega, by omega, by omega⟩, if_pos (by rw [c0]; simp only [List.length_nil]; omega), if_pos (by rw [List.nil_append, c0]; simp only [List.length_cons, List.length_nil]; omega),
   if_pos (by rw [List.nil_append, c0, Rf.cutN a1 hn, List.length_append]; simp only [List.length_cons, List.length_nil]; omega)]
  refine Eq.trans (congrArg (fun q => Option.bind q _) ((congrArg (signalman_Play.f F a0) whole).trans (hb.B F (by omega)))) ?_
  rw [bsome, u1, bsome]
  refine Eq.trans (congrArg (fun q => Option.bind q _) ((congrArg (signalman_After.f F a0) whole).trans u2)) ?_
  rw [bsome]
  refine Rf.j1_ok rfl hb.lo (by omega) ?_
  unfold signalmanlaw25_SignalRefuses.j2
  rw [if_neg (by decide), if_pos rfl]
  dsimp only
  have e10 : w64 (((x ++ z).length : Int) + ((Rf.bads.length : Nat) : Int)) = ((x ++ z).length : Int) + 10 := Rf.ten ⟨by omega, by rw [List.length_append]; omega⟩
  refine Eq.trans (if_pos (Eq.trans ?_ e10.symm)) ?_
  ·simp only [List.length_append, show Rf.errs.length = 10 from rfl]; omega
  ·have r := Rf.l3_ok (x := x) (y := Rf.errs) (z := z) (oa := o) (ob := o) rfl (by omega) (x.length + 10 + z.length) 0 F (by omega) (by omega)
   rw [hx, tl] at r; exact r
 ·rw [Pl.start_no hok, bsome, if_pos ⟨by omega, by omega, by omega⟩, if_pos ⟨by omega, by omega, by omega⟩, if_pos (by rw [c0]; simp only [List.length_nil]; omega), if_pos (by rw [List.nil_append, c0]; simp only [List.length_cons, List.length_nil]; omega),
   if_pos (by rw [List.nil_append, c0, Rf.cutN a1 hn, List.length_append]; simp only [List.length_cons, List.length_nil]; omega), Pl.start_no hok, bsome, Rf.after_no hok, bsome, Rf.after_no hok, bsome]
  refine Rf.j1_ok rfl (by decide) (by omega) ?_
  rfl
end Go.Proofs.YtgkjmdapodgnfaaGreat

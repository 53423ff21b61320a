/- ClockStops: for all times within the guards, a timer that is stopped or started anew does not expire at its former time. Conditions: none beyond those of the given statement. -/
import Derived.Test.YtmknlnpjimfliaaRunClockStops
import Derived.KernelRfl
set_option linter.all false
namespace Go.Proofs.Ytmknlnpjimfliaa
open Go.RowKit Go.Proofs.Ytmknlnpjimfliaa.Walk
/-! ### What the clock's functions come to. -/
def sStep (p : Int × Bool) (v : Int) : Int × Bool := if v > 0 ∧ v ≤ p.1 then (v, true) else p
theorem soonest_l0 (s : clock_Set) (hs : s.left.length = 32) : ∀ (j k : Nat) (x : Int) (ok : Bool) (i : Nat), i ≤ 32 → 32 - i = j → j < k → clock_Set_soonest.l0 k s x ok i = some ((s.left.drop i).foldl sStep (x, ok)) := by
  intro j
  induction j with
  | zero =>
    intro k x ok i hi hj hk
    obtain ⟨k, rfl⟩ : ∃ k', k = k' + 1 := ⟨k - 1, by omega⟩
    have : i = 32 := by omega
    subst this
    rw [clock_Set_soonest.l0, if_neg (by decide), List.drop_eq_nil_of_le (by omega)]
    rfl
  | succ j ih =>
    intro k x ok i hi hj hk
    obtain ⟨k, rfl⟩ : ∃ k', k = k' + 1 := ⟨k - 1, by omega⟩
    have hlt : i < s.left.length := by omega
    have e1 : w64 ((i : Int) + 1) = ((i + 1 : Nat) : Int) := by rw [w64_in (by omega)]; omega
    rw [clock_Set_soonest.l0, if_pos (by omega), if_pos (by omega), e1]
    simp only [ih k _ _ (i + 1) (by omega) (by omega) (by omega)]
    rw [List.drop_eq_getElem_cons hlt, List.foldl_cons]
    have e2 : s.left.getD (i : Int).toNat 0 = s.left[i] := by simp [List.getD, hlt]
    rw [e2]
    unfold sStep
    by_cases h1 : s.left[i] > 0
    · by_cases h2 : s.left[i] ≤ x
      · simp [h1, h2]
      · simp [h1, h2]
    · simp [h1]
theorem soonest_eq (s : clock_Set) (hs : s.left.length = 32) (n : Int) (k : Nat) (hk : 33 ≤ k) : clock_Set_soonest.f k s n = some (s.left.foldl sStep (n, false)) := by
  unfold clock_Set_soonest.f
  have := soonest_l0 s hs 32 k n false 0 (by omega) (by omega) (by omega)
  simpa using this
theorem fold_sStep : ∀ (l : List Int) (x : Int) (ok : Bool), let r := l.foldl sStep (x, ok); r.1 ≤ x ∧ (∀ v ∈ l, 0 < v → v ≤ x → r.1 ≤ v) ∧ (r.1 = x ∨ 0 < r.1) ∧ (r.2 = false → ok = false ∧ r.1 = x ∧ ∀ v ∈ l, ¬ (0 < v ∧ v ≤ x)) ∧ (ok = false → r.2 = true → r.1 ∈ l ∧ 0 < r.1)
  | [], x, ok => by simp
  | v :: l, x, ok => by
    intro r
    have hr : r = l.foldl sStep (if v > 0 ∧ v ≤ x then (v, true) else (x, ok)) := rfl
    by_cases hv : v > 0 ∧ v ≤ x
    · rw [if_pos hv] at hr
      obtain ⟨h1, h2, h3, h4, h5⟩ := fold_sStep l v true
      change _ at h1 h2 h3 h4 h5
      rw [← hr] at h1 h2 h3 h4
      refine ⟨by omega, fun u hu h0 hx => ?_, by omega, fun h => ?_, fun h h' => ?_⟩
      · rcases List.mem_cons.1 hu with e | e
        · subst e; omega
        · by_cases huv : u ≤ v
          · exact h2 u e h0 huv
          · omega
      · have := (h4 h).1; cases this
      · have hpos : 0 < r.1 := by rcases h3 with e | e <;> omega
        refine ⟨?_, hpos⟩
        -- it is v, or one behind it
        have key : ∀ (l : List Int) (p : Int × Bool), (l.foldl sStep p).1 = p.1 ∨ (l.foldl sStep p).1 ∈ l := by
          intro l
          induction l with
          | nil => intro p; left; rfl
          | cons a l ih =>
            intro p
            rw [List.foldl_cons]
            rcases ih (sStep p a) with e | e
            · rw [e]; unfold sStep; split
              · right; simp
              · left; rfl
            · right; exact List.mem_cons_of_mem _ e
        rw [hr]
        rcases key l (v, true) with e | e
        · rw [e]; simp
        · exact List.mem_cons_of_mem _ e
    · rw [if_neg hv] at hr
      obtain ⟨h1, h2, h3, h4, h5⟩ := fold_sStep l x ok
      rw [← hr] at h1 h2 h3 h4 h5
      refine ⟨h1, fun u hu h0 hx => ?_, h3, fun h => ?_, fun h h' => ?_⟩
      · rcases List.mem_cons.1 hu with e | e
        · subst e; exact absurd ⟨h0, hx⟩ hv
        · exact h2 u e h0 hx
      · obtain ⟨g1, g2, g3⟩ := h4 h
        refine ⟨g1, g2, fun u hu => ?_⟩
        rcases List.mem_cons.1 hu with e | e
        · subst e; exact hv
        · exact g3 u e
      · exact ⟨List.mem_cons_of_mem _ (h5 h h').1, (h5 h h').2⟩

/-- The numbers of those that stand at t, from i on. -/
def hits (t : Int) : Nat → List Int → List Int
  | _, [] => []
  | i, v :: r => if v = t then (i : Int) :: hits t (i + 1) r else hits t (i + 1) r
def turn (n v : Int) : Int := if v = 0 then 0 else w64 (v - n)
theorem pass_l0 (s : clock_Set) (hs : s.left.length = 32) (n : Int) (hn : n ≠ 0) : ∀ (j k : Nat) (i : Nat) (s' : clock_Set) (out : List Int), i ≤ 32 → 32 - i = j → j < k → s'.left.length = 32 → s'.left.drop i = s.left.drop i → out.length ≤ i →
    clock_Set_pass.l0 k s n i s' out = some (out ++ hits n i (s.left.drop i), { now := s'.now, left := s'.left.take i ++ (s.left.drop i).map (turn n) }) := by
  intro j
  induction j with
  | zero =>
    intro k i s' out hi hj hk hs' hd ho
    obtain ⟨k, rfl⟩ : ∃ k', k = k' + 1 := ⟨k - 1, by omega⟩
    have : i = 32 := by omega
    subst this
    rw [clock_Set_pass.l0, if_neg (by decide), List.drop_eq_nil_of_le (by omega)]
    simp only [hits, List.map_nil, List.append_nil]
    rw [List.take_of_length_le (by omega)]
  | succ j ih =>
    intro k i s' out hi hj hk hs' hd ho
    obtain ⟨k, rfl⟩ : ∃ k', k = k' + 1 := ⟨k - 1, by omega⟩
    have hlt : i < s.left.length := by omega
    have hlt' : i < s'.left.length := by omega
    have e1 : w64 ((i : Int) + 1) = ((i + 1 : Nat) : Int) := by rw [w64_in (by omega)]; omega
    have e2 : s.left.getD (i : Int).toNat 0 = s.left[i] := by simp [List.getD, hlt]
    have hd1 : s'.left.drop (i + 1) = s.left.drop (i + 1) := by
      have := congrArg (List.drop 1) hd
      simpa [List.drop_drop, Nat.add_comm] using this
    have hsi : s'.left[i] = s.left[i] := by
      have h1 := List.drop_eq_getElem_cons hlt
      have h2 := List.drop_eq_getElem_cons hlt'
      rw [h1, h2] at hd
      exact (List.cons.inj hd).1
    have htake : s'.left.take (i + 1) = s'.left.take i ++ [s'.left[i]] := by rw [List.take_succ_eq_append_getElem hlt']
    rw [clock_Set_pass.l0, if_pos (by omega), if_pos (by omega), e1, e2, List.drop_eq_getElem_cons hlt]
    have hset : ∀ x : Int, (s'.left.set i x).take (i + 1) = s'.left.take i ++ [x] := by
      intro x
      rw [List.take_succ_eq_append_getElem (by simpa using hlt'), List.take_set_of_le (Nat.le_refl i)]
      simp
    have hdrop : ∀ x : Int, (s'.left.set i x).drop (i + 1) = s.left.drop (i + 1) := by
      intro x
      rw [List.drop_set_of_lt (by omega), hd1]
    by_cases h0 : s.left[i] = 0
    · rw [if_pos h0, ih k (i + 1) s' out (by omega) (by omega) (by omega) hs' hd1 (by omega)]
      rw [htake, hsi]
      simp [hits, turn, h0, Ne.symm hn]
    · rw [if_neg h0]
      by_cases h1 : s.left[i] = n
      · rw [if_pos h1, if_pos (by simp; omega)]
        rw [ih k (i + 1) _ _ (by omega) (by omega) (by omega) (by simpa using hs') (by simpa using hdrop _) (by simp; omega)]
        simp only [Int.toNat_natCast, hset]
        simp only [hits, turn, h1, if_neg hn, if_true, List.map_cons, List.append_assoc, List.cons_append, List.nil_append]
      · rw [if_neg h1]
        rw [ih k (i + 1) _ _ (by omega) (by omega) (by omega) (by simpa using hs') (by simpa using hdrop _) (by omega)]
        simp only [Int.toNat_natCast, hset]
        simp only [hits, turn, if_neg h0, if_neg h1, List.map_cons, List.append_assoc, List.cons_append, List.nil_append]
theorem pass_eq (s : clock_Set) (hs : s.left.length = 32) (n : Int) (hn : n ≠ 0) (k : Nat) (hk : 33 ≤ k) : clock_Set_pass.f k s n = some (hits n 0 s.left, { now := s.now, left := s.left.map (turn n) }) := by
  unfold clock_Set_pass.f
  have := pass_l0 s hs n hn 32 k 0 s [] (by omega) (by omega) (by omega) hs rfl (by simp)
  simpa using this
/-- With 0 nothing turns, and what comes out is not asked. -/
theorem pass0_l0 (s : clock_Set) (hs : s.left.length = 32) : ∀ (j k : Nat) (i : Nat) (s' : clock_Set) (out : List Int), i ≤ 32 → 32 - i = j → j < k → s'.left.length = 32 → s'.left.drop i = s.left.drop i → out.length ≤ i →
    clock_Set_pass.l0 k s 0 i s' out = some (out, { now := s'.now, left := s'.left.take i ++ (s.left.drop i).map (turn 0) }) := by
  intro j
  induction j with
  | zero =>
    intro k i s' out hi hj hk hs' hd ho
    obtain ⟨k, rfl⟩ : ∃ k', k = k' + 1 := ⟨k - 1, by omega⟩
    have : i = 32 := by omega
    subst this
    rw [clock_Set_pass.l0, if_neg (by decide), List.drop_eq_nil_of_le (by omega)]
    simp only [List.map_nil, List.append_nil]
    rw [List.take_of_length_le (by omega)]
  | succ j ih =>
    intro k i s' out hi hj hk hs' hd ho
    obtain ⟨k, rfl⟩ : ∃ k', k = k' + 1 := ⟨k - 1, by omega⟩
    have hlt : i < s.left.length := by omega
    have hlt' : i < s'.left.length := by omega
    have e1 : w64 ((i : Int) + 1) = ((i + 1 : Nat) : Int) := by rw [w64_in (by omega)]; omega
    have e2 : s.left.getD (i : Int).toNat 0 = s.left[i] := by simp [List.getD, hlt]
    have hd1 : s'.left.drop (i + 1) = s.left.drop (i + 1) := by
      have := congrArg (List.drop 1) hd
      simpa [List.drop_drop, Nat.add_comm] using this
    have hsi : s'.left[i] = s.left[i] := by
      have h1 := List.drop_eq_getElem_cons hlt
      have h2 := List.drop_eq_getElem_cons hlt'
      rw [h1, h2] at hd
      exact (List.cons.inj hd).1
    have htake : s'.left.take (i + 1) = s'.left.take i ++ [s'.left[i]] := by rw [List.take_succ_eq_append_getElem hlt']
    rw [clock_Set_pass.l0, if_pos (by omega), if_pos (by omega), e1, e2, List.drop_eq_getElem_cons hlt]
    have hset : ∀ x : Int, (s'.left.set i x).take (i + 1) = s'.left.take i ++ [x] := by
      intro x
      rw [List.take_succ_eq_append_getElem (by simpa using hlt'), List.take_set_of_le (Nat.le_refl i)]
      simp
    have hdrop : ∀ x : Int, (s'.left.set i x).drop (i + 1) = s.left.drop (i + 1) := by
      intro x
      rw [List.drop_set_of_lt (by omega), hd1]
    by_cases h0 : s.left[i] = 0
    · rw [if_pos h0, ih k (i + 1) s' out (by omega) (by omega) (by omega) hs' hd1 (by omega)]
      rw [htake, hsi]
      simp [turn, h0]
    · rw [if_neg h0, if_neg h0]
      rw [ih k (i + 1) _ _ (by omega) (by omega) (by omega) (by simpa using hs') (by simpa using hdrop _) (by omega)]
      simp only [Int.toNat_natCast, hset]
      simp only [turn, if_neg h0, List.map_cons, List.append_assoc, List.cons_append, List.nil_append]
theorem pass0_eq (s : clock_Set) (hs : s.left.length = 32) (k : Nat) (hk : 33 ≤ k) : clock_Set_pass.f k s 0 = some ([], { now := s.now, left := s.left.map (turn 0) }) := by
  unfold clock_Set_pass.f
  have := pass0_l0 s hs 32 k 0 s [] (by omega) (by omega) (by omega) hs rfl (by simp)
  simpa using this

/-- The numbers of those that expire within n, in order. -/
def spec (l : List Int) : Nat → List Int
  | 0 => []
  | n + 1 => spec l n ++ hits ((n + 1 : Nat) : Int) 0 l
def fin (n v : Int) : Int := if v > n then v - n else 0
def busy (l : List Int) : Nat := (l.filter (· ≠ 0)).length
/-- What may stand in a clock. -/
def okL (l : List Int) : Prop := l.length = 32 ∧ ∀ v ∈ l, 0 ≤ v ∧ v ≤ 1073741824
theorem hits_none {t : Int} : ∀ {l : List Int} (i : Nat), (∀ v ∈ l, v ≠ t) → hits t i l = []
  | [], _, _ => rfl
  | v :: r, i, h => by rw [hits, if_neg (h v (.head _)), hits_none (i + 1) fun u hu => h u (.tail _ hu)]
theorem spec_none {l : List Int} : ∀ {n : Nat}, (∀ v ∈ l, ¬ (0 < v ∧ v ≤ n)) → spec l n = []
  | 0, _ => rfl
  | n + 1, h => by rw [spec, spec_none (fun v hv h2 => h v hv ⟨h2.1, by omega⟩), hits_none 0 (fun v hv e => h v hv ⟨by omega, by omega⟩)]; rfl
theorem hits_turn {m t : Int} (hm : 0 < m) (ht : m < t) : ∀ {l : List Int} (i : Nat), (∀ v ∈ l, 0 ≤ v ∧ v ≤ 1073741824 ∧ (0 < v → m ≤ v)) → hits (t - m) i (l.map (turn m)) = hits t i l
  | [], _, _ => rfl
  | v :: r, i, h => by
    obtain ⟨h1, h2, h3⟩ := h v (.head _)
    rw [List.map_cons, hits, hits, hits_turn hm ht (i + 1) fun u hu => h u (.tail _ hu)]
    unfold turn
    by_cases h0 : v = 0
    · subst h0
      rw [if_pos rfl, if_neg (by omega), if_neg (by omega)]
    · rw [if_neg h0, w64_in (by have := h3 (by omega); omega)]
      by_cases e : v = t
      · rw [if_pos (by omega), if_pos e]
      · rw [if_neg (by omega), if_neg e]
theorem spec_turn {l : List Int} {m : Nat} (hm : 0 < m) (hl : ∀ v ∈ l, 0 ≤ v ∧ v ≤ 1073741824 ∧ (0 < v → (m : Int) ≤ v)) : ∀ (d : Nat), spec l (m + d) = hits m 0 l ++ spec (l.map (turn m)) d
  | 0 => by
    obtain ⟨p, rfl⟩ : ∃ p, m = p + 1 := ⟨m - 1, by omega⟩
    have h0 : spec l p = [] := spec_none (n := p) fun v hv h => by have := (hl v hv).2.2 h.1; omega
    show spec l p ++ hits ((p + 1 : Nat) : Int) 0 l = hits ((p + 1 : Nat) : Int) 0 l ++ []
    rw [h0, List.nil_append, List.append_nil]
  | d + 1 => by
    show spec l (m + d + 1) = _
    rw [spec, spec_turn hm hl d, spec, List.append_assoc]
    congr 2
    have := hits_turn (m := m) (t := ((m + d + 1 : Nat) : Int)) (by omega) (by omega) 0 hl
    rw [← this]
    congr 1
    omega
theorem busy_turn {m : Int} (hm : 0 < m) : ∀ {l : List Int} (i : Nat), (∀ v ∈ l, 0 ≤ v ∧ v ≤ 1073741824 ∧ (0 < v → m ≤ v)) → (hits m i l).length + busy (l.map (turn m)) ≤ busy l
  | [], _, _ => by simp [hits, busy]
  | v :: r, i, h => by
    obtain ⟨h1, h2, h3⟩ := h v (.head _)
    have ih := busy_turn hm (i + 1) fun u hu => h u (.tail _ hu)
    unfold busy at ih ⊢
    rw [List.map_cons, hits]
    unfold turn at ih ⊢
    by_cases h0 : v = 0
    · subst h0
      rw [if_neg (by omega)]
      simpa using ih
    · have h4 := h3 (by omega)
      rw [if_neg h0, w64_in (by omega)]
      by_cases e : v = m
      · rw [if_pos e]
        simp [e, show m ≠ 0 by omega]; (try simp at ih); omega
      · rw [if_neg e]
        simp [h0, show v - m ≠ 0 by omega]; (try simp at ih); omega
theorem okL.turn {l : List Int} {m : Int} (h : okL l) (hm : 0 < m) (h3 : ∀ v ∈ l, 0 < v → m ≤ v) : okL (l.map (turn m)) := by
  refine ⟨by simpa using h.1, fun v hv => ?_⟩
  obtain ⟨u, hu, rfl⟩ := List.mem_map.1 hv
  have h1 := h.2 u hu
  have h2 := h3 u hu
  by_cases h0 : u = 0
  · subst h0; simp [Go.Proofs.Ytmknlnpjimfliaa.turn]
  · have e : Go.Proofs.Ytmknlnpjimfliaa.turn m u = u - m := by show (if u = 0 then 0 else w64 (u - m)) = _; rw [if_neg h0, w64_in (by omega)]
    rw [e]; omega
theorem fin_turn {m n : Int} (hm : 0 < m) (hmn : m ≤ n) {v : Int} (h : 0 ≤ v ∧ v ≤ 1073741824 ∧ (0 < v → m ≤ v)) : fin (n - m) (turn m v) = fin n v := by
  unfold fin
  by_cases h0 : v = 0
  · subst h0
    have e : turn m 0 = 0 := by simp [turn]
    rw [e, if_neg (by omega), if_neg (by omega)]
  · have e : turn m v = v - m := by
      show (if v = 0 then 0 else w64 (v - m)) = _
      rw [if_neg h0, w64_in (by omega)]
    rw [e]
    by_cases h1 : v > n
    · rw [if_pos (by omega), if_pos h1]; omega
    · rw [if_neg (by omega), if_neg h1]
theorem Pass_l0 : ∀ (N : Nat) (s : clock_Set) (n : Nat) (out : List Int) (k : Nat), n ≤ N → n ≤ 1073741824 → okL s.left → out.length + busy s.left ≤ 1000000 → N + 40 < k →
    clock_Set_Pass.l0 k n (s.left.foldl sStep ((n : Int), false)).1 (s.left.foldl sStep ((n : Int), false)).2 out s = some (out ++ spec s.left n, { now := s.now, left := s.left.map (fin n) }) := by
  intro N
  induction N with
  | zero =>
    intro s n out k hn hn2 hs ho hk
    obtain ⟨k, rfl⟩ : ∃ k', k = k' + 1 := ⟨k - 1, by omega⟩
    obtain rfl : n = 0 := by omega
    obtain ⟨h1, h2, h3, h4, h5⟩ := fold_sStep s.left (0 : Nat) false
    cases hr : (s.left.foldl sStep (((0 : Nat) : Int), false)).2 with
    | true =>
      have := (h5 rfl hr).2
      omega
    | false =>
      rw [clock_Set_Pass.l0, if_neg (by simp)]
      rw [show (((0 : Nat) : Int)) = 0 from rfl, pass0_eq s hs.1 k (by omega)]
      simp only [Option.bind_some, spec, List.append_nil]
      refine congrArg some (Prod.ext rfl (congrArg (fun l => ({ now := s.now, left := l } : clock_Set)) ?_))
      refine List.map_congr_left fun v hv => ?_
      have hv' := hs.2 v hv
      unfold fin
      by_cases h0 : v = 0
      · subst h0; simp [turn]
      · rw [if_pos (by omega)]
        show (if v = 0 then 0 else w64 (v - 0)) = _
        rw [if_neg h0, w64_in (by omega)]
  | succ N ih =>
    intro s n out k hn hn2 hs ho hk
    obtain ⟨k, rfl⟩ : ∃ k', k = k' + 1 := ⟨k - 1, by omega⟩
    obtain ⟨h1, h2, h3, h4, h5⟩ := fold_sStep s.left (n : Int) false
    cases hr : (s.left.foldl sStep ((n : Int), false)).2 with
    | true =>
      obtain ⟨hm, hpos⟩ := h5 rfl hr
      generalize hmv : (s.left.foldl sStep ((n : Int), false)).1 = m at h1 h2 h3 hm hpos ⊢
      obtain ⟨p, rfl⟩ : ∃ p : Nat, m = p := ⟨m.toNat, by omega⟩
      have hmin : ∀ v ∈ s.left, 0 < v → (p : Int) ≤ v := fun v hv h0 => by
        by_cases hx : v ≤ n
        · exact h2 v hv h0 hx
        · omega
      have hall : ∀ v ∈ s.left, 0 ≤ v ∧ v ≤ 1073741824 ∧ (0 < v → (p : Int) ≤ v) := fun v hv => ⟨(hs.2 v hv).1, (hs.2 v hv).2, hmin v hv⟩
      have hb := busy_turn (m := p) (by omega) 0 hall
      have hok := hs.turn (m := p) (by omega) hmin
      rw [clock_Set_Pass.l0, if_pos rfl, pass_eq s hs.1 p (by omega) k (by omega)]
      simp only [Option.bind_some]
      rw [if_pos (by omega), show w64 ((n : Int) - p) = ((n - p : Nat) : Int) by rw [w64_in (by omega)]; omega, soonest_eq _ hok.1 _ _ (by omega)]
      simp only [Option.bind_some]
      rw [ih { now := s.now, left := s.left.map (turn p) } (n - p) _ k (by omega) (by omega) hok (by simp only [List.length_append]; omega) (by omega)]
      have e1 := spec_turn (l := s.left) (m := p) (by omega) hall (n - p)
      rw [show p + (n - p) = n by omega] at e1
      rw [e1, List.append_assoc]
      refine congrArg some (Prod.ext rfl (congrArg (fun l => ({ now := s.now, left := l } : clock_Set)) ?_))
      rw [List.map_map]
      refine List.map_congr_left fun v hv => ?_
      have := fin_turn (m := p) (n := n) (by omega) (by omega) (hall v hv)
      simp only [Function.comp]
      rw [show ((n - p : Nat) : Int) = (n : Int) - p by omega]
      exact this
    | false =>
      obtain ⟨_, _, h6⟩ := h4 hr
      rw [clock_Set_Pass.l0, if_neg (by simp)]
      have hfin : ∀ v ∈ s.left, turn n v = fin n v := by
        intro v hv
        have hv' := hs.2 v hv
        have := h6 v hv
        unfold fin
        by_cases h0 : v = 0
        · subst h0
          rw [if_neg (by omega)]; simp [turn]
        · rw [if_pos (by omega)]
          show (if v = 0 then 0 else w64 (v - n)) = _
          rw [if_neg h0, w64_in (by omega)]
      by_cases hz : n = 0
      · subst hz
        rw [show (((0 : Nat) : Int)) = 0 from rfl, pass0_eq s hs.1 k (by omega)]
        simp only [Option.bind_some, spec, List.append_nil]
        exact congrArg some (Prod.ext rfl (congrArg (fun l => ({ now := s.now, left := l } : clock_Set)) (List.map_congr_left hfin)))
      · rw [pass_eq s hs.1 n (by omega) k (by omega)]
        simp only [Option.bind_some]
        rw [spec_none h6, List.append_nil]
        exact congrArg some (Prod.ext rfl (congrArg (fun l => ({ now := s.now, left := l } : clock_Set)) (List.map_congr_left hfin)))
def clamp (n : Int) : Int := imax 0 (imin n 1073741824)
theorem clamp_in (n : Int) : 0 ≤ clamp n ∧ clamp n ≤ 1073741824 := by unfold clamp imax imin; constructor <;> (repeat' split) <;> omega
theorem clamp_id {n : Int} (h : 0 ≤ n ∧ n ≤ 1073741824) : clamp n = n := by unfold clamp imax imin; (repeat' split) <;> omega
theorem busy_le (l : List Int) : busy l ≤ l.length := List.length_filter_le _ _
theorem Pass_eq (s : clock_Set) (hs : okL s.left) (n : Int) (k : Nat) (hk : (clamp n).toNat + 41 ≤ k) : clock_Set_Pass.f k s n = some (spec s.left (clamp n).toNat, { now := IntKind.u32.wrap (s.now + IntKind.u32.wrap (clamp n)), left := s.left.map (fin (clamp n)) }) := by
  have hc := clamp_in n
  have hb := busy_le s.left
  have hs1 := hs.1
  unfold clock_Set_Pass.f
  show (clock_Set_soonest.f k { now := IntKind.u32.wrap (s.now + IntKind.u32.wrap (clamp n)), left := s.left } (clamp n)).bind _ = _
  have hsn := soonest_eq { now := IntKind.u32.wrap (s.now + IntKind.u32.wrap (clamp n)), left := s.left } hs.1 (clamp n) k (by omega)
  rw [hsn]
  simp only [Option.bind_some]
  have e : clamp n = ((clamp n).toNat : Int) := by omega
  have := Pass_l0 (clamp n).toNat { now := IntKind.u32.wrap (s.now + IntKind.u32.wrap (clamp n)), left := s.left } (clamp n).toNat [] k (Nat.le_refl _) (by omega) hs (by simp; omega) (by omega)
  rw [← e] at this
  exact this

/-- A clock in which timer 1 alone may stand. -/
def one (v : Int) : List Int := (List.replicate 32 0).set 1 v
theorem one_ok {v : Int} (h : 0 ≤ v ∧ v ≤ 1073741824) : okL (one v) := by
  refine ⟨by simp [one], fun u hu => ?_⟩
  rcases List.mem_or_eq_of_mem_set hu with h1 | h1
  · have := List.eq_of_mem_replicate h1; omega
  · subst h1; exact h
theorem one_hits {v t : Int} (ht : 0 < t) : hits t 0 (one v) = if v = t then [1] else [] := by
  have h0 : ¬ (0 : Int) = t := by omega
  show hits t 0 [0, v, 0, 0, 0, 0, 0, 0, 0, 0, 0, 0, 0, 0, 0, 0, 0, 0, 0, 0, 0, 0, 0, 0, 0, 0, 0, 0, 0, 0, 0, 0] = _
  simp [hits, h0]
theorem one_spec {v : Int} : ∀ (n : Nat), spec (one v) n = if 0 < v ∧ v ≤ n then [1] else []
  | 0 => by rw [spec, if_neg (by omega)]
  | n + 1 => by
    rw [spec, one_spec n, one_hits (by omega)]
    by_cases h1 : v = ((n + 1 : Nat) : Int)
    · rw [if_neg (by omega), if_pos h1, if_pos (by omega)]; rfl
    · rw [if_neg h1]
      by_cases h2 : 0 < v ∧ v ≤ n
      · rw [if_pos h2, if_pos (by omega)]; rfl
      · rw [if_neg h2, if_neg (by omega)]; rfl
theorem one_fin {v n : Int} (hn : 0 ≤ n) : (one v).map (fin n) = one (fin n v) := by
  have h0 : fin n 0 = 0 := by unfold fin; rw [if_neg (by omega)]
  unfold one
  rw [List.map_set, List.map_replicate, h0]
theorem new_eq (a : Int) : clock_New.f a = some { now := a, left := one 0 } := rfl
theorem start_eq (w v : Int) (a : Int) : clock_Set_Start.f { now := w, left := one v } 1 a = some (true, { now := w, left := one (imax 1 (imin a 1073741824)) }) := by
  unfold clock_Set_Start.f clock_has.f
  simp [one]
theorem left_eq (w v : Int) : clock_Set_Left.f { now := w, left := one v } 1 = some (v, decide (v > 0)) := by
  unfold clock_Set_Left.f clock_has.f
  simp [one]
theorem stop_eq (w v : Int) : clock_Set_Stop.f { now := w, left := one v } 1 = some (decide (v > 0), { now := w, left := one (if v > 0 then 0 else v) }) := by
  unfold clock_Set_Stop.f
  rw [left_eq]
  by_cases h : v > 0 <;> simp [h, one]
theorem Pass_one (w v n : Int) (hv : 0 ≤ v ∧ v ≤ 1073741824) (hn : 0 ≤ n ∧ n ≤ 1073741824) (k : Nat) (hk : n.toNat + 41 ≤ k) :
    clock_Set_Pass.f k { now := w, left := one v } n = some (if 0 < v ∧ v ≤ n then [1] else [], { now := IntKind.u32.wrap (w + IntKind.u32.wrap n), left := one (fin n v) }) := by
  have := Pass_eq { now := w, left := one v } (one_ok hv) n k (by rw [clamp_id hn]; exact hk)
  rw [this, clamp_id hn, one_spec, one_fin hn.1]
  rw [show ((n.toNat : Nat) : Int) = n by omega]
theorem cut_id {a : Int} (h : 1 ≤ a ∧ a ≤ 1073741824) : imax 1 (imin a 1073741824) = a := by unfold imax imin; (repeat' split) <;> omega
theorem alive_eq : signalmanlaw7_alive.f 3000 = some true := by kernel_rfl
theorem ClockStops : signalmanlaw7_ClockStops.Pure := by
  intro after then_ again stop h1 h2 h3
  simp [Lit.wf] at h1 h2 h3
  refine ⟨3000, ?_⟩
  unfold signalmanlaw7_ClockStops.f
  rw [alive_eq]
  simp only [Option.bind_some, if_true]
  by_cases c1 : after < 2
  · rw [if_pos c1]
  by_cases c2 : after > 1000
  · rw [if_neg c1, if_pos c2]
  by_cases c3 : then_ < 1
  · rw [if_neg c1, if_neg c2, if_pos c3]
  by_cases c4 : then_ ≥ after
  · rw [if_neg c1, if_neg c2, if_neg c3, if_pos c4]
  by_cases c5 : again < 1
  · rw [if_neg c1, if_neg c2, if_neg c3, if_neg c4, if_pos c5]
  by_cases c6 : again > 1000
  · rw [if_neg c1, if_neg c2, if_neg c3, if_neg c4, if_neg c5, if_pos c6]
  rw [if_neg c1, if_neg c2, if_neg c3, if_neg c4, if_neg c5, if_neg c6]
  rw [new_eq]
  simp only [Option.bind_some]
  rw [start_eq, cut_id (by omega)]
  simp only [Option.bind_some]
  rw [Pass_one _ _ _ (by omega) (by omega) _ (by omega), if_neg (by omega)]
  simp only [Option.bind_some]
  have hf : fin then_ after = after - then_ := by unfold fin; rw [if_pos (by omega)]
  rw [hf, left_eq]
  simp only [Option.bind_some]
  have hd : decide (after - then_ > 0) = true := by simp; omega
  rw [hd, w64_in (by omega)]
  have hp : after - then_ > 0 := by omega
  rw [if_pos (by simp), if_pos rfl, if_pos rfl]
  cases stop with
  | true =>
    rw [if_pos rfl, stop_eq, if_pos hp, hd]
    simp only [Option.bind_some]
    rw [stop_eq]
    simp only [Option.bind_some]
    rw [if_pos trivial, if_neg (by simp), show (if (0 : Int) > 0 then (0 : Int) else 0) = 0 by simp]
    rw [Pass_one _ 0 2000 (by omega) (by omega) _ (by decide)]
    simp
  | false =>
    rw [if_neg (by simp)]
    rw [start_eq, cut_id (by omega)]
    simp only [Option.bind_some]
    rw [w64_in (by omega), Pass_one _ _ _ (by omega) (by omega) _ (by omega), if_neg (by omega)]
    simp only [Option.bind_some]
    have hf2 : fin (again - 1) again = 1 := by unfold fin; rw [if_pos (by omega)]; omega
    rw [hf2, Pass_one _ 1 1 (by omega) (by omega) _ (by decide)]
    simp
end Go.Proofs.Ytmknlnpjimfliaa

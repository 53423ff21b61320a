/- ClockWraps: for all starts and every row of calls, the start turns nothing but Now, also where the time goes round. Conditions: none beyond those of the given statement. -/
import Derived.Test.YtmknlnpjimfliaaRunClockWraps
import Derived.KernelRfl
set_option linter.all false
namespace Go.Proofs.Ytmknlnpjimfliaa
open Go.RowKit Go.Proofs.Ytmknlnpjimfliaa.Walk
/-! ### What the clock's functions come to. -/
def sStep (p : Int × Bool) (v : Int) : Int × Bool := if v > 0 ∧ v ≤ p.1 then (v, true) else p
theorem soonest_l0 (s : clock_Set) (hs : s.left.length = 32) : ∀ (j k : Nat) (x : Int) (ok : Bool) (i : Nat), i ≤ 32 → 32 - i = j → j < k → clock_Set_soonest.l0 k s x ok i = some ((s.left.drop i).foldl sStep (x, ok)) := by
  intro j
  induction j with
  | zero =>
    intro k x ok i hi hj hk
    obtain ⟨k, rfl⟩ : ∃ k', k = k' + 1 := ⟨k - 1, by omega⟩
    have : i = 32 := by omega
    subst this
    rw [clock_Set_soonest.l0, if_neg (by decide), List.drop_eq_nil_of_le (by omega)]
    rfl
  | succ j ih =>
    intro k x ok i hi hj hk
    obtain ⟨k, rfl⟩ : ∃ k', k = k' + 1 := ⟨k - 1, by omega⟩
    have hlt : i < s.left.length := by omega
    have e1 : w64 ((i : Int) + 1) = ((i + 1 : Nat) : Int) := by rw [w64_in (by omega)]; omega
    rw [clock_Set_soonest.l0, if_pos (by omega), if_pos (by omega), e1]
    simp only [ih k _ _ (i + 1) (by omega) (by omega) (by omega)]
    rw [List.drop_eq_getElem_cons hlt, List.foldl_cons]
    have e2 : s.left.getD (i : Int).toNat 0 = s.left[i] := by simp [List.getD, hlt]
    rw [e2]
    unfold sStep
    by_cases h1 : s.left[i] > 0
    · by_cases h2 : s.left[i] ≤ x
      · simp [h1, h2]
      · simp [h1, h2]
    · simp [h1]
theorem soonest_eq (s : clock_Set) (hs : s.left.length = 32) (n : Int) (k : Nat) (hk : 33 ≤ k) : clock_Set_soonest.f k s n = some (s.left.foldl sStep (n, false)) := by
  unfold clock_Set_soonest.f
  have := soonest_l0 s hs 32 k n false 0 (by omega) (by omega) (by omega)
  simpa using this
theorem fold_sStep : ∀ (l : List Int) (x : Int) (ok : Bool), let r := l.foldl sStep (x, ok); r.1 ≤ x ∧ (∀ v ∈ l, 0 < v → v ≤ x → r.1 ≤ v) ∧ (r.1 = x ∨ 0 < r.1) ∧ (r.2 = false → ok = false ∧ r.1 = x ∧ ∀ v ∈ l, ¬ (0 < v ∧ v ≤ x)) ∧ (ok = false → r.2 = true → r.1 ∈ l ∧ 0 < r.1)
  | [], x, ok => by simp
  | v :: l, x, ok => by
    intro r
    have hr : r = l.foldl sStep (if v > 0 ∧ v ≤ x then (v, true) else (x, ok)) := rfl
    by_cases hv : v > 0 ∧ v ≤ x
    · rw [if_pos hv] at hr
      obtain ⟨h1, h2, h3, h4, h5⟩ := fold_sStep l v true
      change _ at h1 h2 h3 h4 h5
      rw [← hr] at h1 h2 h3 h4
      refine ⟨by omega, fun u hu h0 hx => ?_, by omega, fun h => ?_, fun h h' => ?_⟩
      · rcases List.mem_cons.1 hu with e | e
        · subst e; omega
        · by_cases huv : u ≤ v
          · exact h2 u e h0 huv
          · omega
      · have := (h4 h).1; cases this
      · have hpos : 0 < r.1 := by rcases h3 with e | e <;> omega
        refine ⟨?_, hpos⟩
        -- it is v, or one behind it
        have key : ∀ (l : List Int) (p : Int × Bool), (l.foldl sStep p).1 = p.1 ∨ (l.foldl sStep p).1 ∈ l := by
          intro l
          induction l with
          | nil => intro p; left; rfl
          | cons a l ih =>
            intro p
            rw [List.foldl_cons]
            rcases ih (sStep p a) with e | e
            · rw [e]; unfold sStep; split
              · right; simp
              · left; rfl
            · right; exact List.mem_cons_of_mem _ e
        rw [hr]
        rcases key l (v, true) with e | e
        · rw [e]; simp
        · exact List.mem_cons_of_mem _ e
    · rw [if_neg hv] at hr
      obtain ⟨h1, h2, h3, h4, h5⟩ := fold_sStep l x ok
      rw [← hr] at h1 h2 h3 h4 h5
      refine ⟨h1, fun u hu h0 hx => ?_, h3, fun h => ?_, fun h h' => ?_⟩
      · rcases List.mem_cons.1 hu with e | e
        · subst e; exact absurd ⟨h0, hx⟩ hv
        · exact h2 u e h0 hx
      · obtain ⟨g1, g2, g3⟩ := h4 h
        refine ⟨g1, g2, fun u hu => ?_⟩
        rcases List.mem_cons.1 hu with e | e
        · subst e; exact hv
        · exact g3 u e
      · exact ⟨List.mem_cons_of_mem _ (h5 h h').1, (h5 h h').2⟩

/-- The numbers of those that stand at t, from i on. -/
def hits (t : Int) : Nat → List Int → List Int
  | _, [] => []
  | i, v :: r => if v = t then (i : Int) :: hits t (i + 1) r else hits t (i + 1) r
def turn (n v : Int) : Int := if v = 0 then 0 else w64 (v - n)
theorem pass_l0 (s : clock_Set) (hs : s.left.length = 32) (n : Int) (hn : n ≠ 0) : ∀ (j k : Nat) (i : Nat) (s' : clock_Set) (out : List Int), i ≤ 32 → 32 - i = j → j < k → s'.left.length = 32 → s'.left.drop i = s.left.drop i → out.length ≤ i →
    clock_Set_pass.l0 k s n i s' out = some (out ++ hits n i (s.left.drop i), { now := s'.now, left := s'.left.take i ++ (s.left.drop i).map (turn n) }) := by
  intro j
  induction j with
  | zero =>
    intro k i s' out hi hj hk hs' hd ho
    obtain ⟨k, rfl⟩ : ∃ k', k = k' + 1 := ⟨k - 1, by omega⟩
    have : i = 32 := by omega
    subst this
    rw [clock_Set_pass.l0, if_neg (by decide), List.drop_eq_nil_of_le (by omega)]
    simp only [hits, List.map_nil, List.append_nil]
    rw [List.take_of_length_le (by omega)]
  | succ j ih =>
    intro k i s' out hi hj hk hs' hd ho
    obtain ⟨k, rfl⟩ : ∃ k', k = k' + 1 := ⟨k - 1, by omega⟩
    have hlt : i < s.left.length := by omega
    have hlt' : i < s'.left.length := by omega
    have e1 : w64 ((i : Int) + 1) = ((i + 1 : Nat) : Int) := by rw [w64_in (by omega)]; omega
    have e2 : s.left.getD (i : Int).toNat 0 = s.left[i] := by simp [List.getD, hlt]
    have hd1 : s'.left.drop (i + 1) = s.left.drop (i + 1) := by
      have := congrArg (List.drop 1) hd
      simpa [List.drop_drop, Nat.add_comm] using this
    have hsi : s'.left[i] = s.left[i] := by
      have h1 := List.drop_eq_getElem_cons hlt
      have h2 := List.drop_eq_getElem_cons hlt'
      rw [h1, h2] at hd
      exact (List.cons.inj hd).1
    have htake : s'.left.take (i + 1) = s'.left.take i ++ [s'.left[i]] := by rw [List.take_succ_eq_append_getElem hlt']
    rw [clock_Set_pass.l0, if_pos (by omega), if_pos (by omega), e1, e2, List.drop_eq_getElem_cons hlt]
    have hset : ∀ x : Int, (s'.left.set i x).take (i + 1) = s'.left.take i ++ [x] := by
      intro x
      rw [List.take_succ_eq_append_getElem (by simpa using hlt'), List.take_set_of_le (Nat.le_refl i)]
      simp
    have hdrop : ∀ x : Int, (s'.left.set i x).drop (i + 1) = s.left.drop (i + 1) := by
      intro x
      rw [List.drop_set_of_lt (by omega), hd1]
    by_cases h0 : s.left[i] = 0
    · rw [if_pos h0, ih k (i + 1) s' out (by omega) (by omega) (by omega) hs' hd1 (by omega)]
      rw [htake, hsi]
      simp [hits, turn, h0, Ne.symm hn]
    · rw [if_neg h0]
      by_cases h1 : s.left[i] = n
      · rw [if_pos h1, if_pos (by simp; omega)]
        rw [ih k (i + 1) _ _ (by omega) (by omega) (by omega) (by simpa using hs') (by simpa using hdrop _) (by simp; omega)]
        simp only [Int.toNat_natCast, hset]
        simp only [hits, turn, h1, if_neg hn, if_true, List.map_cons, List.append_assoc, List.cons_append, List.nil_append]
      · rw [if_neg h1]
        rw [ih k (i + 1) _ _ (by omega) (by omega) (by omega) (by simpa using hs') (by simpa using hdrop _) (by omega)]
        simp only [Int.toNat_natCast, hset]
        simp only [hits, turn, if_neg h0, if_neg h1, List.map_cons, List.append_assoc, List.cons_append, List.nil_append]
theorem pass_eq (s : clock_Set) (hs : s.left.length = 32) (n : Int) (hn : n ≠ 0) (k : Nat) (hk : 33 ≤ k) : clock_Set_pass.f k s n = some (hits n 0 s.left, { now := s.now, left := s.left.map (turn n) }) := by
  unfold clock_Set_pass.f
  have := pass_l0 s hs n hn 32 k 0 s [] (by omega) (by omega) (by omega) hs rfl (by simp)
  simpa using this
/-- With 0 nothing turns, and what comes out is not asked. -/
theorem pass0_l0 (s : clock_Set) (hs : s.left.length = 32) : ∀ (j k : Nat) (i : Nat) (s' : clock_Set) (out : List Int), i ≤ 32 → 32 - i = j → j < k → s'.left.length = 32 → s'.left.drop i = s.left.drop i → out.length ≤ i →
    clock_Set_pass.l0 k s 0 i s' out = some (out, { now := s'.now, left := s'.left.take i ++ (s.left.drop i).map (turn 0) }) := by
  intro j
  induction j with
  | zero =>
    intro k i s' out hi hj hk hs' hd ho
    obtain ⟨k, rfl⟩ : ∃ k', k = k' + 1 := ⟨k - 1, by omega⟩
    have : i = 32 := by omega
    subst this
    rw [clock_Set_pass.l0, if_neg (by decide), List.drop_eq_nil_of_le (by omega)]
    simp only [List.map_nil, List.append_nil]
    rw [List.take_of_length_le (by omega)]
  | succ j ih =>
    intro k i s' out hi hj hk hs' hd ho
    obtain ⟨k, rfl⟩ : ∃ k', k = k' + 1 := ⟨k - 1, by omega⟩
    have hlt : i < s.left.length := by omega
    have hlt' : i < s'.left.length := by omega
    have e1 : w64 ((i : Int) + 1) = ((i + 1 : Nat) : Int) := by rw [w64_in (by omega)]; omega
    have e2 : s.left.getD (i : Int).toNat 0 = s.left[i] := by simp [List.getD, hlt]
    have hd1 : s'.left.drop (i + 1) = s.left.drop (i + 1) := by
      have := congrArg (List.drop 1) hd
      simpa [List.drop_drop, Nat.add_comm] using this
    have hsi : s'.left[i] = s.left[i] := by
      have h1 := List.drop_eq_getElem_cons hlt
      have h2 := List.drop_eq_getElem_cons hlt'
      rw [h1, h2] at hd
      exact (List.cons.inj hd).1
    have htake : s'.left.take (i + 1) = s'.left.take i ++ [s'.left[i]] := by rw [List.take_succ_eq_append_getElem hlt']
    rw [clock_Set_pass.l0, if_pos (by omega), if_pos (by omega), e1, e2, List.drop_eq_getElem_cons hlt]
    have hset : ∀ x : Int, (s'.left.set i x).take (i + 1) = s'.left.take i ++ [x] := by
      intro x
      rw [List.take_succ_eq_append_getElem (by simpa using hlt'), List.take_set_of_le (Nat.le_refl i)]
      simp
    have hdrop : ∀ x : Int, (s'.left.set i x).drop (i + 1) = s.left.drop (i + 1) := by
      intro x
      rw [List.drop_set_of_lt (by omega), hd1]
    by_cases h0 : s.left[i] = 0
    · rw [if_pos h0, ih k (i + 1) s' out (by omega) (by omega) (by omega) hs' hd1 (by omega)]
      rw [htake, hsi]
      simp [turn, h0]
    · rw [if_neg h0, if_neg h0]
      rw [ih k (i + 1) _ _ (by omega) (by omega) (by omega) (by simpa using hs') (by simpa using hdrop _) (by omega)]
      simp only [Int.toNat_natCast, hset]
      simp only [turn, if_neg h0, List.map_cons, List.append_assoc, List.cons_append, List.nil_append]
theorem pass0_eq (s : clock_Set) (hs : s.left.length = 32) (k : Nat) (hk : 33 ≤ k) : clock_Set_pass.f k s 0 = some ([], { now := s.now, left := s.left.map (turn 0) }) := by
  unfold clock_Set_pass.f
  have := pass0_l0 s hs 32 k 0 s [] (by omega) (by omega) (by omega) hs rfl (by simp)
  simpa using this

/-- The numbers of those that expire within n, in order. -/
def spec (l : List Int) : Nat → List Int
  | 0 => []
  | n + 1 => spec l n ++ hits ((n + 1 : Nat) : Int) 0 l
def fin (n v : Int) : Int := if v > n then v - n else 0
def busy (l : List Int) : Nat := (l.filter (· ≠ 0)).length
/-- What may stand in a clock. -/
def okL (l : List Int) : Prop := l.length = 32 ∧ ∀ v ∈ l, 0 ≤ v ∧ v ≤ 1073741824
theorem hits_none {t : Int} : ∀ {l : List Int} (i : Nat), (∀ v ∈ l, v ≠ t) → hits t i l = []
  | [], _, _ => rfl
  | v :: r, i, h => by rw [hits, if_neg (h v (.head _)), hits_none (i + 1) fun u hu => h u (.tail _ hu)]
theorem spec_none {l : List Int} : ∀ {n : Nat}, (∀ v ∈ l, ¬ (0 < v ∧ v ≤ n)) → spec l n = []
  | 0, _ => rfl
  | n + 1, h => by rw [spec, spec_none (fun v hv h2 => h v hv ⟨h2.1, by omega⟩), hits_none 0 (fun v hv e => h v hv ⟨by omega, by omega⟩)]; rfl
theorem hits_turn {m t : Int} (hm : 0 < m) (ht : m < t) : ∀ {l : List Int} (i : Nat), (∀ v ∈ l, 0 ≤ v ∧ v ≤ 1073741824 ∧ (0 < v → m ≤ v)) → hits (t - m) i (l.map (turn m)) = hits t i l
  | [], _, _ => rfl
  | v :: r, i, h => by
    obtain ⟨h1, h2, h3⟩ := h v (.head _)
    rw [List.map_cons, hits, hits, hits_turn hm ht (i + 1) fun u hu => h u (.tail _ hu)]
    unfold turn
    by_cases h0 : v = 0
    · subst h0
      rw [if_pos rfl, if_neg (by omega), if_neg (by omega)]
    · rw [if_neg h0, w64_in (by have := h3 (by omega); omega)]
      by_cases e : v = t
      · rw [if_pos (by omega), if_pos e]
      · rw [if_neg (by omega), if_neg e]
theorem spec_turn {l : List Int} {m : Nat} (hm : 0 < m) (hl : ∀ v ∈ l, 0 ≤ v ∧ v ≤ 1073741824 ∧ (0 < v → (m : Int) ≤ v)) : ∀ (d : Nat), spec l (m + d) = hits m 0 l ++ spec (l.map (turn m)) d
  | 0 => by
    obtain ⟨p, rfl⟩ : ∃ p, m = p + 1 := ⟨m - 1, by omega⟩
    have h0 : spec l p = [] := spec_none (n := p) fun v hv h => by have := (hl v hv).2.2 h.1; omega
    show spec l p ++ hits ((p + 1 : Nat) : Int) 0 l = hits ((p + 1 : Nat) : Int) 0 l ++ []
    rw [h0, List.nil_append, List.append_nil]
  | d + 1 => by
    show spec l (m + d + 1) = _
    rw [spec, spec_turn hm hl d, spec, List.append_assoc]
    congr 2
    have := hits_turn (m := m) (t := ((m + d + 1 : Nat) : Int)) (by omega) (by omega) 0 hl
    rw [← this]
    congr 1
    omega
theorem busy_turn {m : Int} (hm : 0 < m) : ∀ {l : List Int} (i : Nat), (∀ v ∈ l, 0 ≤ v ∧ v ≤ 1073741824 ∧ (0 < v → m ≤ v)) → (hits m i l).length + busy (l.map (turn m)) ≤ busy l
  | [], _, _ => by simp [hits, busy]
  | v :: r, i, h => by
    obtain ⟨h1, h2, h3⟩ := h v (.head _)
    have ih := busy_turn hm (i + 1) fun u hu => h u (.tail _ hu)
    unfold busy at ih ⊢
    rw [List.map_cons, hits]
    unfold turn at ih ⊢
    by_cases h0 : v = 0
    · subst h0
      rw [if_neg (by omega)]
      simpa using ih
    · have h4 := h3 (by omega)
      rw [if_neg h0, w64_in (by omega)]
      by_cases e : v = m
      · rw [if_pos e]
        simp [e, show m ≠ 0 by omega]; (try simp at ih); omega
      · rw [if_neg e]
        simp [h0, show v - m ≠ 0 by omega]; (try simp at ih); omega
theorem okL.turn {l : List Int} {m : Int} (h : okL l) (hm : 0 < m) (h3 : ∀ v ∈ l, 0 < v → m ≤ v) : okL (l.map (turn m)) := by
  refine ⟨by simpa using h.1, fun v hv => ?_⟩
  obtain ⟨u, hu, rfl⟩ := List.mem_map.1 hv
  have h1 := h.2 u hu
  have h2 := h3 u hu
  by_cases h0 : u = 0
  · subst h0; simp [Go.Proofs.Ytmknlnpjimfliaa.turn]
  · have e : Go.Proofs.Ytmknlnpjimfliaa.turn m u = u - m := by show (if u = 0 then 0 else w64 (u - m)) = _; rw [if_neg h0, w64_in (by omega)]
    rw [e]; omega
theorem fin_turn {m n : Int} (hm : 0 < m) (hmn : m ≤ n) {v : Int} (h : 0 ≤ v ∧ v ≤ 1073741824 ∧ (0 < v → m ≤ v)) : fin (n - m) (turn m v) = fin n v := by
  unfold fin
  by_cases h0 : v = 0
  · subst h0
    have e : turn m 0 = 0 := by simp [turn]
    rw [e, if_neg (by omega), if_neg (by omega)]
  · have e : turn m v = v - m := by
      show (if v = 0 then 0 else w64 (v - m)) = _
      rw [if_neg h0, w64_in (by omega)]
    rw [e]
    by_cases h1 : v > n
    · rw [if_pos (by omega), if_pos h1]; omega
    · rw [if_neg (by omega), if_neg h1]
theorem Pass_l0 : ∀ (N : Nat) (s : clock_Set) (n : Nat) (out : List Int) (k : Nat), n ≤ N → n ≤ 1073741824 → okL s.left → out.length + busy s.left ≤ 1000000 → N + 40 < k →
    clock_Set_Pass.l0 k n (s.left.foldl sStep ((n : Int), false)).1 (s.left.foldl sStep ((n : Int), false)).2 out s = some (out ++ spec s.left n, { now := s.now, left := s.left.map (fin n) }) := by
  intro N
  induction N with
  | zero =>
    intro s n out k hn hn2 hs ho hk
    obtain ⟨k, rfl⟩ : ∃ k', k = k' + 1 := ⟨k - 1, by omega⟩
    obtain rfl : n = 0 := by omega
    obtain ⟨h1, h2, h3, h4, h5⟩ := fold_sStep s.left (0 : Nat) false
    cases hr : (s.left.foldl sStep (((0 : Nat) : Int), false)).2 with
    | true =>
      have := (h5 rfl hr).2
      omega
    | false =>
      rw [clock_Set_Pass.l0, if_neg (by simp)]
      rw [show (((0 : Nat) : Int)) = 0 from rfl, pass0_eq s hs.1 k (by omega)]
      simp only [Option.bind_some, spec, List.append_nil]
      refine congrArg some (Prod.ext rfl (congrArg (fun l => ({ now := s.now, left := l } : clock_Set)) ?_))
      refine List.map_congr_left fun v hv => ?_
      have hv' := hs.2 v hv
      unfold fin
      by_cases h0 : v = 0
      · subst h0; simp [turn]
      · rw [if_pos (by omega)]
        show (if v = 0 then 0 else w64 (v - 0)) = _
        rw [if_neg h0, w64_in (by omega)]
  | succ N ih =>
    intro s n out k hn hn2 hs ho hk
    obtain ⟨k, rfl⟩ : ∃ k', k = k' + 1 := ⟨k - 1, by omega⟩
    obtain ⟨h1, h2, h3, h4, h5⟩ := fold_sStep s.left (n : Int) false
    cases hr : (s.left.foldl sStep ((n : Int), false)).2 with
    | true =>
      obtain ⟨hm, hpos⟩ := h5 rfl hr
      generalize hmv : (s.left.foldl sStep ((n : Int), false)).1 = m at h1 h2 h3 hm hpos ⊢
      obtain ⟨p, rfl⟩ : ∃ p : Nat, m = p := ⟨m.toNat, by omega⟩
      have hmin : ∀ v ∈ s.left, 0 < v → (p : Int) ≤ v := fun v hv h0 => by
        by_cases hx : v ≤ n
        · exact h2 v hv h0 hx
        · omega
      have hall : ∀ v ∈ s.left, 0 ≤ v ∧ v ≤ 1073741824 ∧ (0 < v → (p : Int) ≤ v) := fun v hv => ⟨(hs.2 v hv).1, (hs.2 v hv).2, hmin v hv⟩
      have hb := busy_turn (m := p) (by omega) 0 hall
      have hok := hs.turn (m := p) (by omega) hmin
      rw [clock_Set_Pass.l0, if_pos rfl, pass_eq s hs.1 p (by omega) k (by omega)]
      simp only [Option.bind_some]
      rw [if_pos (by omega), show w64 ((n : Int) - p) = ((n - p : Nat) : Int) by rw [w64_in (by omega)]; omega, soonest_eq _ hok.1 _ _ (by omega)]
      simp only [Option.bind_some]
      rw [ih { now := s.now, left := s.left.map (turn p) } (n - p) _ k (by omega) (by omega) hok (by simp only [List.length_append]; omega) (by omega)]
      have e1 := spec_turn (l := s.left) (m := p) (by omega) hall (n - p)
      rw [show p + (n - p) = n by omega] at e1
      rw [e1, List.append_assoc]
      refine congrArg some (Prod.ext rfl (congrArg (fun l => ({ now := s.now, left := l } : clock_Set)) ?_))
      rw [List.map_map]
      refine List.map_congr_left fun v hv => ?_
      have := fin_turn (m := p) (n := n) (by omega) (by omega) (hall v hv)
      simp only [Function.comp]
      rw [show ((n - p : Nat) : Int) = (n : Int) - p by omega]
      exact this
    | false =>
      obtain ⟨_, _, h6⟩ := h4 hr
      rw [clock_Set_Pass.l0, if_neg (by simp)]
      have hfin : ∀ v ∈ s.left, turn n v = fin n v := by
        intro v hv
        have hv' := hs.2 v hv
        have := h6 v hv
        unfold fin
        by_cases h0 : v = 0
        · subst h0
          rw [if_neg (by omega)]; simp [turn]
        · rw [if_pos (by omega)]
          show (if v = 0 then 0 else w64 (v - n)) = _
          rw [if_neg h0, w64_in (by omega)]
      by_cases hz : n = 0
      · subst hz
        rw [show (((0 : Nat) : Int)) = 0 from rfl, pass0_eq s hs.1 k (by omega)]
        simp only [Option.bind_some, spec, List.append_nil]
        exact congrArg some (Prod.ext rfl (congrArg (fun l => ({ now := s.now, left := l } : clock_Set)) (List.map_congr_left hfin)))
      · rw [pass_eq s hs.1 n (by omega) k (by omega)]
        simp only [Option.bind_some]
        rw [spec_none h6, List.append_nil]
        exact congrArg some (Prod.ext rfl (congrArg (fun l => ({ now := s.now, left := l } : clock_Set)) (List.map_congr_left hfin)))
def clamp (n : Int) : Int := imax 0 (imin n 1073741824)
theorem clamp_in (n : Int) : 0 ≤ clamp n ∧ clamp n ≤ 1073741824 := by unfold clamp imax imin; constructor <;> (repeat' split) <;> omega
theorem clamp_id {n : Int} (h : 0 ≤ n ∧ n ≤ 1073741824) : clamp n = n := by unfold clamp imax imin; (repeat' split) <;> omega
theorem busy_le (l : List Int) : busy l ≤ l.length := List.length_filter_le _ _
theorem Pass_eq (s : clock_Set) (hs : okL s.left) (n : Int) (k : Nat) (hk : (clamp n).toNat + 41 ≤ k) : clock_Set_Pass.f k s n = some (spec s.left (clamp n).toNat, { now := IntKind.u32.wrap (s.now + IntKind.u32.wrap (clamp n)), left := s.left.map (fin (clamp n)) }) := by
  have hc := clamp_in n
  have hb := busy_le s.left
  have hs1 := hs.1
  unfold clock_Set_Pass.f
  show (clock_Set_soonest.f k { now := IntKind.u32.wrap (s.now + IntKind.u32.wrap (clamp n)), left := s.left } (clamp n)).bind _ = _
  have hsn := soonest_eq { now := IntKind.u32.wrap (s.now + IntKind.u32.wrap (clamp n)), left := s.left } hs.1 (clamp n) k (by omega)
  rw [hsn]
  simp only [Option.bind_some]
  have e : clamp n = ((clamp n).toNat : Int) := by omega
  have := Pass_l0 (clamp n).toNat { now := IntKind.u32.wrap (s.now + IntKind.u32.wrap (clamp n)), left := s.left } (clamp n).toNat [] k (Nat.le_refl _) (by omega) hs (by simp; omega) (by omega)
  rw [← e] at this
  exact this
/-! ### More of the clock. -/
theorem hits_fin {t : Nat} : ∀ {l : List Int} (i : Nat), (∀ v ∈ l, 0 ≤ v) → hits 1 i (l.map (fin t)) = hits ((t + 1 : Nat) : Int) i l
  | [], _, _ => rfl
  | v :: r, i, h => by
    have h0 := h v (.head _)
    rw [List.map_cons, hits, hits, hits_fin (i + 1) fun u hu => h u (.tail _ hu)]
    unfold fin
    by_cases h1 : v > t
    · rw [if_pos h1]
      by_cases h2 : v = ((t + 1 : Nat) : Int)
      · rw [if_pos (by omega), if_pos h2]
      · rw [if_neg (by omega), if_neg h2]
    · rw [if_neg h1, if_neg (by omega), if_neg (by omega)]
theorem fin_fin {t : Nat} {v : Int} (h : 0 ≤ v) : fin 1 (fin t v) = fin ((t + 1 : Nat) : Int) v := by
  unfold fin
  by_cases h1 : v > t
  · rw [if_pos h1]
    by_cases h2 : v > ((t + 1 : Nat) : Int)
    · rw [if_pos (by omega), if_pos h2]; omega
    · rw [if_neg (by omega), if_neg h2]
  · rw [if_neg h1, if_neg (by omega), if_neg (by omega)]
theorem fin_ok {l : List Int} (h : okL l) (n : Nat) : okL (l.map (fin n)) := by
  refine ⟨by simpa using h.1, fun v hv => ?_⟩
  obtain ⟨u, hu, rfl⟩ := List.mem_map.1 hv
  have := h.2 u hu
  unfold fin
  split <;> omega
theorem same_l0 (xs : List Int) (hx : xs.length ≤ 100000) : ∀ (j k : Nat) (i : Nat), i ≤ xs.length → xs.length - i = j → j < k → signalmanref6_SameInts.l0 k xs xs i = some true := by
  intro j
  induction j with
  | zero =>
    intro k i hi hj hk
    obtain ⟨k, rfl⟩ : ∃ k', k = k' + 1 := ⟨k - 1, by omega⟩
    rw [signalmanref6_SameInts.l0, if_neg (by omega)]
  | succ j ih =>
    intro k i hi hj hk
    obtain ⟨k, rfl⟩ : ∃ k', k = k' + 1 := ⟨k - 1, by omega⟩
    rw [signalmanref6_SameInts.l0, if_pos (by omega), if_pos (by omega), if_pos (by omega), if_pos rfl, show w64 ((i : Int) + 1) = ((i + 1 : Nat) : Int) by rw [w64_in (by omega)]; omega]
    exact ih k (i + 1) (by omega) (by omega) (by omega)
theorem same_eq (xs : List Int) (hx : xs.length ≤ 100000) (k : Nat) (hk : xs.length + 1 ≤ k) : signalmanref6_SameInts.f k xs xs = some true := by
  unfold signalmanref6_SameInts.f
  rw [if_pos rfl]
  exact same_l0 xs hx xs.length k 0 (by omega) (by omega) (by omega)
theorem alive_any (k : Nat) (hk : 100 ≤ k) : signalmanlaw7_alive.f k = some true := by
  unfold signalmanlaw7_alive.f
  have e1 : clock_New.f 0 = some { now := 0, left := List.replicate 32 0 } := rfl
  have e2 : clock_Set_Start.f { now := 0, left := List.replicate 32 0 } 3 5 = some (true, { now := 0, left := (List.replicate 32 0).set 3 5 }) := by kernel_rfl
  rw [e1]
  simp only [Option.bind_some]
  rw [e2]
  simp only [Option.bind_some]
  have h := Pass_eq { now := 0, left := (List.replicate 32 0).set 3 5 } ⟨by simp, by decide⟩ 5 k (by rw [clamp_id (by omega)]; simp; omega)
  rw [h]
  simp only [Option.bind_some]
  have e3 : spec ((List.replicate 32 0).set 3 5) (clamp 5).toNat = [3] := by kernel_rfl
  rw [e3]
  simp
/-! ### Still more of the clock. -/
theorem hits_one : ∀ {l : List Int} (i : Nat), (∀ v ∈ l, 0 ≤ v) → (hits 1 i l).length + busy (l.map (fin 1)) ≤ busy l
  | [], _, _ => by simp [hits, busy]
  | v :: r, i, h => by
    have h0 := h v (.head _)
    have ih := hits_one (i + 1) fun u hu => h u (.tail _ hu)
    unfold busy at ih ⊢
    rw [List.map_cons, hits]
    by_cases h1 : v = 1
    · subst h1
      rw [if_pos rfl]
      simp [fin]; simp at ih; omega
    · rw [if_neg h1]
      by_cases h2 : v > 1
      · simp [fin, h2, show v ≠ 0 by omega, show v - 1 ≠ 0 by omega]; simp at ih; omega
      · simp [fin, h2, show v = 0 by omega]; simp at ih; omega
theorem spec_busy {l : List Int} (h : ∀ v ∈ l, 0 ≤ v) : ∀ (n : Nat), (spec l n).length + busy (l.map (fin n)) ≤ busy l
  | 0 => by
    have e : l.map (fin ((0 : Nat) : Int)) = l.map id := List.map_congr_left fun v hv => by
      have := h v hv
      unfold fin
      split
      · simp
      · simp; omega
    rw [e, List.map_id]; simp [spec]
  | n + 1 => by
    have ih := spec_busy h n
    have h1 := hits_one (l := l.map (fin n)) 0 (fun v hv => by
      obtain ⟨u, hu, rfl⟩ := List.mem_map.1 hv
      unfold fin; split
      · omega
      · omega)
    rw [hits_fin 0 h, List.map_map] at h1
    have e : l.map (fin 1 ∘ fin n) = l.map (fin ((n + 1 : Nat) : Int)) := List.map_congr_left fun v hv => fin_fin (h v hv)
    rw [e] at h1
    rw [spec, List.length_append]
    omega
theorem okL.setv {l : List Int} (h : okL l) (p : Nat) {v : Int} (hv : 0 ≤ v ∧ v ≤ 1073741824) : okL (l.set p v) := by
  refine ⟨by simpa using h.1, fun u hu => ?_⟩
  rcases List.mem_or_eq_of_mem_set hu with h1 | h1
  · exact h.2 u h1
  · subst h1; exact hv
theorem cut1 (a : Int) : 1 ≤ imax 1 (imin a 1073741824) ∧ imax 1 (imin a 1073741824) ≤ 1073741824 := by unfold imax imin; constructor <;> (repeat' split) <;> omega
theorem has_eq (a : Int) : clock_has.f a = some (decide (0 ≤ a ∧ a < 32)) := by
  unfold clock_has.f
  by_cases h : a ≥ 0
  · rw [if_pos h]; congr 1; simp; omega
  · rw [if_neg h]; congr 1; simp; omega
theorem getD_in {l : List Int} (h : okL l) (i : Nat) : 0 ≤ l.getD i 0 ∧ l.getD i 0 ≤ 1073741824 := by
  by_cases hi : i < l.length
  · have e : l.getD i 0 = l[i] := by simp [List.getD, hi]
    rw [e]; exact h.2 _ (List.getElem_mem hi)
  · have e : l.getD i 0 = 0 := by simp [List.getD, hi]
    rw [e]; omega
theorem wrapu (n : Int) : IntKind.u32.wrap n = n % 4294967296 := by simp [IntKind.wrap, IntKind.bits, IntKind.signed]
/-- Both stand alike, but for their starts. -/
def Rel (p q : Int) (s t : clock_Set) : Prop := s.left = t.left ∧ okL s.left ∧ IntKind.u32.wrap (s.now - p) = IntKind.u32.wrap (t.now - q)
variable {p q : Int} {s t : clock_Set}
theorem start_rel (h : Rel p q s t) (id a : Int) : ∃ b s' t', clock_Set_Start.f s id a = some (b, s') ∧ clock_Set_Start.f t id a = some (b, t') ∧ Rel p q s' t' := by
  obtain ⟨h1, h3, h2⟩ := h
  unfold clock_Set_Start.f
  rw [has_eq]
  simp only [Option.bind_some]
  by_cases hi : 0 ≤ id ∧ id < 32
  · rw [if_pos (by simp [hi]), if_pos hi, if_pos (by simp [hi]), if_pos hi]
    refine ⟨_, { now := s.now, left := s.left.set id.toNat (imax 1 (imin a 1073741824)) }, { now := t.now, left := t.left.set id.toNat (imax 1 (imin a 1073741824)) }, rfl, rfl, ?_, h3.setv _ ⟨by have := cut1 a; omega, (cut1 a).2⟩, h2⟩
    show s.left.set _ _ = t.left.set _ _
    rw [h1]
  · rw [if_neg (by simpa using hi), if_neg (by simpa using hi)]
    exact ⟨_, _, _, rfl, rfl, h1, h3, h2⟩
theorem stop_rel (h : Rel p q s t) (id : Int) : ∃ b s' t', clock_Set_Stop.f s id = some (b, s') ∧ clock_Set_Stop.f t id = some (b, t') ∧ Rel p q s' t' := by
  obtain ⟨h1, h3, h2⟩ := h
  unfold clock_Set_Stop.f clock_Set_Left.f
  rw [has_eq, ← h1]
  simp only [Option.bind_some]
  by_cases hi : 0 ≤ id ∧ id < 32
  · rw [if_pos (by simp [hi]), if_pos hi]
    simp only [Option.bind_some]
    by_cases h0 : s.left.getD id.toNat 0 > 0
    · simp only [h0, decide_true, if_true, if_pos hi]
      exact ⟨_, { now := s.now, left := s.left.set id.toNat 0 }, { now := t.now, left := s.left.set id.toNat 0 }, rfl, rfl, rfl, h3.setv _ (by omega), h2⟩
    · simp only [h0, decide_false, Bool.false_eq_true, if_false]
      exact ⟨_, _, _, rfl, rfl, h1, h3, h2⟩
  · rw [if_neg (by simpa using hi)]
    simp only [Option.bind_some, Bool.false_eq_true, if_false]
    exact ⟨_, _, _, rfl, rfl, h1, h3, h2⟩
theorem pass_rel (h : Rel p q s t) (n : Int) (k : Nat) (hk : 1073742000 ≤ k) : ∃ x s' t', clock_Set_Pass.f k s n = some (x, s') ∧ clock_Set_Pass.f k t n = some (x, t') ∧ Rel p q s' t' ∧ x.length ≤ 32 := by
  obtain ⟨h1, h3, h2⟩ := h
  have hc := clamp_in n
  refine ⟨_, _, { now := IntKind.u32.wrap (t.now + IntKind.u32.wrap (clamp n)), left := s.left.map (fin (clamp n)) }, Pass_eq s h3 n k (by omega), by rw [Pass_eq t (h1 ▸ h3) n k (by omega), h1], ⟨rfl, ?_, ?_⟩, ?_⟩
  · have := fin_ok h3 (clamp n).toNat
    rw [show (((clamp n).toNat : Nat) : Int) = clamp n by omega] at this
    exact this
  · show IntKind.u32.wrap (IntKind.u32.wrap (s.now + IntKind.u32.wrap (clamp n)) - p) = IntKind.u32.wrap (IntKind.u32.wrap (t.now + IntKind.u32.wrap (clamp n)) - q)
    simp only [wrapu] at h2 ⊢
    omega
  · have hb := spec_busy (l := s.left) (fun v hv => (h3.2 v hv).1) (clamp n).toNat
    have hl := busy_le s.left
    have := h3.1
    omega
theorem same_tail (h : Rel p q s t) (X : Option Bool) : ((clock_Set_Now.f s).bind fun t30 => ((clock_Set_Now.f t).bind fun t32 => (if (IntKind.u32.wrap (t30 - p)) = (IntKind.u32.wrap (t32 - q)) then X else some (false)))) = X := by
  unfold clock_Set_Now.f
  simp only [Option.bind_some]
  rw [if_pos h.2.2]
theorem wraps_l0 (p q : Int) (l : List signalmanlaw7_Act) (hl : l.length ≤ 100) : ∀ (j k i : Nat) (s t : clock_Set), i ≤ l.length → l.length - i = j → 1073742000 + j < k → Rel p q s t → signalmanlaw7_ClockWraps.l0 k p q l i t s = some true := by
  intro j
  induction j with
  | zero =>
    intro k i s t hi hj hk hr
    obtain ⟨k, rfl⟩ : ∃ k', k = k' + 1 := ⟨k - 1, by omega⟩
    rw [signalmanlaw7_ClockWraps.l0, if_neg (by omega)]
  | succ j ih =>
    intro k i s t hi hj hk hr
    obtain ⟨k, rfl⟩ : ∃ k', k = k' + 1 := ⟨k - 1, by omega⟩
    have e1 : w64 ((i : Int) + 1) = ((i + 1 : Nat) : Int) := by rw [w64_in (by omega)]; omega
    rw [signalmanlaw7_ClockWraps.l0, if_pos (by omega), if_pos (by omega), e1]
    generalize l.getD (i : Int).toNat default = a
    by_cases w0 : a.Way = 0
    · obtain ⟨b, s', t', f1, f2, f3⟩ := start_rel hr a.Id a.N
      rw [if_pos w0, f1]
      simp only [Option.bind_some]
      rw [f2]
      simp only [Option.bind_some]
      rw [if_neg (by simp), same_tail f3]
      exact ih k (i + 1) s' t' (by omega) (by omega) (by omega) f3
    · by_cases w1 : a.Way = 1
      · obtain ⟨b, s', t', f1, f2, f3⟩ := stop_rel hr a.Id
        rw [if_neg w0, if_pos w1, f1]
        simp only [Option.bind_some]
        rw [f2]
        simp only [Option.bind_some]
        rw [if_neg (by simp), same_tail f3]
        exact ih k (i + 1) s' t' (by omega) (by omega) (by omega) f3
      · obtain ⟨x, s', t', f1, f2, f3, f4⟩ := pass_rel hr a.N k (by omega)
        rw [if_neg w0, if_neg w1, f1]
        simp only [Option.bind_some]
        rw [f2]
        simp only [Option.bind_some]
        rw [same_eq x (by omega) k (by omega)]
        simp only [Option.bind_some, if_true]
        rw [same_tail f3]
        exact ih k (i + 1) s' t' (by omega) (by omega) (by omega) f3
theorem zero_ok : okL (List.replicate 32 0) := ⟨by simp, by decide⟩
theorem ClockWraps : signalmanlaw7_ClockWraps.Pure := by
  intro a b l _ _ _ _
  obtain ⟨K, hK⟩ : ∃ K : Nat, 2000000000 ≤ K := ⟨_, Nat.le_refl _⟩
  refine ⟨K, ?_⟩
  unfold signalmanlaw7_ClockWraps.f
  rw [alive_any K (by omega)]
  simp only [Option.bind_some, if_true]
  by_cases c1 : (l.length : Int) > 100
  · rw [if_pos c1]
  rw [if_neg c1]
  unfold clock_New.f
  simp only [Option.bind_some]
  exact wraps_l0 a b l (by omega) l.length K 0 _ _ (by omega) (by omega) (by omega) ⟨rfl, zero_ok, by simp⟩
end Go.Proofs.Ytmknlnpjimfliaa

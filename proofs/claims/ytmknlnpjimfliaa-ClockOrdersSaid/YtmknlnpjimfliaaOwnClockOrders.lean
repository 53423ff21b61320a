/- ClockOrders: for all rows of times within the guards, timers expire in the documented order, whether the time passes at once or step by step. Conditions: none beyond those of the given statement. -/
import Derived.Test.YtmknlnpjimfliaaRunClockOrders
import Derived.KernelRfl
set_option linter.all false
namespace Go.Proofs.Ytmknlnpjimfliaa
open Go.RowKit Go.Proofs.Ytmknlnpjimfliaa.Walk
/-! ### What the clock's functions come to. -/
def sStep (p : Int × Bool) (v : Int) : Int × Bool := if v > 0 ∧ v ≤ p.1 then (v, true) else p
theorem soonest_l0 (s : clock_Set) (hs : s.left.length = 32) : ∀ (j k : Nat) (x : Int) (ok : Bool) (i : Nat), i ≤ 32 → 32 - i = j → j < k → clock_Set_soonest.l0 k s x ok i = some ((s.left.drop i).foldl sStep (x, ok)) := by
  intro j
  induction j with
  | zero =>
    intro k x ok i hi hj hk
    obtain ⟨k, rfl⟩ : ∃ k', k = k' + 1 := ⟨k - 1, by omega⟩
    have : i = 32 := by omega
    subst this
    rw [clock_Set_soonest.l0, if_neg (by decide), List.drop_eq_nil_of_le (by omega)]
    rfl
  | succ j ih =>
    intro k x ok i hi hj hk
    obtain ⟨k, rfl⟩ : ∃ k', k = k' + 1 := ⟨k - 1, by omega⟩
    have hlt : i < s.left.length := by omega
    have e1 : w64 ((i : Int) + 1) = ((i + 1 : Nat) : Int) := by rw [w64_in (by omega)]; omega
    rw [clock_Set_soonest.l0, if_pos (by omega), if_pos (by omega), e1]
    simp only [ih k _ _ (i + 1) (by omega) (by omega) (by omega)]
    rw [List.drop_eq_getElem_cons hlt, List.foldl_cons]
    have e2 : s.left.getD (i : Int).toNat 0 = s.left[i] := by simp [List.getD, hlt]
    rw [e2]
    unfold sStep
    by_cases h1 : s.left[i] > 0
    · by_cases h2 : s.left[i] ≤ x
      · simp [h1, h2]
      · simp [h1, h2]
    · simp [h1]
theorem soonest_eq (s : clock_Set) (hs : s.left.length = 32) (n : Int) (k : Nat) (hk : 33 ≤ k) : clock_Set_soonest.f k s n = some (s.left.foldl sStep (n, false)) := by
  unfold clock_Set_soonest.f
  have := soonest_l0 s hs 32 k n false 0 (by omega) (by omega) (by omega)
  simpa using this
theorem fold_sStep : ∀ (l : List Int) (x : Int) (ok : Bool), let r := l.foldl sStep (x, ok); r.1 ≤ x ∧ (∀ v ∈ l, 0 < v → v ≤ x → r.1 ≤ v) ∧ (r.1 = x ∨ 0 < r.1) ∧ (r.2 = false → ok = false ∧ r.1 = x ∧ ∀ v ∈ l, ¬ (0 < v ∧ v ≤ x)) ∧ (ok = false → r.2 = true → r.1 ∈ l ∧ 0 < r.1)
  | [], x, ok => by simp
  | v :: l, x, ok => by
    intro r
    have hr : r = l.foldl sStep (if v > 0 ∧ v ≤ x then (v, true) else (x, ok)) := rfl
    by_cases hv : v > 0 ∧ v ≤ x
    · rw [if_pos hv] at hr
      obtain ⟨h1, h2, h3, h4, h5⟩ := fold_sStep l v true
      change _ at h1 h2 h3 h4 h5
      rw [← hr] at h1 h2 h3 h4
      refine ⟨by omega, fun u hu h0 hx => ?_, by omega, fun h => ?_, fun h h' => ?_⟩
      · rcases List.mem_cons.1 hu with e | e
        · subst e; omega
        · by_cases huv : u ≤ v
          · exact h2 u e h0 huv
          · omega
      · have := (h4 h).1; cases this
      · have hpos : 0 < r.1 := by rcases h3 with e | e <;> omega
        refine ⟨?_, hpos⟩
        -- it is v, or one behind it
        have key : ∀ (l : List Int) (p : Int × Bool), (l.foldl sStep p).1 = p.1 ∨ (l.foldl sStep p).1 ∈ l := by
          intro l
          induction l with
          | nil => intro p; left; rfl
          | cons a l ih =>
            intro p
            rw [List.foldl_cons]
            rcases ih (sStep p a) with e | e
            · rw [e]; unfold sStep; split
              · right; simp
              · left; rfl
            · right; exact List.mem_cons_of_mem _ e
        rw [hr]
        rcases key l (v, true) with e | e
        · rw [e]; simp
        · exact List.mem_cons_of_mem _ e
    · rw [if_neg hv] at hr
      obtain ⟨h1, h2, h3, h4, h5⟩ := fold_sStep l x ok
      rw [← hr] at h1 h2 h3 h4 h5
      refine ⟨h1, fun u hu h0 hx => ?_, h3, fun h => ?_, fun h h' => ?_⟩
      · rcases List.mem_cons.1 hu with e | e
        · subst e; exact absurd ⟨h0, hx⟩ hv
        · exact h2 u e h0 hx
      · obtain ⟨g1, g2, g3⟩ := h4 h
        refine ⟨g1, g2, fun u hu => ?_⟩
        rcases List.mem_cons.1 hu with e | e
        · subst e; exact hv
        · exact g3 u e
      · exact ⟨List.mem_cons_of_mem _ (h5 h h').1, (h5 h h').2⟩

/-- The numbers of those that stand at t, from i on. -/
def hits (t : Int) : Nat → List Int → List Int
  | _, [] => []
  | i, v :: r => if v = t then (i : Int) :: hits t (i + 1) r else hits t (i + 1) r
def turn (n v : Int) : Int := if v = 0 then 0 else w64 (v - n)
theorem pass_l0 (s : clock_Set) (hs : s.left.length = 32) (n : Int) (hn : n ≠ 0) : ∀ (j k : Nat) (i : Nat) (s' : clock_Set) (out : List Int), i ≤ 32 → 32 - i = j → j < k → s'.left.length = 32 → s'.left.drop i = s.left.drop i → out.length ≤ i →
    clock_Set_pass.l0 k s n i s' out = some (out ++ hits n i (s.left.drop i), { now := s'.now, left := s'.left.take i ++ (s.left.drop i).map (turn n) }) := by
  intro j
  induction j with
  | zero =>
    intro k i s' out hi hj hk hs' hd ho
    obtain ⟨k, rfl⟩ : ∃ k', k = k' + 1 := ⟨k - 1, by omega⟩
    have : i = 32 := by omega
    subst this
    rw [clock_Set_pass.l0, if_neg (by decide), List.drop_eq_nil_of_le (by omega)]
    simp only [hits, List.map_nil, List.append_nil]
    rw [List.take_of_length_le (by omega)]
  | succ j ih =>
    intro k i s' out hi hj hk hs' hd ho
    obtain ⟨k, rfl⟩ : ∃ k', k = k' + 1 := ⟨k - 1, by omega⟩
    have hlt : i < s.left.length := by omega
    have hlt' : i < s'.left.length := by omega
    have e1 : w64 ((i : Int) + 1) = ((i + 1 : Nat) : Int) := by rw [w64_in (by omega)]; omega
    have e2 : s.left.getD (i : Int).toNat 0 = s.left[i] := by simp [List.getD, hlt]
    have hd1 : s'.left.drop (i + 1) = s.left.drop (i + 1) := by
      have := congrArg (List.drop 1) hd
      simpa [List.drop_drop, Nat.add_comm] using this
    have hsi : s'.left[i] = s.left[i] := by
      have h1 := List.drop_eq_getElem_cons hlt
      have h2 := List.drop_eq_getElem_cons hlt'
      rw [h1, h2] at hd
      exact (List.cons.inj hd).1
    have htake : s'.left.take (i + 1) = s'.left.take i ++ [s'.left[i]] := by rw [List.take_succ_eq_append_getElem hlt']
    rw [clock_Set_pass.l0, if_pos (by omega), if_pos (by omega), e1, e2, List.drop_eq_getElem_cons hlt]
    have hset : ∀ x : Int, (s'.left.set i x).take (i + 1) = s'.left.take i ++ [x] := by
      intro x
      rw [List.take_succ_eq_append_getElem (by simpa using hlt'), List.take_set_of_le (Nat.le_refl i)]
      simp
    have hdrop : ∀ x : Int, (s'.left.set i x).drop (i + 1) = s.left.drop (i + 1) := by
      intro x
      rw [List.drop_set_of_lt (by omega), hd1]
    by_cases h0 : s.left[i] = 0
    · rw [if_pos h0, ih k (i + 1) s' out (by omega) (by omega) (by omega) hs' hd1 (by omega)]
      rw [htake, hsi]
      simp [hits, turn, h0, Ne.symm hn]
    · rw [if_neg h0]
      by_cases h1 : s.left[i] = n
      · rw [if_pos h1, if_pos (by simp; omega)]
        rw [ih k (i + 1) _ _ (by omega) (by omega) (by omega) (by simpa using hs') (by simpa using hdrop _) (by simp; omega)]
        simp only [Int.toNat_natCast, hset]
        simp only [hits, turn, h1, if_neg hn, if_true, List.map_cons, List.append_assoc, List.cons_append, List.nil_append]
      · rw [if_neg h1]
        rw [ih k (i + 1) _ _ (by omega) (by omega) (by omega) (by simpa using hs') (by simpa using hdrop _) (by omega)]
        simp only [Int.toNat_natCast, hset]
        simp only [hits, turn, if_neg h0, if_neg h1, List.map_cons, List.append_assoc, List.cons_append, List.nil_append]
theorem pass_eq (s : clock_Set) (hs : s.left.length = 32) (n : Int) (hn : n ≠ 0) (k : Nat) (hk : 33 ≤ k) : clock_Set_pass.f k s n = some (hits n 0 s.left, { now := s.now, left := s.left.map (turn n) }) := by
  unfold clock_Set_pass.f
  have := pass_l0 s hs n hn 32 k 0 s [] (by omega) (by omega) (by omega) hs rfl (by simp)
  simpa using this
/-- With 0 nothing turns, and what comes out is not asked. -/
theorem pass0_l0 (s : clock_Set) (hs : s.left.length = 32) : ∀ (j k : Nat) (i : Nat) (s' : clock_Set) (out : List Int), i ≤ 32 → 32 - i = j → j < k → s'.left.length = 32 → s'.left.drop i = s.left.drop i → out.length ≤ i →
    clock_Set_pass.l0 k s 0 i s' out = some (out, { now := s'.now, left := s'.left.take i ++ (s.left.drop i).map (turn 0) }) := by
  intro j
  induction j with
  | zero =>
    intro k i s' out hi hj hk hs' hd ho
    obtain ⟨k, rfl⟩ : ∃ k', k = k' + 1 := ⟨k - 1, by omega⟩
    have : i = 32 := by omega
    subst this
    rw [clock_Set_pass.l0, if_neg (by decide), List.drop_eq_nil_of_le (by omega)]
    simp only [List.map_nil, List.append_nil]
    rw [List.take_of_length_le (by omega)]
  | succ j ih =>
    intro k i s' out hi hj hk hs' hd ho
    obtain ⟨k, rfl⟩ : ∃ k', k = k' + 1 := ⟨k - 1, by omega⟩
    have hlt : i < s.left.length := by omega
    have hlt' : i < s'.left.length := by omega
    have e1 : w64 ((i : Int) + 1) = ((i + 1 : Nat) : Int) := by rw [w64_in (by omega)]; omega
    have e2 : s.left.getD (i : Int).toNat 0 = s.left[i] := by simp [List.getD, hlt]
    have hd1 : s'.left.drop (i + 1) = s.left.drop (i + 1) := by
      have := congrArg (List.drop 1) hd
      simpa [List.drop_drop, Nat.add_comm] using this
    have hsi : s'.left[i] = s.left[i] := by
      have h1 := List.drop_eq_getElem_cons hlt
      have h2 := List.drop_eq_getElem_cons hlt'
      rw [h1, h2] at hd
      exact (List.cons.inj hd).1
    have htake : s'.left.take (i + 1) = s'.left.take i ++ [s'.left[i]] := by rw [List.take_succ_eq_append_getElem hlt']
    rw [clock_Set_pass.l0, if_pos (by omega), if_pos (by omega), e1, e2, List.drop_eq_getElem_cons hlt]
    have hset : ∀ x : Int, (s'.left.set i x).take (i + 1) = s'.left.take i ++ [x] := by
      intro x
      rw [List.take_succ_eq_append_getElem (by simpa using hlt'), List.take_set_of_le (Nat.le_refl i)]
      simp
    have hdrop : ∀ x : Int, (s'.left.set i x).drop (i + 1) = s.left.drop (i + 1) := by
      intro x
      rw [List.drop_set_of_lt (by omega), hd1]
    by_cases h0 : s.left[i] = 0
    · rw [if_pos h0, ih k (i + 1) s' out (by omega) (by omega) (by omega) hs' hd1 (by omega)]
      rw [htake, hsi]
      simp [turn, h0]
    · rw [if_neg h0, if_neg h0]
      rw [ih k (i + 1) _ _ (by omega) (by omega) (by omega) (by simpa using hs') (by simpa using hdrop _) (by omega)]
      simp only [Int.toNat_natCast, hset]
      simp only [turn, if_neg h0, List.map_cons, List.append_assoc, List.cons_append, List.nil_append]
theorem pass0_eq (s : clock_Set) (hs : s.left.length = 32) (k : Nat) (hk : 33 ≤ k) : clock_Set_pass.f k s 0 = some ([], { now := s.now, left := s.left.map (turn 0) }) := by
  unfold clock_Set_pass.f
  have := pass0_l0 s hs 32 k 0 s [] (by omega) (by omega) (by omega) hs rfl (by simp)
  simpa using this

/-- The numbers of those that expire within n, in order. -/
def spec (l : List Int) : Nat → List Int
  | 0 => []
  | n + 1 => spec l n ++ hits ((n + 1 : Nat) : Int) 0 l
def fin (n v : Int) : Int := if v > n then v - n else 0
def busy (l : List Int) : Nat := (l.filter (· ≠ 0)).length
/-- What may stand in a clock. -/
def okL (l : List Int) : Prop := l.length = 32 ∧ ∀ v ∈ l, 0 ≤ v ∧ v ≤ 1073741824
theorem hits_none {t : Int} : ∀ {l : List Int} (i : Nat), (∀ v ∈ l, v ≠ t) → hits t i l = []
  | [], _, _ => rfl
  | v :: r, i, h => by rw [hits, if_neg (h v (.head _)), hits_none (i + 1) fun u hu => h u (.tail _ hu)]
theorem spec_none {l : List Int} : ∀ {n : Nat}, (∀ v ∈ l, ¬ (0 < v ∧ v ≤ n)) → spec l n = []
  | 0, _ => rfl
  | n + 1, h => by rw [spec, spec_none (fun v hv h2 => h v hv ⟨h2.1, by omega⟩), hits_none 0 (fun v hv e => h v hv ⟨by omega, by omega⟩)]; rfl
theorem hits_turn {m t : Int} (hm : 0 < m) (ht : m < t) : ∀ {l : List Int} (i : Nat), (∀ v ∈ l, 0 ≤ v ∧ v ≤ 1073741824 ∧ (0 < v → m ≤ v)) → hits (t - m) i (l.map (turn m)) = hits t i l
  | [], _, _ => rfl
  | v :: r, i, h => by
    obtain ⟨h1, h2, h3⟩ := h v (.head _)
    rw [List.map_cons, hits, hits, hits_turn hm ht (i + 1) fun u hu => h u (.tail _ hu)]
    unfold turn
    by_cases h0 : v = 0
    · subst h0
      rw [if_pos rfl, if_neg (by omega), if_neg (by omega)]
    · rw [if_neg h0, w64_in (by have := h3 (by omega); omega)]
      by_cases e : v = t
      · rw [if_pos (by omega), if_pos e]
      · rw [if_neg (by omega), if_neg e]
theorem spec_turn {l : List Int} {m : Nat} (hm : 0 < m) (hl : ∀ v ∈ l, 0 ≤ v ∧ v ≤ 1073741824 ∧ (0 < v → (m : Int) ≤ v)) : ∀ (d : Nat), spec l (m + d) = hits m 0 l ++ spec (l.map (turn m)) d
  | 0 => by
    obtain ⟨p, rfl⟩ : ∃ p, m = p + 1 := ⟨m - 1, by omega⟩
    have h0 : spec l p = [] := spec_none (n := p) fun v hv h => by have := (hl v hv).2.2 h.1; omega
    show spec l p ++ hits ((p + 1 : Nat) : Int) 0 l = hits ((p + 1 : Nat) : Int) 0 l ++ []
    rw [h0, List.nil_append, List.append_nil]
  | d + 1 => by
    show spec l (m + d + 1) = _
    rw [spec, spec_turn hm hl d, spec, List.append_assoc]
    congr 2
    have := hits_turn (m := m) (t := ((m + d + 1 : Nat) : Int)) (by omega) (by omega) 0 hl
    rw [← this]
    congr 1
    omega
theorem busy_turn {m : Int} (hm : 0 < m) : ∀ {l : List Int} (i : Nat), (∀ v ∈ l, 0 ≤ v ∧ v ≤ 1073741824 ∧ (0 < v → m ≤ v)) → (hits m i l).length + busy (l.map (turn m)) ≤ busy l
  | [], _, _ => by simp [hits, busy]
  | v :: r, i, h => by
    obtain ⟨h1, h2, h3⟩ := h v (.head _)
    have ih := busy_turn hm (i + 1) fun u hu => h u (.tail _ hu)
    unfold busy at ih ⊢
    rw [List.map_cons, hits]
    unfold turn at ih ⊢
    by_cases h0 : v = 0
    · subst h0
      rw [if_neg (by omega)]
      simpa using ih
    · have h4 := h3 (by omega)
      rw [if_neg h0, w64_in (by omega)]
      by_cases e : v = m
      · rw [if_pos e]
        simp [e, show m ≠ 0 by omega]; (try simp at ih); omega
      · rw [if_neg e]
        simp [h0, show v - m ≠ 0 by omega]; (try simp at ih); omega
theorem okL.turn {l : List Int} {m : Int} (h : okL l) (hm : 0 < m) (h3 : ∀ v ∈ l, 0 < v → m ≤ v) : okL (l.map (turn m)) := by
  refine ⟨by simpa using h.1, fun v hv => ?_⟩
  obtain ⟨u, hu, rfl⟩ := List.mem_map.1 hv
  have h1 := h.2 u hu
  have h2 := h3 u hu
  by_cases h0 : u = 0
  · subst h0; simp [Go.Proofs.Ytmknlnpjimfliaa.turn]
  · have e : Go.Proofs.Ytmknlnpjimfliaa.turn m u = u - m := by show (if u = 0 then 0 else w64 (u - m)) = _; rw [if_neg h0, w64_in (by omega)]
    rw [e]; omega
theorem fin_turn {m n : Int} (hm : 0 < m) (hmn : m ≤ n) {v : Int} (h : 0 ≤ v ∧ v ≤ 1073741824 ∧ (0 < v → m ≤ v)) : fin (n - m) (turn m v) = fin n v := by
  unfold fin
  by_cases h0 : v = 0
  · subst h0
    have e : turn m 0 = 0 := by simp [turn]
    rw [e, if_neg (by omega), if_neg (by omega)]
  · have e : turn m v = v - m := by
      show (if v = 0 then 0 else w64 (v - m)) = _
      rw [if_neg h0, w64_in (by omega)]
    rw [e]
    by_cases h1 : v > n
    · rw [if_pos (by omega), if_pos h1]; omega
    · rw [if_neg (by omega), if_neg h1]
theorem Pass_l0 : ∀ (N : Nat) (s : clock_Set) (n : Nat) (out : List Int) (k : Nat), n ≤ N → n ≤ 1073741824 → okL s.left → out.length + busy s.left ≤ 1000000 → N + 40 < k →
    clock_Set_Pass.l0 k n (s.left.foldl sStep ((n : Int), false)).1 (s.left.foldl sStep ((n : Int), false)).2 out s = some (out ++ spec s.left n, { now := s.now, left := s.left.map (fin n) }) := by
  intro N
  induction N with
  | zero =>
    intro s n out k hn hn2 hs ho hk
    obtain ⟨k, rfl⟩ : ∃ k', k = k' + 1 := ⟨k - 1, by omega⟩
    obtain rfl : n = 0 := by omega
    obtain ⟨h1, h2, h3, h4, h5⟩ := fold_sStep s.left (0 : Nat) false
    cases hr : (s.left.foldl sStep (((0 : Nat) : Int), false)).2 with
    | true =>
      have := (h5 rfl hr).2
      omega
    | false =>
      rw [clock_Set_Pass.l0, if_neg (by simp)]
      rw [show (((0 : Nat) : Int)) = 0 from rfl, pass0_eq s hs.1 k (by omega)]
      simp only [Option.bind_some, spec, List.append_nil]
      refine congrArg some (Prod.ext rfl (congrArg (fun l => ({ now := s.now, left := l } : clock_Set)) ?_))
      refine List.map_congr_left fun v hv => ?_
      have hv' := hs.2 v hv
      unfold fin
      by_cases h0 : v = 0
      · subst h0; simp [turn]
      · rw [if_pos (by omega)]
        show (if v = 0 then 0 else w64 (v - 0)) = _
        rw [if_neg h0, w64_in (by omega)]
  | succ N ih =>
    intro s n out k hn hn2 hs ho hk
    obtain ⟨k, rfl⟩ : ∃ k', k = k' + 1 := ⟨k - 1, by omega⟩
    obtain ⟨h1, h2, h3, h4, h5⟩ := fold_sStep s.left (n : Int) false
    cases hr : (s.left.foldl sStep ((n : Int), false)).2 with
    | true =>
      obtain ⟨hm, hpos⟩ := h5 rfl hr
      generalize hmv : (s.left.foldl sStep ((n : Int), false)).1 = m at h1 h2 h3 hm hpos ⊢
      obtain ⟨p, rfl⟩ : ∃ p : Nat, m = p := ⟨m.toNat, by omega⟩
      have hmin : ∀ v ∈ s.left, 0 < v → (p : Int) ≤ v := fun v hv h0 => by
        by_cases hx : v ≤ n
        · exact h2 v hv h0 hx
        · omega
      have hall : ∀ v ∈ s.left, 0 ≤ v ∧ v ≤ 1073741824 ∧ (0 < v → (p : Int) ≤ v) := fun v hv => ⟨(hs.2 v hv).1, (hs.2 v hv).2, hmin v hv⟩
      have hb := busy_turn (m := p) (by omega) 0 hall
      have hok := hs.turn (m := p) (by omega) hmin
      rw [clock_Set_Pass.l0, if_pos rfl, pass_eq s hs.1 p (by omega) k (by omega)]
      simp only [Option.bind_some]
      rw [if_pos (by omega), show w64 ((n : Int) - p) = ((n - p : Nat) : Int) by rw [w64_in (by omega)]; omega, soonest_eq _ hok.1 _ _ (by omega)]
      simp only [Option.bind_some]
      rw [ih { now := s.now, left := s.left.map (turn p) } (n - p) _ k (by omega) (by omega) hok (by simp only [List.length_append]; omega) (by omega)]
      have e1 := spec_turn (l := s.left) (m := p) (by omega) hall (n - p)
      rw [show p + (n - p) = n by omega] at e1
      rw [e1, List.append_assoc]
      refine congrArg some (Prod.ext rfl (congrArg (fun l => ({ now := s.now, left := l } : clock_Set)) ?_))
      rw [List.map_map]
      refine List.map_congr_left fun v hv => ?_
      have := fin_turn (m := p) (n := n) (by omega) (by omega) (hall v hv)
      simp only [Function.comp]
      rw [show ((n - p : Nat) : Int) = (n : Int) - p by omega]
      exact this
    | false =>
      obtain ⟨_, _, h6⟩ := h4 hr
      rw [clock_Set_Pass.l0, if_neg (by simp)]
      have hfin : ∀ v ∈ s.left, turn n v = fin n v := by
        intro v hv
        have hv' := hs.2 v hv
        have := h6 v hv
        unfold fin
        by_cases h0 : v = 0
        · subst h0
          rw [if_neg (by omega)]; simp [turn]
        · rw [if_pos (by omega)]
          show (if v = 0 then 0 else w64 (v - n)) = _
          rw [if_neg h0, w64_in (by omega)]
      by_cases hz : n = 0
      · subst hz
        rw [show (((0 : Nat) : Int)) = 0 from rfl, pass0_eq s hs.1 k (by omega)]
        simp only [Option.bind_some, spec, List.append_nil]
        exact congrArg some (Prod.ext rfl (congrArg (fun l => ({ now := s.now, left := l } : clock_Set)) (List.map_congr_left hfin)))
      · rw [pass_eq s hs.1 n (by omega) k (by omega)]
        simp only [Option.bind_some]
        rw [spec_none h6, List.append_nil]
        exact congrArg some (Prod.ext rfl (congrArg (fun l => ({ now := s.now, left := l } : clock_Set)) (List.map_congr_left hfin)))
def clamp (n : Int) : Int := imax 0 (imin n 1073741824)
theorem clamp_in (n : Int) : 0 ≤ clamp n ∧ clamp n ≤ 1073741824 := by unfold clamp imax imin; constructor <;> (repeat' split) <;> omega
theorem clamp_id {n : Int} (h : 0 ≤ n ∧ n ≤ 1073741824) : clamp n = n := by unfold clamp imax imin; (repeat' split) <;> omega
theorem busy_le (l : List Int) : busy l ≤ l.length := List.length_filter_le _ _
theorem Pass_eq (s : clock_Set) (hs : okL s.left) (n : Int) (k : Nat) (hk : (clamp n).toNat + 41 ≤ k) : clock_Set_Pass.f k s n = some (spec s.left (clamp n).toNat, { now := IntKind.u32.wrap (s.now + IntKind.u32.wrap (clamp n)), left := s.left.map (fin (clamp n)) }) := by
  have hc := clamp_in n
  have hb := busy_le s.left
  have hs1 := hs.1
  unfold clock_Set_Pass.f
  show (clock_Set_soonest.f k { now := IntKind.u32.wrap (s.now + IntKind.u32.wrap (clamp n)), left := s.left } (clamp n)).bind _ = _
  have hsn := soonest_eq { now := IntKind.u32.wrap (s.now + IntKind.u32.wrap (clamp n)), left := s.left } hs.1 (clamp n) k (by omega)
  rw [hsn]
  simp only [Option.bind_some]
  have e : clamp n = ((clamp n).toNat : Int) := by omega
  have := Pass_l0 (clamp n).toNat { now := IntKind.u32.wrap (s.now + IntKind.u32.wrap (clamp n)), left := s.left } (clamp n).toNat [] k (Nat.le_refl _) (by omega) hs (by simp; omega) (by omega)
  rw [← e] at this
  exact this
def low (x : Int) : Int := iand .i64 x 255
theorem low_in (x : Int) : 0 ≤ low x ∧ low x ≤ 255 := by
  unfold low iand
  have h : (BitVec.ofInt 64 x &&& BitVec.ofInt 64 255).toNat ≤ 255 := by
    rw [BitVec.toNat_and]
    exact Nat.le_trans Nat.and_le_right (by decide)
  have e : IntKind.i64.wrap ((BitVec.ofInt IntKind.i64.bits x &&& BitVec.ofInt IntKind.i64.bits 255).toNat : Int) = ((BitVec.ofInt 64 x &&& BitVec.ofInt 64 255).toNat : Int) := w64_in (by
    show -9223372036854775808 ≤ ((BitVec.ofInt 64 x &&& BitVec.ofInt 64 255).toNat : Int) ∧ _
    constructor
    · omega
    · show ((BitVec.ofInt 64 x &&& BitVec.ofInt 64 255).toNat : Int) ≤ _
      omega)
  rw [e]; omega
/-- What both clocks begin with. -/
def first (l : List Int) (i : Nat) : List Int := (l.take i).map (fun x => 1 + low x) ++ List.replicate (32 - i) 0
theorem first_len {l : List Int} {i : Nat} (h : l.length ≤ 32) (hi : i ≤ l.length) : (first l i).length = 32 := by simp [first]; omega
theorem start_first {l : List Int} (h : l.length ≤ 32) {i : Nat} (hi : i < l.length) : clock_Set_Start.f { now := 0, left := first l i } i (w64 (1 + low (l.getD i 0))) = some (true, { now := 0, left := first l (i + 1) }) := by
  have hl := low_in (l.getD i 0)
  have hg : l.getD i 0 = l[i] := by simp [List.getD, hi]
  have e1 : imax 1 (imin (1 + low (l.getD i 0)) 1073741824) = 1 + low (l.getD i 0) := by unfold imax imin; (repeat' split) <;> omega
  unfold clock_Set_Start.f clock_has.f
  rw [if_pos (by omega)]
  simp only [Option.bind_some]
  rw [if_pos (by simp; omega), if_pos (by omega), w64_in (by omega), e1, decide_eq_true (show (i : Int) < 32 by omega)]
  refine congrArg some (Prod.ext rfl (congrArg (fun l => ({ now := 0, left := l } : clock_Set)) ?_))
  unfold first
  have ht : ((l.take i).map fun x => 1 + low x).length = i := by simp; omega
  rw [show (32 - i) = (32 - (i + 1)) + 1 by omega, List.replicate_succ, List.set_append_right _ _ (by simp; omega), hg]
  rw [show ((i : Int).toNat - ((l.take i).map fun x => 1 + low x).length) = 0 by omega, List.set_cons_zero, List.take_succ_eq_append_getElem hi, List.map_append, List.append_assoc]
  rfl
theorem first_ok {l : List Int} (h : l.length ≤ 32) : okL (first l l.length) := by
  refine ⟨first_len h (Nat.le_refl _), fun v hv => ?_⟩
  unfold first at hv
  rcases List.mem_append.1 hv with h1 | h1
  · obtain ⟨x, _, rfl⟩ := List.mem_map.1 h1
    have := low_in x
    omega
  · have := List.eq_of_mem_replicate h1; omega
theorem hits_len {t : Int} : ∀ {l : List Int} (i : Nat), (hits t i l).length ≤ l.length
  | [], _ => Nat.le_refl _
  | v :: r, i => by
    have := hits_len (t := t) (l := r) (i + 1)
    rw [hits]; split <;> simp <;> omega
theorem spec_len {l : List Int} : ∀ (n : Nat), (spec l n).length ≤ l.length * n
  | 0 => by simp [spec]
  | n + 1 => by
    have h1 := spec_len (l := l) n
    have h2 := hits_len (t := ((n + 1 : Nat) : Int)) (l := l) 0
    rw [spec, List.length_append, Nat.mul_succ]; omega
theorem hits_fin {t : Nat} : ∀ {l : List Int} (i : Nat), (∀ v ∈ l, 0 ≤ v) → hits 1 i (l.map (fin t)) = hits ((t + 1 : Nat) : Int) i l
  | [], _, _ => rfl
  | v :: r, i, h => by
    have h0 := h v (.head _)
    rw [List.map_cons, hits, hits, hits_fin (i + 1) fun u hu => h u (.tail _ hu)]
    unfold fin
    by_cases h1 : v > t
    · rw [if_pos h1]
      by_cases h2 : v = ((t + 1 : Nat) : Int)
      · rw [if_pos (by omega), if_pos h2]
      · rw [if_neg (by omega), if_neg h2]
    · rw [if_neg h1, if_neg (by omega), if_neg (by omega)]
theorem fin_fin {t : Nat} {v : Int} (h : 0 ≤ v) : fin 1 (fin t v) = fin ((t + 1 : Nat) : Int) v := by
  unfold fin
  by_cases h1 : v > t
  · rw [if_pos h1]
    by_cases h2 : v > ((t + 1 : Nat) : Int)
    · rw [if_pos (by omega), if_pos h2]; omega
    · rw [if_neg (by omega), if_neg h2]
  · rw [if_neg h1, if_neg (by omega), if_neg (by omega)]
theorem fin_zero {l : List Int} (h : ∀ v ∈ l, 0 ≤ v) : l.map (fin 0) = l := by
  have : l.map (fin 0) = l.map id := List.map_congr_left fun v hv => by
    have := h v hv
    unfold fin
    split
    · simp
    · simp; omega
  rw [this, List.map_id]
theorem fin_ok {l : List Int} (h : okL l) (n : Nat) : okL (l.map (fin n)) := by
  refine ⟨by simpa using h.1, fun v hv => ?_⟩
  obtain ⟨u, hu, rfl⟩ := List.mem_map.1 hv
  have := h.2 u hu
  unfold fin
  split <;> omega
theorem same_l0 (xs : List Int) (hx : xs.length ≤ 100000) : ∀ (j k : Nat) (i : Nat), i ≤ xs.length → xs.length - i = j → j < k → signalmanref6_SameInts.l0 k xs xs i = some true := by
  intro j
  induction j with
  | zero =>
    intro k i hi hj hk
    obtain ⟨k, rfl⟩ : ∃ k', k = k' + 1 := ⟨k - 1, by omega⟩
    rw [signalmanref6_SameInts.l0, if_neg (by omega)]
  | succ j ih =>
    intro k i hi hj hk
    obtain ⟨k, rfl⟩ : ∃ k', k = k' + 1 := ⟨k - 1, by omega⟩
    rw [signalmanref6_SameInts.l0, if_pos (by omega), if_pos (by omega), if_pos (by omega), if_pos rfl, show w64 ((i : Int) + 1) = ((i + 1 : Nat) : Int) by rw [w64_in (by omega)]; omega]
    exact ih k (i + 1) (by omega) (by omega) (by omega)
theorem same_eq (xs : List Int) (hx : xs.length ≤ 100000) (k : Nat) (hk : xs.length + 1 ≤ k) : signalmanref6_SameInts.f k xs xs = some true := by
  unfold signalmanref6_SameInts.f
  rw [if_pos rfl]
  exact same_l0 xs hx xs.length k 0 (by omega) (by omega) (by omega)
/-- What stands at a number. -/
def at_ (l : List Int) (x : Int) : Int := l.getD x.toNat 0
theorem hits_mem {t x : Int} : ∀ {l : List Int} {i : Nat}, x ∈ hits t i l → ∃ j, j < l.length ∧ x = ((i + j : Nat) : Int) ∧ l[j]? = some t
  | [], _, h => by simp [hits] at h
  | v :: r, i, h => by
    rw [hits] at h
    split at h
    · rename_i hv
      rcases List.mem_cons.1 h with h | h
      · exact ⟨0, by simp, by simpa using h, by simp [hv]⟩
      · obtain ⟨j, h1, h2, h3⟩ := hits_mem h
        exact ⟨j + 1, by simpa using h1, by rw [h2]; congr 1; omega, by simpa using h3⟩
    · obtain ⟨j, h1, h2, h3⟩ := hits_mem h
      exact ⟨j + 1, by simpa using h1, by rw [h2]; congr 1; omega, by simpa using h3⟩
theorem hits_sorted {t : Int} : ∀ {l : List Int} {i : Nat}, (hits t i l).Pairwise (· < ·)
  | [], _ => List.Pairwise.nil
  | v :: r, i => by
    rw [hits]
    split
    · refine List.Pairwise.cons (fun x hx => ?_) hits_sorted
      obtain ⟨j, _, h2, _⟩ := hits_mem hx
      omega
    · exact hits_sorted
theorem spec_mem {x : Int} {l : List Int} : ∀ {n : Nat}, x ∈ spec l n → ∃ j, j < l.length ∧ x = (j : Int) ∧ 1 ≤ at_ l x ∧ at_ l x ≤ n
  | 0, h => by simp [spec] at h
  | n + 1, h => by
    rw [spec] at h
    rcases List.mem_append.1 h with h | h
    · obtain ⟨j, h1, h2, h3, h4⟩ := spec_mem h
      exact ⟨j, h1, h2, h3, by omega⟩
    · obtain ⟨j, h1, h2, h3⟩ := hits_mem h
      rw [Nat.zero_add] at h2
      have : at_ l x = ((n + 1 : Nat) : Int) := by
        subst h2
        simp [at_, List.getD, h3]
      exact ⟨j, h1, h2, by omega, by omega⟩
theorem spec_sorted {l : List Int} : ∀ (n : Nat), (spec l n).Pairwise fun x y => at_ l x < at_ l y ∨ (at_ l x = at_ l y ∧ x < y)
  | 0 => by rw [spec]; exact List.Pairwise.nil
  | n + 1 => by
    rw [spec]
    refine List.pairwise_append.2 ⟨spec_sorted n, ?_, fun x hx y hy => ?_⟩
    · refine List.Pairwise.imp_of_mem (fun {x y} hx hy h => ?_) hits_sorted
      have e : ∀ z ∈ hits ((n + 1 : Nat) : Int) 0 l, at_ l z = ((n + 1 : Nat) : Int) := fun z hz => by
        obtain ⟨j, _, h2, h3⟩ := hits_mem hz
        rw [Nat.zero_add] at h2
        subst h2
        simp [at_, List.getD, h3]
      right
      exact ⟨by rw [e x hx, e y hy], h⟩
    · left
      obtain ⟨_, _, _, _, h4⟩ := spec_mem hx
      obtain ⟨j, _, h2, h3⟩ := hits_mem hy
      rw [Nat.zero_add] at h2
      have : at_ l y = ((n + 1 : Nat) : Int) := by
        subst h2
        simp [at_, List.getD, h3]
      omega
theorem at_first {l : List Int} (h : l.length ≤ 32) {j : Nat} (h1 : 1 ≤ at_ (first l l.length) j) : j < l.length ∧ at_ (first l l.length) j = 1 + low (l.getD j 0) := by
  unfold at_ first at h1 ⊢
  rw [List.take_length, Int.toNat_natCast] at h1 ⊢
  unfold List.getD at h1 ⊢
  by_cases hj : j < l.length
  · refine ⟨hj, ?_⟩
    rw [List.getElem?_append_left (by simpa using hj)]
    simp [hj]
  · exfalso
    rw [List.getElem?_append_right (by simp; omega), List.getElem?_replicate] at h1
    split at h1 <;> simp at h1
theorem l2_eq {l : List Int} (h : l.length ≤ 32) (n : Nat) (hn : n ≤ 300) (A : List Int) (hA : A = spec (first l l.length) n) (hAl : A.length ≤ 100000) : ∀ (j k : Nat) (i : Nat), i ≤ A.length → A.length - i = j → j < k → signalmanlaw7_ClockOrders.l2 k l n i A = some true := by
  have hmem : ∀ x ∈ A, ∃ j : Nat, x = (j : Int) ∧ j < l.length ∧ at_ (first l l.length) x = 1 + low (l.getD j 0) ∧ low (l.getD j 0) < n := by
    intro x hx
    rw [hA] at hx
    obtain ⟨j, h1, h2, h3, h4⟩ := spec_mem hx
    subst h2
    obtain ⟨h5, h6⟩ := at_first h h3
    exact ⟨j, rfl, h5, h6, by omega⟩
  have hsort : A.Pairwise fun x y => at_ (first l l.length) x < at_ (first l l.length) y ∨ (at_ (first l l.length) x = at_ (first l l.length) y ∧ x < y) := hA ▸ spec_sorted n
  intro j
  induction j with
  | zero =>
    intro k i hi hj hk
    obtain ⟨k, rfl⟩ : ∃ k', k = k' + 1 := ⟨k - 1, by omega⟩
    rw [signalmanlaw7_ClockOrders.l2, if_neg (by omega)]
  | succ j ih =>
    intro k i hi hj hk
    obtain ⟨k, rfl⟩ : ∃ k', k = k' + 1 := ⟨k - 1, by omega⟩
    have hlt : i < A.length := by omega
    have e1 : w64 ((i : Int) + 1) = ((i + 1 : Nat) : Int) := by rw [w64_in (by omega)]; omega
    have eg : A.getD (i : Int).toNat 0 = A[i] := by simp [List.getD, hlt]
    obtain ⟨p, hp1, hp2, hp3, hp4⟩ := hmem A[i] (List.getElem_mem hlt)
    have ihk := ih k (i + 1) (by omega) (by omega) (by omega)
    rw [signalmanlaw7_ClockOrders.l2, if_pos (by omega), if_pos (by omega), eg, hp1, e1, ihk]
    rw [if_neg (by omega), if_neg (by omega), if_pos (by omega)]
    have el : ∀ q : Nat, iand .i64 (l.getD ((q : Int)).toNat 0) 255 = low (l.getD q 0) := fun q => rfl
    rw [el p, if_neg (by omega)]
    by_cases h0 : (i : Int) > 0
    · rw [if_pos h0]
      have hpl : i - 1 < A.length := by omega
      have ew : w64 ((i : Int) - 1) = ((i - 1 : Nat) : Int) := by rw [w64_in (by omega)]; omega
      have eg2 : A.getD ((i - 1 : Nat) : Int).toNat 0 = A[i - 1] := by simp [List.getD, hpl]
      obtain ⟨q, hq1, hq2, hq3, hq4⟩ := hmem A[i - 1] (List.getElem_mem hpl)
      have hs := List.pairwise_iff_getElem.1 hsort (i - 1) i hpl hlt (by omega)
      rw [hp3, hq3] at hs
      rw [ew, eg2, hq1, if_pos (by omega), if_pos (by omega), el q]
      rw [hp1, hq1] at hs
      rw [if_neg (by omega)]
      by_cases h5 : low (l.getD q 0) = low (l.getD p 0)
      · rw [if_pos h5, if_neg (by omega)]
      · rw [if_neg h5]
    · rw [if_neg h0]
theorem l1_eq {l : List Int} (h : l.length ≤ 32) (n : Nat) (hn : n ≤ 300) (t : List Int × clock_Set) (ht : t.1 = spec (first l l.length) n) : ∀ (j k : Nat) (i : Nat) (w : Int), i ≤ n → n - i = j → j + 20000 < k →
    signalmanlaw7_ClockOrders.l1 k l n t i (spec (first l l.length) i) { now := w, left := (first l l.length).map (fin i) } = some true := by
  have hok := first_ok h
  intro j
  induction j with
  | zero =>
    intro k i w hi hj hk
    obtain ⟨k, rfl⟩ : ∃ k', k = k' + 1 := ⟨k - 1, by omega⟩
    obtain rfl : i = n := by omega
    have hl := spec_len (l := first l l.length) i
    rw [hok.1] at hl
    rw [signalmanlaw7_ClockOrders.l1, if_neg (by omega), ht, same_eq _ (by omega) _ (by omega)]
    simp only [Option.bind_some, if_true]
    exact l2_eq h i hn _ rfl (by omega) _ k 0 (by omega) rfl (by omega)
  | succ j ih =>
    intro k i w hi hj hk
    obtain ⟨k, rfl⟩ : ∃ k', k = k' + 1 := ⟨k - 1, by omega⟩
    have hl := spec_len (l := first l l.length) i
    have hl2 := hits_len (t := ((i + 1 : Nat) : Int)) (l := first l l.length) 0
    rw [hok.1] at hl hl2
    have hP := Pass_eq { now := w, left := (first l l.length).map (fin i) } (fin_ok hok i) 1 k (by rw [clamp_id (by omega)]; simp; omega)
    rw [clamp_id (by omega)] at hP
    rw [signalmanlaw7_ClockOrders.l1, if_pos (by omega), hP]
    simp only [Option.bind_some]
    have e1 : spec ((first l l.length).map (fin i)) (1 : Int).toNat = hits ((i + 1 : Nat) : Int) 0 (first l l.length) := by
      show [] ++ hits ((0 + 1 : Nat) : Int) 0 _ = _
      rw [List.nil_append]
      exact hits_fin 0 fun v hv => (hok.2 v hv).1
    have e2 : ((first l l.length).map (fin i)).map (fin 1) = (first l l.length).map (fin ((i + 1 : Nat) : Int)) := by
      rw [List.map_map]
      exact List.map_congr_left fun v hv => fin_fin (hok.2 v hv).1
    rw [e1, e2, if_pos (by omega), show w64 ((i : Int) + 1) = ((i + 1 : Nat) : Int) by rw [w64_in (by omega)]; omega]
    exact ih k (i + 1) _ (by omega) (by omega) (by omega)
theorem l0_eq {l : List Int} (h : l.length ≤ 32) (n : Nat) (hn : n ≤ 300) : ∀ (j k : Nat) (i : Nat), i ≤ l.length → l.length - i = j → j + 30000 < k →
    signalmanlaw7_ClockOrders.l0 k l n i { now := 0, left := first l i } { now := 0, left := first l i } = some true := by
  intro j
  induction j with
  | zero =>
    intro k i hi hj hk
    obtain ⟨k, rfl⟩ : ∃ k', k = k' + 1 := ⟨k - 1, by omega⟩
    obtain rfl : i = l.length := by omega
    have hok := first_ok h
    have hP := Pass_eq { now := 0, left := first l l.length } hok n k (by rw [clamp_id (by omega)]; omega)
    rw [clamp_id (by omega)] at hP
    rw [signalmanlaw7_ClockOrders.l0, if_neg (by omega), hP]
    simp only [Option.bind_some]
    have := l1_eq h n hn (spec (first l l.length) ((n : Int)).toNat, { now := IntKind.u32.wrap (0 + IntKind.u32.wrap n), left := (first l l.length).map (fin n) }) rfl n k 0 0 (by omega) (by omega) (by omega)
    rw [show (((0 : Nat) : Int)) = 0 from rfl, fin_zero fun v hv => (hok.2 v hv).1] at this
    exact this
  | succ j ih =>
    intro k i hi hj hk
    obtain ⟨k, rfl⟩ : ∃ k', k = k' + 1 := ⟨k - 1, by omega⟩
    have hs := start_first h (show i < l.length by omega)
    rw [signalmanlaw7_ClockOrders.l0, if_pos (by omega), if_pos (by omega)]
    have e : clock_Set_Start.f { now := 0, left := first l i } i (w64 (1 + iand .i64 (l.getD ((i : Int)).toNat 0) 255)) = some (true, { now := 0, left := first l (i + 1) }) := hs
    rw [e]
    simp only [Option.bind_some]
    rw [show w64 ((i : Int) + 1) = ((i + 1 : Nat) : Int) by rw [w64_in (by omega)]; omega]
    exact ih k (i + 1) (by omega) (by omega) (by omega)
theorem alive_any (k : Nat) (hk : 100 ≤ k) : signalmanlaw7_alive.f k = some true := by
  unfold signalmanlaw7_alive.f
  have e1 : clock_New.f 0 = some { now := 0, left := List.replicate 32 0 } := rfl
  have e2 : clock_Set_Start.f { now := 0, left := List.replicate 32 0 } 3 5 = some (true, { now := 0, left := (List.replicate 32 0).set 3 5 }) := by kernel_rfl
  rw [e1]
  simp only [Option.bind_some]
  rw [e2]
  simp only [Option.bind_some]
  have h := Pass_eq { now := 0, left := (List.replicate 32 0).set 3 5 } ⟨by simp, by decide⟩ 5 k (by rw [clamp_id (by omega)]; simp; omega)
  rw [h]
  simp only [Option.bind_some]
  have e3 : spec ((List.replicate 32 0).set 3 5) (clamp 5).toNat = [3] := by kernel_rfl
  rw [e3]
  simp
theorem ClockOrders : signalmanlaw7_ClockOrders.Pure := by
  intro l n _ _ _
  obtain ⟨K, hK⟩ : ∃ K : Nat, 40000 ≤ K := ⟨_, Nat.le_refl _⟩
  refine ⟨K, ?_⟩
  unfold signalmanlaw7_ClockOrders.f
  rw [alive_any K (by omega)]
  simp only [Option.bind_some, if_true]
  by_cases c1 : (l.length : Int) > 32
  · rw [if_pos c1]
  by_cases c2 : n < 0
  · rw [if_neg c1, if_pos c2]
  by_cases c3 : n > 300
  · rw [if_neg c1, if_neg c2, if_pos c3]
  rw [if_neg c1, if_neg c2, if_neg c3]
  have hn : clock_New.f 0 = some { now := 0, left := first l 0 } := rfl
  rw [hn]
  simp only [Option.bind_some]
  have := l0_eq (l := l) (by omega) n.toNat (by omega) l.length K 0 (by omega) (by omega) (by omega)
  rw [show ((n.toNat : Nat) : Int) = n by omega] at this
  exact this
end Go.Proofs.Ytmknlnpjimfliaa

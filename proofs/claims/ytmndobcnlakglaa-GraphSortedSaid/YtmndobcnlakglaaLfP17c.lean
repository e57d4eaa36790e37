import Derived.Test.YtmndobcnlakglaaLfP17b
/-! Lf: orders of jobs of copies. -/
set_option linter.unusedVariables false
set_option maxRecDepth 100000
namespace Go.Lf.T
open Go Go.Lf

theorem node_ok (k : Nat) (x n : Int) : F12 k x n = some ((decide (0 ≤ x ∧ x < n), ()), (n, ())) := by
  unfold F12
  by_cases h : x ≥ 0
  · rw [decide_eq_true h, cond_true]
    by_cases h2 : x < n
    · rw [decide_eq_true h2, decide_eq_true ⟨h, h2⟩]
    · rw [decide_eq_false h2, decide_eq_false (fun hh => h2 hh.2)]
  · rw [decide_eq_false h, cond_false, decide_eq_false (fun hh => h hh.1)]

theorem in_loop {R : Type} (k : Nat) (n : Int) (l : List Int) (e0 : Int → List Int → Option R) (e1 : Int → Option R) (hl : ∀ x ∈ l, 0 ≤ x ∧ x < n) (hlen : l.length ≤ 1000) : ∀ (m i j : Nat), l.length - i = m → i ≤ l.length → m < j →
    F16.loop1 k j l.length i n l e0 e1 = e1 n := by
  intro m
  induction m with
  | zero =>
    intro i j hm hi hj
    obtain ⟨j, rfl⟩ : ∃ j', j = j' + 1 := ⟨j - 1, by omega⟩
    rw [F16.loop1_s, decide_eq_false (by omega), cond_false]
  | succ m ih =>
    intro i j hm hi hj
    obtain ⟨j, rfl⟩ : ∃ j', j = j' + 1 := ⟨j - 1, by omega⟩
    have hlt : i < l.length := by omega
    rw [F16.loop1_s, decide_eq_true (by omega), cond_true, if_pos (by omega), Int.toNat_natCast, List.getElem?_eq_getElem hlt, Option.bind_some, node_ok, decide_eq_true (hl _ (List.getElem_mem hlt))]
    simp only [Option.bind_some, Bool.not_true, cond_false]
    rw [w64_succ i (by omega)]
    exact ih (i + 1) j (by omega) (by omega) (by omega)

theorem ins_loop {R : Type} (k n : Nat) (ss : List Stg) (e0 : Int → List Int → Option R) (e1 : Int → Option R) (hg : Good n ss) (hlen : ss.length ≤ 1000) (hk : 1001 ≤ k) : ∀ (m i j : Nat), ss.length - i = m → i ≤ ss.length → m < j →
    F16.loop0 k j ss ss.length i n e0 e1 = e1 n := by
  intro m
  induction m with
  | zero =>
    intro i j hm hi hj
    obtain ⟨j, rfl⟩ : ∃ j', j = j' + 1 := ⟨j - 1, by omega⟩
    rw [F16.loop0_s, decide_eq_false (by omega), cond_false]
  | succ m ih =>
    intro i j hm hi hj
    obtain ⟨j, rfl⟩ : ∃ j', j = j' + 1 := ⟨j - 1, by omega⟩
    have hlt : i < ss.length := by omega
    have hsl := srcs_len ss[i]
    rw [F16.loop0_s, decide_eq_true (by omega), cond_true, if_pos (by omega), Int.toNat_natCast, List.getElem?_eq_getElem hlt, Option.bind_some, sources_ok]
    simp only [Option.bind_some]
    have h := in_loop k (n : Int) (srcs ss[i]) (fun (z3 : Int) (z4 : List Int) => (e0 z3 z4)) (fun (z5 : Int) => F16.loop0 k j ss ss.length (w64 ((i : Int) + 1)) z5 e0 e1) (hg _ (List.getElem_mem hlt)) (by omega) (srcs ss[i]).length 0 k (by omega) (by omega) (by omega)
    rw [show ((0 : Nat) : Int) = 0 from rfl] at h
    rw [h, w64_succ i (by omega)]
    exact ih (i + 1) j (by omega) (by omega) (by omega)

theorem lst_start (n : Nat) : (List.replicate (1 + n) false).set 0 true = lst 1 n [] := by
  apply List.ext_getElem?
  intro j
  by_cases hj : j < 1 + n
  · rw [lst_get hj, List.getElem?_set]
    by_cases e : 0 = j
    · subst e; rw [if_pos rfl, if_pos (by simp; omega)]; rfl
    · rw [if_neg e, List.getElem?_replicate, if_pos hj]
      unfold has
      rw [decide_eq_false (by omega)]; rfl
  · rw [List.getElem?_eq_none (by simp; omega), List.getElem?_eq_none (by rw [lst_len]; omega)]

abbrev pl0 : List Pln := [(1, 1, 9, [5])]

def ans (r : Option (List Int)) : List Int × Int := match r with | some l => (l, 0) | none => ([], 7)

theorem order_ok {k : Nat} {ss : List Stg} (hg : Good (1 + ss.length) ss) (h1 : 1 ≤ ss.length) (h2 : ss.length ≤ 15) (hk : 1001 ≤ k) :
    F16 k (pl0, ss, [0], 0) = some (((ans (go 1 ss ss.length [])).1, (ans (go 1 ss ss.length [])).2, ()), ()) := by
  unfold F16
  have e1 : ((pl0.length : Int) == 0) = false := rfl
  have e2 : ((ss.length : Int) == 0) = false := beq_eq_false_iff_ne.2 (by omega)
  have e3 : w64 ((pl0.length : Int) + (ss.length : Int)) = ((1 + ss.length : Nat) : Int) := by rw [← Int.natCast_add]; exact w64_cast _ (by show 1 + ss.length < _; omega)
  have e4 : ((([0] : List Int).length : Int) == 0) = false := rfl
  rw [e1, cond_false, e2, cond_false, e3, decide_eq_false (by omega), cond_false, e4, cond_false, decide_eq_false (p := (([0] : List Int).length : Int) > 16) (by decide), cond_false, decide_eq_false (p := (0 : Int) < 0) (by decide), cond_false, decide_eq_false (p := (0 : Int) ≥ 4) (by decide), cond_false]
  have l0 := ins_loop (R := (List Int × Int × Unit) × Unit) k (1 + ss.length) ss (fun (z6 : Int) (z7 : List Int) => (some ((z7, z6, ()), ()))) (fun (z8 : Int) => (F16.loop2 k k [0] ((1 : Nat) : Int) 0 z8 (fun (z11 : Int) (z12 : List Int) => (some ((z12, z11, ()), ()))) (fun (z13 : Int) => (if 0 ≤ z13 ∧ z13 ≤ z13 ∧ z13 * ((1 : Nat) : Int) ≤ 140737488355328 then F16.loop3 k k ((1 : Nat) : Int) 0 (List.replicate z13.toNat false) (fun (z15 : List Bool) => (F16.loop4 k k ((1 : Nat) : Int) pl0 ss [0] 0 ([] : List Int) z15 (fun (z19 : Int) (z20 : List Int) => (some ((z20, z19, ()), ()))) (fun (z21 : List Int) => (some ((z21, 0, ()), ()))))) else none)))) hg (by omega) hk ss.length 0 k (by omega) (by omega) (by omega)
  rw [show ((0 : Nat) : Int) = 0 from rfl] at l0
  refine Eq.trans l0 ?_
  obtain ⟨k1, rfl⟩ : ∃ k', k = k' + 1 + 1 := ⟨k - 2, by omega⟩
  rw [F16.loop2_s, decide_eq_true (by omega), cond_true, if_pos (by omega), show ([(0 : Int)][(0 : Int).toNat]?) = some 0 from rfl, Option.bind_some, node_ok, decide_eq_true (by omega)]
  simp only [Option.bind_some, Bool.not_true, cond_false]
  rw [show w64 (0 + 1) = 1 from rfl, F16.loop2_s, decide_eq_false (by omega), cond_false, if_pos (by omega), Int.toNat_natCast]
  rw [F16.loop3_s, decide_eq_true (by omega), cond_true, if_pos (by rw [List.length_replicate]; omega), show (List.replicate (1 + ss.length) false)[(0 : Int).toNat]? = some false from by rw [List.getElem?_replicate, if_pos (show (0 : Int).toNat < 1 + ss.length by show 0 < _; omega)]]
  simp only [Option.bind_some]
  rw [show (0 : Int).toNat = 0 from rfl, lst_start, show w64 (0 + 1) = 1 from rfl, F16.loop3_s, decide_eq_false (by omega), cond_false]
  have l4 := order_loop (R := (List Int × Int × Unit) × Unit) (k1 + 1 + 1) 1 pl0 ss [0] 0 (fun (z19 : Int) (z20 : List Int) => (some ((z20, z19, ()), ()))) (fun (z21 : List Int) => (some ((z21, 0, ()), ()))) hg (by omega) hk ss.length (k1 + 1 + 1) [] (by simp) (by omega)
  rw [l4]
  unfold ans
  cases go 1 ss ss.length [] <;> rfl

/-! ### Links -/
def isLink (n : Nat) (s : Stg) : Prop := s.1 = 6 ∧ (0 ≤ s.2.1 ∧ s.2.1 ≤ n) ∧ (s.2.2.1 = -1 ∨ (0 ≤ s.2.2.1 ∧ s.2.2.1 ≤ n))

theorem link_good {n : Nat} {ss : List Stg} (h : ∀ s ∈ ss, isLink n s) : Good (1 + n) ss := by
  intro s hs x hx
  obtain ⟨h1, h2, h3⟩ := h s hs
  unfold srcs at hx
  rw [h1] at hx
  cases hb : s.2.2.1 != (-1) with
  | false =>
    rw [hb] at hx
    simp at hx; subst hx; omega
  | true =>
    rw [hb] at hx
    have hne : s.2.2.1 ≠ -1 := by simpa using hb
    simp at hx
    rcases hx with rfl | rfl <;> omega

theorem copies_loop {R : Type} (k n : Nat) (l : List Int) (pl : List Pln) (os : List Int) (pr : Int) (e0 : List Pln → List Stg → List Int → Int → Option R) (hl : ∀ x ∈ l, 0 ≤ x ∧ x ≤ (n : Int)) (hlen : l.length ≤ 1000) : ∀ (m i j : Nat) (ss : List Stg), l.length - i = m → i ≤ l.length → m < j → ss.length = i → (∀ s ∈ ss, isLink n s) →
    ∃ ss', F8.loop0 k j l i pl ss os pr e0 = e0 pl ss' os pr ∧ ss'.length = l.length ∧ ∀ s ∈ ss', isLink n s := by
  intro m
  induction m with
  | zero =>
    intro i j ss hm hi hj hs hss
    obtain ⟨j, rfl⟩ : ∃ j', j = j' + 1 := ⟨j - 1, by omega⟩
    refine ⟨ss, ?_, by omega, hss⟩
    rw [F8.loop0_s, decide_eq_false (by omega), cond_false]
  | succ m ih =>
    intro i j ss hm hi hj hs hss
    obtain ⟨j, rfl⟩ : ∃ j', j = j' + 1 := ⟨j - 1, by omega⟩
    have hlt : i < l.length := by omega
    have hx := hl _ (List.getElem_mem hlt)
    rw [F8.loop0_s, decide_eq_true (by omega), cond_true, if_pos (by omega), Int.toNat_natCast, List.getElem?_eq_getElem hlt, Option.bind_some]
    unfold F7
    simp only [Option.bind_some]
    rw [if_pos (by rw [List.length_append, List.length_singleton]; omega), w64_succ i (by omega)]
    refine ih (i + 1) j _ (by omega) (by omega) (by omega) (by rw [List.length_append, List.length_singleton, hs]) fun s hs' => ?_
    rcases List.mem_append.1 hs' with h | h
    · exact hss s h
    · rw [List.mem_singleton.1 h]
      exact ⟨rfl, hx, .inl rfl⟩

theorem draw_loop {R : Type} (k n : Nat) (hn : n ≤ 1000) (e0 : List Int → Int → List Int → Option R) : ∀ (m i j : Nat) (t : List Int × Int) (l : List Int), n - i = m → i ≤ n → m < j → l.length = i → (∀ x ∈ l, 0 ≤ x ∧ x ≤ (n : Int)) → Tp t →
    ∃ t' l', F9.loop0 k j n i t.1 t.2 l e0 = e0 t'.1 t'.2 l' ∧ l'.length = n ∧ (∀ x ∈ l', 0 ≤ x ∧ x ≤ (n : Int)) ∧ Tp t' := by
  intro m
  induction m with
  | zero =>
    intro i j t l hm hi hj hl hx ht
    obtain ⟨j, rfl⟩ : ∃ j', j = j' + 1 := ⟨j - 1, by omega⟩
    refine ⟨t, l, ?_, by omega, hx, ht⟩
    rw [F9.loop0_s, decide_eq_false (by omega), cond_false]
  | succ m ih =>
    intro i j t l hm hi hj hl hx ht
    obtain ⟨j, rfl⟩ : ∃ j', j = j' + 1 := ⟨j - 1, by omega⟩
    obtain ⟨v, t', hv, v1, v2, ht'⟩ := next_ok k ht (n := ((n + 1 : Nat) : Int)) (by omega) (by omega)
    rw [F9.loop0_s, decide_eq_true (by omega), cond_true, w64_succ n (by omega), hv]
    simp only [Option.bind_some]
    rw [if_pos (by rw [List.length_append, List.length_singleton]; omega), w64_succ i (by omega)]
    refine ih (i + 1) j t' _ (by omega) (by omega) (by omega) (by rw [List.length_append, List.length_singleton, hl]) (fun x hx' => ?_) ht'
    rcases List.mem_append.1 hx' with h | h
    · exact hx x h
    · rw [List.mem_singleton.1 h]; omega

theorem second_loop {R : Type} (k n : Nat) (hn : n ≤ 1000) (pl : List Pln) (os : List Int) (pr : Int) (e0 : List Int → Int → List Pln → List Stg → List Int → Int → Option R) : ∀ (m i j : Nat) (t : List Int × Int) (ss : List Stg), n - i = m → i ≤ n → m < j → ss.length = n → (∀ s ∈ ss, isLink n s) → Tp t →
    ∃ t' ss', F9.loop1 k j n i t.1 t.2 pl ss os pr e0 = e0 t'.1 t'.2 pl ss' os pr ∧ ss'.length = n ∧ (∀ s ∈ ss', isLink n s) ∧ Tp t' := by
  intro m
  induction m with
  | zero =>
    intro i j t ss hm hi hj hl hx ht
    obtain ⟨j, rfl⟩ : ∃ j', j = j' + 1 := ⟨j - 1, by omega⟩
    refine ⟨t, ss, ?_, by omega, hx, ht⟩
    rw [F9.loop1_s, decide_eq_false (by omega), cond_false]
  | succ m ih =>
    intro i j t ss hm hi hj hl hx ht
    obtain ⟨j, rfl⟩ : ∃ j', j = j' + 1 := ⟨j - 1, by omega⟩
    obtain ⟨v, t', hv, v1, v2, ht'⟩ := next_ok k ht (n := 3) (by omega) (by omega)
    rw [F9.loop1_s, decide_eq_true (by omega), cond_true, hv]
    simp only [Option.bind_some]
    cases hb : v == 0 with
    | false =>
      rw [cond_false, w64_succ i (by omega)]
      exact ih (i + 1) j t' ss (by omega) (by omega) (by omega) hl hx ht'
    | true =>
      obtain ⟨u, t2, hu, u1, u2, ht2⟩ := next_ok k ht' (n := ((n + 1 : Nat) : Int)) (by omega) (by omega)
      have hlt : i < ss.length := by omega
      rw [cond_true, w64_succ n (by omega), hu]
      simp only [Option.bind_some]
      rw [if_pos (by omega), Int.toNat_natCast, List.getElem?_eq_getElem hlt, Option.bind_some, w64_succ i (by omega)]
      refine ih (i + 1) j t2 _ (by omega) (by omega) (by omega) (by rw [List.length_set]; exact hl) (fun s hs => ?_) ht2
      rcases List.mem_or_eq_of_mem_set hs with h | h
      · exact hx s h
      · rw [h]
        obtain ⟨g1, g2, _⟩ := hx _ (List.getElem_mem hlt)
        exact ⟨g1, g2, .inr ⟨u1, show u ≤ (n : Int) by omega⟩⟩

theorem links_ok {k n : Nat} {t : List Int × Int} (ht : Tp t) (hn : n ≤ 1000) (hk : 1001 ≤ k) : ∃ ss t', F9 k t n = some (((pl0, ss, [0], 0), ()), (t', ())) ∧ ss.length = n ∧ ∀ s ∈ ss, isLink n s := by
  unfold F9
  obtain ⟨t1, l, h1, hl, hx, ht1⟩ := draw_loop (R := ((List Pln × List Stg × List Int × Int) × Unit) × ((List Int × Int) × Unit)) k n hn (fun (z2 : List Int) (z3 : Int) (z4 : List Int) => ((F8 k z4).bind fun y5 => F9.loop1 k k n 0 z2 z3 y5.1.1.1 y5.1.1.2.1 y5.1.1.2.2.1 y5.1.1.2.2.2 (fun z9 z10 z11 z12 z13 z14 => (some (((z11, z12, z13, z14), ()), ((z9, z10), ())))))) n 0 k t [] (by omega) (by omega) (by omega) rfl (fun x h => by cases h) ht
  rw [show ((0 : Nat) : Int) = 0 from rfl] at h1
  rw [h1]
  unfold F8
  obtain ⟨ss, h2, hs, hss⟩ := copies_loop (R := ((List Pln × List Stg × List Int × Int) × Unit) × Unit) k n l pl0 [0] 0 (fun z3 z4 z5 z6 => (some (((z3, z4, z5, z6), ()), ()))) hx (by omega) l.length 0 k [] (by omega) (by omega) (by omega) rfl (fun x h => by cases h)
  rw [show ((0 : Nat) : Int) = 0 from rfl] at h2
  rw [h2]
  simp only [Option.bind_some]
  obtain ⟨t2, ss2, h3, hs2, hss2, ht2⟩ := second_loop (R := ((List Pln × List Stg × List Int × Int) × Unit) × ((List Int × Int) × Unit)) k n hn pl0 [0] 0 (fun z9 z10 z11 z12 z13 z14 => (some (((z11, z12, z13, z14), ()), ((z9, z10), ())))) n 0 k t1 ss (by omega) (by omega) (by omega) (by omega) hss ht1
  rw [show ((0 : Nat) : Int) = 0 from rfl] at h3
  rw [h3]
  exact ⟨ss2, t2, rfl, hs2, hss2⟩

end Go.Lf.T

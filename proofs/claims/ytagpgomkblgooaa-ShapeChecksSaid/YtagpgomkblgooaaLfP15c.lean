import Derived.Test.YtagpgomkblgooaaLfP15b
/-! Lf: stages, in plain words. -/
set_option linter.unusedVariables false
set_option maxRecDepth 100000
namespace Go.Lf.T
open Go Go.Lf

abbrev Sg := Int × Int × Int × Bool × (Int × Int) × Int × Int × (List Int) × (List Int) × (List Int) × Int × Int × (List (Int × List Int)) × (List (Int × List Int)) × Int × (List (Int × Int)) × Int
abbrev Sh := Int × Int × Int

theorem cond_f {α β : Type} (f : α → β) (c : Bool) (a b : α) : (bif c then f a else f b) = f (bif c then a else b) := by cases c <;> rfl

/-! ### Integrals -/
theorem rmul_ok (k : Nat) {a b c : Int} (hc : 0 ≤ c) (hc2 : c ≤ 4611686018427387904) : ∃ v, tilefarmref1_Mul k a b c = some ((v, decide (0 ≤ a ∧ 0 ≤ b ∧ a * b ≤ c), ()), ()) ∧ (0 ≤ a ∧ 0 ≤ b ∧ a * b ≤ c → v = a * b) := by
  unfold tilefarmref1_Mul
  by_cases ha : a < 0
  · rw [decide_eq_true ha, cond_true, decide_eq_false (p := 0 ≤ a ∧ _) (fun h => by omega)]
    exact ⟨_, rfl, fun h => by omega⟩
  rw [decide_eq_false ha, cond_false]
  by_cases hb : b < 0
  · rw [decide_eq_true hb, cond_true, decide_eq_false (p := 0 ≤ a ∧ _) (fun h => by omega)]
    exact ⟨_, rfl, fun h => by omega⟩
  rw [decide_eq_false hb, cond_false, decide_eq_false (p := c < 0) (by omega), cond_false]
  by_cases h0 : b = 0
  · subst h0
    rw [decide_eq_false (p := (0 : Int) > 0) (by omega), cond_false, Int.mul_zero, decide_eq_true (p := 0 ≤ a ∧ _) (by omega)]
    exact ⟨_, rfl, fun _ => rfl⟩
  have hd : c.tdiv b = c / b := Int.tdiv_eq_ediv_of_nonneg hc
  have hd1 : c / b ≤ c := Int.ediv_le_self b hc
  have hd2 : 0 ≤ c / b := Int.ediv_nonneg hc (by omega)
  rw [decide_eq_true (p := b > 0) (by omega), cond_true, if_neg h0, hd, w64_id (by omega) (by omega)]
  have key : a > c / b ↔ ¬ a * b ≤ c := by
    rw [← Int.le_ediv_iff_mul_le (by omega)]; omega
  by_cases hm : a * b ≤ c
  · rw [decide_eq_false (p := a > c / b) (fun h => key.1 h hm), cond_false, decide_eq_true (p := 0 ≤ a ∧ _) ⟨by omega, by omega, hm⟩]
    have := Int.mul_nonneg (a := a) (b := b) (by omega) (by omega)
    exact ⟨_, rfl, fun _ => w64_id (by omega) (by omega)⟩
  · rw [decide_eq_true (p := a > c / b) (key.2 hm), cond_true, decide_eq_false (p := 0 ≤ a ∧ _) (fun h => hm h.2.2)]
    exact ⟨_, rfl, fun h => (hm h.2.2).elim⟩

def mostP (s : Sh) : Prop := 1 ≤ s.1 ∧ 1 ≤ s.2.1 ∧ 1 ≤ s.2.2 ∧ s.1 * s.2.1 ≤ 4294967296 ∧ s.1 * s.2.1 * s.2.2 ≤ 4294967296
instance (s : Sh) : Decidable (mostP s) := inferInstanceAs (Decidable (_ ∧ _))

theorem most_ok (k : Nat) (s : Sh) : ∃ v, integral_most k s = some ((v, decide (mostP s), ()), ()) ∧ (mostP s → v = s.1 * s.2.1 * s.2.2) := by
  unfold integral_most
  by_cases h1 : s.1 < 1
  · rw [decide_eq_true h1, cond_true, decide_eq_false (fun h : mostP s => by have := h.1; omega)]
    exact ⟨0, rfl, fun h => by have := h.1; omega⟩
  rw [decide_eq_false h1, cond_false]
  by_cases h2 : s.2.1 < 1
  · rw [decide_eq_true h2, cond_true, decide_eq_false (fun h : mostP s => by have := h.2.1; omega)]
    exact ⟨0, rfl, fun h => by have := h.2.1; omega⟩
  rw [decide_eq_false h2, cond_false]
  by_cases h3 : s.2.2 < 1
  · rw [decide_eq_true h3, cond_true, decide_eq_false (fun h : mostP s => by have := h.2.2.1; omega)]
    exact ⟨0, rfl, fun h => by have := h.2.2.1; omega⟩
  rw [decide_eq_false h3, cond_false]
  obtain ⟨v, hv, hv2⟩ := mul_ok k (a := s.1) (b := s.2.1) (c := 4294967296) (by omega) (by omega)
  rw [hv, Option.bind_some]
  by_cases h4 : s.1 * s.2.1 ≤ 4294967296
  rotate_left
  · rw [decide_eq_false (fun h => h4 h.2.2), Bool.not_false, cond_true, decide_eq_false (fun h : mostP s => h4 h.2.2.2.1)]
    exact ⟨0, rfl, fun h => (h4 h.2.2.2.1).elim⟩
  have h4' : 0 ≤ s.1 ∧ 0 ≤ s.2.1 ∧ s.1 * s.2.1 ≤ 4294967296 := ⟨by omega, by omega, h4⟩
  rw [decide_eq_true h4', Bool.not_true, cond_false, hv2 h4']
  have hn : 0 ≤ s.1 * s.2.1 := Int.mul_nonneg (by omega) (by omega)
  obtain ⟨u, hu, hu2⟩ := mul_ok k (a := s.1 * s.2.1) (b := s.2.2) (c := 4294967296) (by omega) (by omega)
  rw [hu, Option.bind_some]
  by_cases h5 : s.1 * s.2.1 * s.2.2 ≤ 4294967296
  · have h5' : 0 ≤ s.1 * s.2.1 ∧ 0 ≤ s.2.2 ∧ s.1 * s.2.1 * s.2.2 ≤ 4294967296 := ⟨hn, by omega, h5⟩
    rw [decide_eq_true h5', decide_eq_true (show mostP s from ⟨by omega, by omega, by omega, h4, h5⟩)]
    exact ⟨u, rfl, fun _ => hu2 h5'⟩
  · rw [decide_eq_false (fun h => h5 h.2.2), decide_eq_false (fun h : mostP s => h5 h.2.2.2.2)]
    exact ⟨u, rfl, fun h => (h5 h.2.2.2.2).elim⟩

theorem rmost_ok (k : Nat) (s : Sh) : ∃ v, tilefarmref13_Most k s = some ((v, decide (mostP s), ()), ()) ∧ (mostP s → v = s.1 * s.2.1 * s.2.2) := by
  unfold tilefarmref13_Most
  obtain ⟨v, hv, hv2⟩ := rmul_ok k (a := s.1) (b := s.2.1) (c := 4294967296) (by omega) (by omega)
  rw [hv, Option.bind_some]
  by_cases h4 : 0 ≤ s.1 ∧ 0 ≤ s.2.1 ∧ s.1 * s.2.1 ≤ 4294967296
  rotate_left
  · have hn : ¬ mostP s := fun h => h4 ⟨by have := h.1; omega, by have := h.2.1; omega, h.2.2.2.1⟩
    rw [decide_eq_false h4, Bool.not_false, cond_true, decide_eq_false hn]
    exact ⟨0, rfl, fun h => (hn h).elim⟩
  rw [decide_eq_true h4, Bool.not_true, cond_false, hv2 h4]
  by_cases h1 : s.1 < 1
  · rw [decide_eq_true h1, cond_true, decide_eq_false (fun h : mostP s => by have := h.1; omega)]
    exact ⟨0, rfl, fun h => by have := h.1; omega⟩
  rw [decide_eq_false h1, cond_false]
  by_cases h2 : s.2.1 < 1
  · rw [decide_eq_true h2, cond_true, decide_eq_false (fun h : mostP s => by have := h.2.1; omega)]
    exact ⟨0, rfl, fun h => by have := h.2.1; omega⟩
  rw [decide_eq_false h2, cond_false]
  by_cases h3 : s.2.2 < 1
  · rw [decide_eq_true h3, cond_true, decide_eq_false (fun h : mostP s => by have := h.2.2.1; omega)]
    exact ⟨0, rfl, fun h => by have := h.2.2.1; omega⟩
  rw [decide_eq_false h3, cond_false]
  have hn : 0 ≤ s.1 * s.2.1 := Int.mul_nonneg (by omega) (by omega)
  obtain ⟨u, hu, hu2⟩ := rmul_ok k (a := s.1 * s.2.1) (b := s.2.2) (c := 4294967296) (by omega) (by omega)
  rw [hu, Option.bind_some]
  by_cases h5 : s.1 * s.2.1 * s.2.2 ≤ 4294967296
  · have h5' : 0 ≤ s.1 * s.2.1 ∧ 0 ≤ s.2.2 ∧ s.1 * s.2.1 * s.2.2 ≤ 4294967296 := ⟨hn, by omega, h5⟩
    rw [decide_eq_true h5', decide_eq_true (show mostP s from ⟨by omega, by omega, by omega, h4.2.2, h5⟩)]
    exact ⟨u, rfl, fun _ => hu2 h5'⟩
  · rw [decide_eq_false (fun h => h5 h.2.2), decide_eq_false (fun h : mostP s => h5 h.2.2.2.2)]
    exact ⟨u, rfl, fun h => (h5 h.2.2.2.2).elim⟩

theorem int_ok (k : Nat) (s : Sh) : integral_Check k s = some ((if mostP s then 0 else 11, ()), ()) := by
  unfold integral_Check
  obtain ⟨v, hv, _⟩ := most_ok k s
  rw [hv, Option.bind_some]
  by_cases h : mostP s
  · rw [decide_eq_true h, if_pos h]; rfl
  · rw [decide_eq_false h, if_neg h]; rfl

/-! ### Edges -/
def edgeB (e : Int × Int) (m : Int) : Bool := ((e.1 == 0 || (e.1 == 1 || e.1 == 2)) && e.2 == 0) || (e.1 == 3 && (decide (0 ≤ e.2) && decide (e.2 ≤ m)))
theorem bne_lit {a n : Int} (h : ¬ a = n) : (a == n) = false := beq_eq_false_iff_ne.2 h
theorem edge_ok (k : Nat) (e : Int × Int) (m : Int) : border_Valid k e m = some ((edgeB e m, ()), ()) := by
  unfold border_Valid edgeB
  obtain ⟨a, b⟩ := e
  simp only
  by_cases h0 : a = 0
  · subst h0; simp
  by_cases h1 : a = 1
  · subst h1; simp
  by_cases h2 : a = 2
  · subst h2; simp
  rw [bne_lit h0, bne_lit h1, bne_lit h2]
  simp only [cond_false, Bool.or_false, Bool.false_and, Bool.false_or]
  rw [show decide (b ≥ 0) = decide (0 ≤ b) from rfl]
  cases a == 3 <;> cases decide (0 ≤ b) <;> rfl
theorem redge_ok (k : Nat) (e : Int × Int) (m : Int) : tilefarmref3_Valid k e m = some ((edgeB e m, ()), ()) := by
  unfold tilefarmref3_Valid edgeB
  obtain ⟨a, b⟩ := e
  simp only
  by_cases h3 : a = 3
  · subst h3
    simp only [beq_self_eq_true, cond_true, Bool.true_and]
    rw [show decide (b ≥ 0) = decide (0 ≤ b) from rfl]
    cases decide (0 ≤ b) <;> simp
  rw [bne_lit h3]
  simp only [cond_false, Bool.false_and, Bool.or_false]
  by_cases h4 : 0 ≤ a ∧ a < 3
  · rw [decide_eq_true (p := a ≥ 0) h4.1, cond_true, decide_eq_true h4.2, cond_true]
    have : (a == 0 || (a == 1 || a == 2)) = true := by
      have : a = 0 ∨ a = 1 ∨ a = 2 := by omega
      rcases this with rfl | rfl | rfl <;> rfl
    rw [this, Bool.true_and]
  · rw [bne_lit (show ¬ a = 0 by omega), bne_lit (show ¬ a = 1 by omega), bne_lit (show ¬ a = 2 by omega)]
    by_cases h5 : 0 ≤ a
    · rw [decide_eq_true (p := a ≥ 0) h5, cond_true, decide_eq_false (p := a < 3) (by omega), cond_false]; rfl
    · rw [decide_eq_false (p := a ≥ 0) h5, cond_false]; rfl

/-! ### Shapes -/
theorem svalid_ok (k : Nat) (s : Sh) : shape_Valid k s = some ((decide (sizeP s.1 s.2.1 s.2.2), ()), ()) := by
  unfold shape_Valid
  obtain ⟨v, hv, _⟩ := mul_ok k (a := s.1) (b := s.2.1) (c := 4096) (by omega) (by omega)
  rw [hv, Option.bind_some]
  simp only [sbt_ok, Option.bind_some]
  by_cases h : sizeP s.1 s.2.1 s.2.2
  · rw [decide_eq_true h]
    obtain ⟨h1, h2, h3, h4, h5, h6, h7⟩ := h
    rw [decide_eq_true (p := 0 ≤ s.1 ∧ _) ⟨by omega, by omega, h5⟩, cond_true, decide_eq_true (p := 1 ≤ s.1 ∧ _) ⟨h1, h2⟩, cond_true, decide_eq_true (p := 1 ≤ s.2.1 ∧ _) ⟨h3, h4⟩, cond_true, decide_eq_true (p := 1 ≤ s.2.2 ∧ _) ⟨h6, h7⟩]
  · rw [decide_eq_false h]
    by_cases h1 : 0 ≤ s.1 ∧ 0 ≤ s.2.1 ∧ s.1 * s.2.1 ≤ 4096
    · rw [decide_eq_true h1, cond_true]
      by_cases h2 : 1 ≤ s.1 ∧ s.1 ≤ 128
      · rw [decide_eq_true h2, cond_true]
        by_cases h3 : 1 ≤ s.2.1 ∧ s.2.1 ≤ 128
        · rw [decide_eq_true h3, cond_true, decide_eq_false (fun h4 => h ⟨h2.1, h2.2, h3.1, h3.2, h1.2.2, h4.1, h4.2⟩)]
        · rw [decide_eq_false h3, cond_false]
      · rw [decide_eq_false h2, cond_false]
    · rw [decide_eq_false h1, cond_false]
theorem rsvalid_ok (k : Nat) (s : Sh) : tilefarmref15_Valid k s = some ((decide (sizeP s.1 s.2.1 s.2.2), ()), ()) := by
  unfold tilefarmref15_Valid
  rw [rsize_ok, Option.bind_some]

/-! ### Fields -/
def twoB (s : Sg) : Bool := s.1 == 6 && s.2.2.1 != (-1)
theorem two_ok (k : Nat) (s : Sg) : shape_two k s = some ((twoB s, ()), ()) := by
  unfold shape_two twoB
  cases s.1 == 6 <;> rfl
theorem rtwo_ok (k : Nat) (s : Sg) : tilefarmref15_Two k s = some ((twoB s, ()), ()) := by
  unfold tilefarmref15_Two twoB
  cases s.1 == 6 <;> rfl
def edB (n : Int) : Bool := n == 1 || (n == 2 || n == 3)
theorem edged_ok (k : Nat) (n : Int) : shape_edged k n = some ((edB n, ()), ()) := by
  unfold shape_edged edB
  cases n == 1 <;> cases n == 2 <;> rfl
theorem redged_ok (k : Nat) (n : Int) : tilefarmref15_edged k n = some ((edB n, ()), ()) := by
  unfold tilefarmref15_edged edB
  cases n == 1 <;> cases n == 2 <;> rfl

theorem used_loop {R : Type} (k : Nat) (l : List Int) (n : Int) (e0 : Bool → Int → Option R) (e1 : Int → Option R) (hl : l.length ≤ 1000) : ∀ (m i j : Nat), l.length - i = m → i ≤ l.length → m < j →
    shape_Fields_1.loop0 k j l l.length i n e0 e1 = if n ∈ l.drop i then e0 true n else e1 n := by
  intro m
  induction m with
  | zero =>
    intro i j hm hi hj
    obtain ⟨j, rfl⟩ : ∃ j', j = j' + 1 := ⟨j - 1, by omega⟩
    rw [shape_Fields_1.loop0_s, decide_eq_false (by omega), cond_false, List.drop_eq_nil_of_le (by omega), if_neg (by simp)]
  | succ m ih =>
    intro i j hm hi hj
    obtain ⟨j, rfl⟩ : ∃ j', j = j' + 1 := ⟨j - 1, by omega⟩
    have hlt : i < l.length := by omega
    rw [shape_Fields_1.loop0_s, decide_eq_true (by omega), cond_true, if_pos (by omega), Int.toNat_natCast, List.getElem?_eq_getElem hlt, Option.bind_some, w64_succ i (by omega), ih (i + 1) j (by omega) (by omega) (by omega), List.drop_eq_getElem_cons hlt]
    by_cases h : l[i] = n
    · rw [beq_iff_eq.2 h, cond_true, if_pos (by rw [h]; exact List.mem_cons_self)]
    · rw [beq_eq_false_iff_ne.2 h, cond_false]
      by_cases h2 : n ∈ l.drop (i + 1)
      · rw [if_pos h2, if_pos (List.mem_cons_of_mem _ h2)]
      · rw [if_neg h2, if_neg (fun hh => by rcases List.mem_cons.1 hh with h3 | h3; exact h h3.symm; exact h2 h3)]

theorem used_ok (k : Nat) (z : Bool) (l : List Int) (n : Int) (hl : l.length ≤ 30) (hk : 31 ≤ k) : shape_Fields_1 k z l n = some ((decide (n ∈ l) || z, ()), (n, ())) := by
  unfold shape_Fields_1
  refine (used_loop k l n _ _ (by omega) l.length 0 k rfl (by omega) (by omega)).trans ?_
  rw [List.drop_zero]
  by_cases h : n ∈ l
  · rw [if_pos h, decide_eq_true h]; rfl
  · rw [if_neg h, decide_eq_false h]; rfl

/-- Which fields may stand. -/
def fieldsB (s : Sg) : Bool :=
  (edB s.1 || (s.2.2.2.2.1.1 == 0 && s.2.2.2.2.1.2 == 0)) &&
  ((s.1 == 1 || (s.2.2.2.2.2.1 == 0 && (s.2.2.2.2.2.2.1 == 0 && (s.2.2.2.2.2.2.2.1.length : Int) == 0))) &&
  ((edB s.1 || s.2.2.2.2.2.2.2.2.2.2.1 == 0) &&
  ((s.1 == 2 || ((s.2.2.2.2.2.2.2.2.1.length : Int) == 0 && (s.2.2.2.2.2.2.2.2.2.1.length : Int) == 0)) &&
  (((s.1 == 2 || s.1 == 3) || s.2.2.2.2.2.2.2.2.2.2.2.1 == 0) &&
  ((s.1 == 3 || ((s.2.2.2.2.2.2.2.2.2.2.2.2.1.length : Int) == 0 && (s.2.2.2.2.2.2.2.2.2.2.2.2.2.1.length : Int) == 0)) &&
  ((s.1 == 4 || s.2.2.2.2.2.2.2.2.2.2.2.2.2.2.1 == 0) &&
  ((s.1 == 6 || (s.2.2.2.2.2.2.2.2.2.2.2.2.2.2.2.1.length : Int) == 0) &&
  (((s.1 == 1 || s.1 == 2) || (s.1 == 3 || s.1 == 6)) || s.2.2.2.2.2.2.2.2.2.2.2.2.2.2.2.2 == 0))))))))
def fieldsP (s : Sg) : Prop := (1 ≤ s.1 ∧ s.1 ≤ 6) ∧ (s.1 = 6 ∨ s.2.2.1 = -1) ∧ fieldsB s = true
instance (s : Sg) : Decidable (fieldsP s) := inferInstanceAs (Decidable (_ ∧ _))

theorem mem1 (n a : Int) : decide (n ∈ [a]) = (n == a) := by
  rw [Bool.eq_iff_iff]; simp
theorem mem2 (n a b : Int) : decide (n ∈ [a, b]) = (n == a || n == b) := by
  rw [Bool.eq_iff_iff]; simp
theorem mem3 (n a b c : Int) : decide (n ∈ [a, b, c]) = (n == a || (n == b || n == c)) := by
  rw [Bool.eq_iff_iff]; simp
theorem mem4 (n a b c d : Int) : decide (n ∈ [a, b, c, d]) = ((n == a || n == b) || (n == c || n == d)) := by
  rw [Bool.eq_iff_iff]; simp [or_assoc]
theorem pos_ok {n : Nat} : decide ((n : Int) > 0) = !((n : Int) == 0) := by
  by_cases h : n = 0
  · subst h; rfl
  · rw [decide_eq_true (by omega), beq_eq_false_iff_ne.2 (by omega)]; rfl

theorem cond_used (g k h r : Bool) : (bif g then ((k || h) && r) else ((k || false) && r)) = ((k || (g && h)) && r) := by cases g <;> cases k <;> cases h <;> cases r <;> rfl
theorem cond_and (g r : Bool) : (bif g then r else false) = (g && r) := by cases g <;> rfl
theorem cond_or (g f h r : Bool) : (bif g then r else (f && (h && r))) = ((g || (f && h)) && r) := by cases g <;> cases f <;> cases h <;> cases r <;> rfl

theorem join4_ok {R : Type} (k : Nat) (hk : 31 ≤ k) (s : Sg) (e0 : Bool → Option R) : shape_Fields.join4 k s.1 s.2.1 s.2.2.1 s.2.2.2.1 s.2.2.2.2.1.1 s.2.2.2.2.1.2 s.2.2.2.2.2.1 s.2.2.2.2.2.2.1 s.2.2.2.2.2.2.2.1 s.2.2.2.2.2.2.2.2.1 s.2.2.2.2.2.2.2.2.2.1 s.2.2.2.2.2.2.2.2.2.2.1 s.2.2.2.2.2.2.2.2.2.2.2.1 s.2.2.2.2.2.2.2.2.2.2.2.2.1 s.2.2.2.2.2.2.2.2.2.2.2.2.2.1 s.2.2.2.2.2.2.2.2.2.2.2.2.2.2.1 s.2.2.2.2.2.2.2.2.2.2.2.2.2.2.2.1 s.2.2.2.2.2.2.2.2.2.2.2.2.2.2.2.2 s.1 e0 = e0 (fieldsB s) := by
  unfold shape_Fields.join4 fieldsB
  simp only [edged_ok, used_ok k _ [_] _ (by simp) hk, used_ok k _ [_, _] _ (by simp) hk, used_ok k _ [_, _, _] _ (by simp) hk, used_ok k _ [_, _, _, _] _ (by simp) hk, Option.bind_some, mem1, mem2, mem3, mem4, cond_f e0, edB]
  refine congrArg e0 ?_
  generalize (s.1 == 1) = k1
  generalize (s.1 == 2) = k2
  generalize (s.1 == 3) = k3
  generalize (s.1 == 4) = k4
  generalize (s.1 == 6) = k6
  generalize (s.2.2.2.2.1.1 == 0) = f1
  generalize (s.2.2.2.2.1.2 == 0) = f2
  generalize (s.2.2.2.2.2.1 == 0) = f3
  generalize (s.2.2.2.2.2.2.1 == 0) = f4
  generalize ((s.2.2.2.2.2.2.2.1.length : Int) == 0) = f5
  generalize (s.2.2.2.2.2.2.2.2.2.2.1 == 0) = f6
  generalize ((s.2.2.2.2.2.2.2.2.1.length : Int) == 0) = f7
  generalize ((s.2.2.2.2.2.2.2.2.2.1.length : Int) == 0) = f8
  generalize (s.2.2.2.2.2.2.2.2.2.2.2.1 == 0) = f9
  generalize ((s.2.2.2.2.2.2.2.2.2.2.2.2.1.length : Int) == 0) = g1
  generalize ((s.2.2.2.2.2.2.2.2.2.2.2.2.2.1.length : Int) == 0) = g2
  generalize (s.2.2.2.2.2.2.2.2.2.2.2.2.2.2.1 == 0) = g3
  generalize ((s.2.2.2.2.2.2.2.2.2.2.2.2.2.2.2.1.length : Int) == 0) = g4
  generalize (s.2.2.2.2.2.2.2.2.2.2.2.2.2.2.2.2 == 0) = g5
  simp only [cond_and, Bool.and_assoc, Bool.true_and, cond_used, cond_or]

/-! ### Fields of the reference -/
def leaf {R : Type} (e0 : Unit → Option R) (e1 : Bool → Option R) (b : Bool) : Option R := bif b then e1 true else e0 ()
theorem leaf_t {R : Type} (e0 : Unit → Option R) (e1 : Bool → Option R) : e1 true = leaf e0 e1 true := rfl
theorem leaf_f {R : Type} (e0 : Unit → Option R) (e1 : Bool → Option R) : e0 () = leaf e0 e1 false := rfl
theorem kind_x {n : Int} {a b : Int} (h : a ≠ b) : (n == a && n == b) = false := by
  by_cases e : n = a
  · subst e; rw [beq_self_eq_true, Bool.true_and]; exact beq_eq_false_iff_ne.2 h
  · rw [beq_eq_false_iff_ne.2 e]; rfl

def q10 (s4 s5 s93 : Bool) (kd sh2 bins ops mx : Int) : Bool := !s93 && ((s4 || s5 || sh2 == 0) && ((kd == 4 || bins == 0) && ((kd == 6 || ops == 0) && (!(kd == 4 || kd == 5) || mx == 0))))

theorem rjoin10 {R : Type} (k : Nat) (s4 s5 s93 : Bool) (b1_0 b1_1 b1_2 : Int) (b1_3 : Bool) (b1_4 b1_5 b1_6 b1_7 : Int) (b1_8 b1_9 b1_10 : List Int) (b1_11 b1_12 : Int) (b1_13 b1_14 : List (Int × List Int)) (b1_15 : Int) (b1_16 : List (Int × Int)) (b1_17 : Int) (e0 : Unit → Option R) (e1 : Bool → Option R) :
    tilefarmref15_Fields.join10 k s4 s5 s93 b1_0 b1_1 b1_2 b1_3 b1_4 b1_5 b1_6 b1_7 b1_8 b1_9 b1_10 b1_11 b1_12 b1_13 b1_14 b1_15 b1_16 b1_17 e0 e1 = leaf e0 e1 (q10 s4 s5 s93 b1_0 b1_12 b1_15 b1_16.length b1_17) := by
  unfold tilefarmref15_Fields.join10 q10
  simp only [bne, pos_ok, leaf_t e0 e1, leaf_f e0 e1, cond_f (leaf e0 e1)]
  refine congrArg (leaf e0 e1) ?_
  generalize (b1_0 == 4) = k4
  generalize (b1_0 == 5) = k5
  generalize (b1_0 == 6) = k6
  generalize (b1_12 == 0) = f1
  generalize (b1_15 == 0) = f2
  generalize ((b1_16.length : Int) == 0) = f3
  generalize (b1_17 == 0) = f4
  cases s93
  · cases s4 <;> cases s5 <;> cases f1 <;> cases k4 <;> cases f2 <;> cases k6 <;> cases f3 <;> cases k5 <;> cases f4 <;> rfl
  · rfl

theorem rjoin9 {R : Type} (k : Nat) (s4 s5 s78 : Bool) (b1_0 b1_1 b1_2 : Int) (b1_3 : Bool) (b1_4 b1_5 b1_6 b1_7 : Int) (b1_8 b1_9 b1_10 : List Int) (b1_11 b1_12 : Int) (b1_13 b1_14 : List (Int × List Int)) (b1_15 : Int) (b1_16 : List (Int × Int)) (b1_17 : Int) (e0 : Unit → Option R) (e1 : Bool → Option R) :
    tilefarmref15_Fields.join9 k s4 s5 s78 b1_0 b1_1 b1_2 b1_3 b1_4 b1_5 b1_6 b1_7 b1_8 b1_9 b1_10 b1_11 b1_12 b1_13 b1_14 b1_15 b1_16 b1_17 e0 e1 = leaf e0 e1 (!s78 && q10 s4 s5 (!edB b1_0 && !(b1_11 == 0)) b1_0 b1_12 b1_15 b1_16.length b1_17) := by
  unfold tilefarmref15_Fields.join9
  simp only [rjoin10, redged_ok, Option.bind_some]
  cases s78 with
  | true => rfl
  | false =>
    rw [cond_false]
    cases edB b1_0 with
    | true => rfl
    | false => rfl

theorem rjoin8 {R : Type} (k : Nat) (s4 s5 s63 : Bool) (b1_0 b1_1 b1_2 : Int) (b1_3 : Bool) (b1_4 b1_5 b1_6 b1_7 : Int) (b1_8 b1_9 b1_10 : List Int) (b1_11 b1_12 : Int) (b1_13 b1_14 : List (Int × List Int)) (b1_15 : Int) (b1_16 : List (Int × Int)) (b1_17 : Int) (e0 : Unit → Option R) (e1 : Bool → Option R) :
    tilefarmref15_Fields.join8 k s4 s5 s63 b1_0 b1_1 b1_2 b1_3 b1_4 b1_5 b1_6 b1_7 b1_8 b1_9 b1_10 b1_11 b1_12 b1_13 b1_14 b1_15 b1_16 b1_17 e0 e1 = leaf e0 e1 (!s63 && (!(!s5 && !((b1_13.length : Int) == 0 && (b1_14.length : Int) == 0)) && q10 s4 s5 (!edB b1_0 && !(b1_11 == 0)) b1_0 b1_12 b1_15 b1_16.length b1_17)) := by
  unfold tilefarmref15_Fields.join8
  simp only [rjoin9, pos_ok]
  generalize q10 s4 s5 (!edB b1_0 && !(b1_11 == 0)) b1_0 b1_12 b1_15 b1_16.length b1_17 = q
  cases s63 <;> cases s5 <;> cases ((b1_13.length : Int) == 0) <;> cases ((b1_14.length : Int) == 0) <;> rfl

theorem rjoin7 {R : Type} (k : Nat) (s4 s5 s44 : Bool) (b1_0 b1_1 b1_2 : Int) (b1_3 : Bool) (b1_4 b1_5 b1_6 b1_7 : Int) (b1_8 b1_9 b1_10 : List Int) (b1_11 b1_12 : Int) (b1_13 b1_14 : List (Int × List Int)) (b1_15 : Int) (b1_16 : List (Int × Int)) (b1_17 : Int) (e0 : Unit → Option R) (e1 : Bool → Option R) :
    tilefarmref15_Fields.join7 k s4 s5 s44 b1_0 b1_1 b1_2 b1_3 b1_4 b1_5 b1_6 b1_7 b1_8 b1_9 b1_10 b1_11 b1_12 b1_13 b1_14 b1_15 b1_16 b1_17 e0 e1 = leaf e0 e1 (!s44 && (!(!s4 && !((b1_9.length : Int) == 0 && (b1_10.length : Int) == 0)) && (!(!s5 && !((b1_13.length : Int) == 0 && (b1_14.length : Int) == 0)) && q10 s4 s5 (!edB b1_0 && !(b1_11 == 0)) b1_0 b1_12 b1_15 b1_16.length b1_17))) := by
  unfold tilefarmref15_Fields.join7
  simp only [rjoin8, pos_ok]
  generalize (!(!s5 && !((b1_13.length : Int) == 0 && (b1_14.length : Int) == 0)) && q10 s4 s5 (!edB b1_0 && !(b1_11 == 0)) b1_0 b1_12 b1_15 b1_16.length b1_17) = q
  cases s44 <;> cases s4 <;> cases ((b1_9.length : Int) == 0) <;> cases ((b1_10.length : Int) == 0) <;> rfl

theorem rjoin6 {R : Type} (k : Nat) (s3 s4 s5 s33 : Bool) (b1_0 b1_1 b1_2 : Int) (b1_3 : Bool) (b1_4 b1_5 b1_6 b1_7 : Int) (b1_8 b1_9 b1_10 : List Int) (b1_11 b1_12 : Int) (b1_13 b1_14 : List (Int × List Int)) (b1_15 : Int) (b1_16 : List (Int × Int)) (b1_17 : Int) (e0 : Unit → Option R) (e1 : Bool → Option R) :
    tilefarmref15_Fields.join6 k s3 s4 s5 s33 b1_0 b1_1 b1_2 b1_3 b1_4 b1_5 b1_6 b1_7 b1_8 b1_9 b1_10 b1_11 b1_12 b1_13 b1_14 b1_15 b1_16 b1_17 e0 e1 = leaf e0 e1 (!s33 && (!(!s3 && !(b1_6 == 0 && (b1_7 == 0 && (b1_8.length : Int) == 0))) && (!(!s4 && !((b1_9.length : Int) == 0 && (b1_10.length : Int) == 0)) && (!(!s5 && !((b1_13.length : Int) == 0 && (b1_14.length : Int) == 0)) && q10 s4 s5 (!edB b1_0 && !(b1_11 == 0)) b1_0 b1_12 b1_15 b1_16.length b1_17)))) := by
  unfold tilefarmref15_Fields.join6
  simp only [rjoin7, pos_ok, bne]
  generalize (!(!s4 && !((b1_9.length : Int) == 0 && (b1_10.length : Int) == 0)) && (!(!s5 && !((b1_13.length : Int) == 0 && (b1_14.length : Int) == 0)) && q10 s4 s5 (!edB b1_0 && !(b1_11 == 0)) b1_0 b1_12 b1_15 b1_16.length b1_17)) = q
  cases s33 <;> cases s3 <;> cases (b1_6 == 0) <;> cases (b1_7 == 0) <;> cases ((b1_8.length : Int) == 0) <;> rfl

theorem rjoin3 {R : Type} (k : Nat) (s : Sg) (hs : 1 ≤ s.1 ∧ s.1 ≤ 6) (e0 : Bool → Option R) : tilefarmref15_Fields.join3 k s.1 s.2.1 s.2.2.1 s.2.2.2.1 s.2.2.2.2.1.1 s.2.2.2.2.1.2 s.2.2.2.2.2.1 s.2.2.2.2.2.2.1 s.2.2.2.2.2.2.2.1 s.2.2.2.2.2.2.2.2.1 s.2.2.2.2.2.2.2.2.2.1 s.2.2.2.2.2.2.2.2.2.2.1 s.2.2.2.2.2.2.2.2.2.2.2.1 s.2.2.2.2.2.2.2.2.2.2.2.2.1 s.2.2.2.2.2.2.2.2.2.2.2.2.2.1 s.2.2.2.2.2.2.2.2.2.2.2.2.2.2.1 s.2.2.2.2.2.2.2.2.2.2.2.2.2.2.2.1 s.2.2.2.2.2.2.2.2.2.2.2.2.2.2.2.2 e0 = e0 (fieldsB s) := by
  unfold tilefarmref15_Fields.join3 fieldsB
  simp only [redged_ok, Option.bind_some, rjoin6]
  have hl : ∀ b, leaf (fun _ => e0 false) (fun z => e0 z) b = e0 b := fun b => by cases b <;> rfl
  simp only [hl, cond_f e0]
  refine congrArg e0 ?_
  unfold q10 edB
  generalize (s.2.2.2.2.1.1 == 0) = f1
  generalize (s.2.2.2.2.1.2 == 0) = f2
  generalize (s.2.2.2.2.2.1 == 0 && (s.2.2.2.2.2.2.1 == 0 && (s.2.2.2.2.2.2.2.1.length : Int) == 0)) = f3
  generalize (s.2.2.2.2.2.2.2.2.2.2.1 == 0) = f6
  generalize ((s.2.2.2.2.2.2.2.2.1.length : Int) == 0 && (s.2.2.2.2.2.2.2.2.2.1.length : Int) == 0) = f7
  generalize (s.2.2.2.2.2.2.2.2.2.2.2.1 == 0) = f9
  generalize ((s.2.2.2.2.2.2.2.2.2.2.2.2.1.length : Int) == 0 && (s.2.2.2.2.2.2.2.2.2.2.2.2.2.1.length : Int) == 0) = g1
  generalize (s.2.2.2.2.2.2.2.2.2.2.2.2.2.2.1 == 0) = g3
  generalize ((s.2.2.2.2.2.2.2.2.2.2.2.2.2.2.2.1.length : Int) == 0) = g4
  generalize (s.2.2.2.2.2.2.2.2.2.2.2.2.2.2.2.2 == 0) = g5
  have : s.1 = 1 ∨ s.1 = 2 ∨ s.1 = 3 ∨ s.1 = 4 ∨ s.1 = 5 ∨ s.1 = 6 := by omega
  rcases this with h | h | h | h | h | h <;> (rw [h]; simp)
  all_goals (try (cases f1 <;> cases f2 <;> cases f3 <;> cases f6 <;> simp))
  all_goals (cases f7 <;> cases g1 <;> cases f9 <;> rfl)

theorem fields_ok (k : Nat) (hk : 31 ≤ k) (s : Sg) : shape_Fields k s = some ((decide (fieldsP s), ()), ()) := by
  unfold shape_Fields
  simp only [join4_ok k hk, sbt_ok, Option.bind_some]
  by_cases h : 1 ≤ s.1 ∧ s.1 ≤ 6
  rotate_left
  · rw [decide_eq_false h, Bool.not_false, cond_true, decide_eq_false (fun g : fieldsP s => h g.1)]
  rw [decide_eq_true h, Bool.not_true, cond_false]
  have fin : (s.1 = 6 ∨ s.2.2.1 = -1) → decide (fieldsP s) = fieldsB s := fun h6 => by
    cases hb : fieldsB s with
    | true => exact decide_eq_true ⟨h, h6, hb⟩
    | false => exact decide_eq_false fun g => by have := g.2.2; rw [hb] at this; cases this
  by_cases h6 : s.1 = 6
  · rw [bne_ff h6, cond_false, fin (.inl h6)]
  · rw [bne_tt h6, cond_true]
    by_cases h7 : s.2.2.1 = -1
    · rw [bne_ff h7, cond_false, fin (.inr h7)]
    · rw [bne_tt h7, cond_true, decide_eq_false (fun g : fieldsP s => g.2.1.elim h6 h7)]

theorem rfields_ok (k : Nat) (s : Sg) : tilefarmref15_Fields k s = some ((decide (fieldsP s), ()), ()) := by
  unfold tilefarmref15_Fields
  by_cases h : 1 ≤ s.1 ∧ s.1 ≤ 6
  rotate_left
  · rw [decide_eq_false (fun g : fieldsP s => h g.1)]
    by_cases h1 : s.1 < 1
    · rw [decide_eq_true h1, cond_true]
    · rw [decide_eq_false h1, cond_false, decide_eq_true (p := s.1 > 6) (by omega), cond_true]
  simp only [rjoin3 k s h]
  rw [decide_eq_false (p := s.1 < 1) (by omega), cond_false, decide_eq_false (p := s.1 > 6) (by omega), cond_false]
  have fin : (s.1 = 6 ∨ s.2.2.1 = -1) → decide (fieldsP s) = fieldsB s := fun h6 => by
    cases hb : fieldsB s with
    | true => exact decide_eq_true ⟨h, h6, hb⟩
    | false => exact decide_eq_false fun g => by have := g.2.2; rw [hb] at this; cases this
  by_cases h6 : s.1 = 6
  · rw [bne_ff h6, cond_false, fin (.inl h6)]
  · rw [bne_tt h6, cond_true]
    by_cases h7 : s.2.2.1 = -1
    · rw [bne_ff h7, cond_false, fin (.inr h7)]
    · rw [bne_tt h7, cond_true, decide_eq_false (fun g : fieldsP s => g.2.1.elim h6 h7)]
end Go.Lf.T

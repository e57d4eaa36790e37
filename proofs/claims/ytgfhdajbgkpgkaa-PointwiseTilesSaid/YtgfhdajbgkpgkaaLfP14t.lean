import Derived.Test.YtgfhdajbgkpgkaaLfP14s
/-! Lf: planes and rectangles in plain words. -/
set_option linter.unusedVariables false
set_option maxRecDepth 100000
namespace Go.Lf.T
open Go Go.Lf

abbrev Pl := Int × Int × Int × List Int
abbrev Rc := Int × Int × Int × Int

def sizeP (w h m : Int) : Prop := 1 ≤ w ∧ w ≤ 128 ∧ 1 ≤ h ∧ h ≤ 128 ∧ w * h ≤ 4096 ∧ 1 ≤ m ∧ m ≤ 4294967296
instance (w h m : Int) : Decidable (sizeP w h m) := inferInstanceAs (Decidable (_ ∧ _))
def pixP (m : Int) (l : List Int) : Prop := ∀ x ∈ l, 0 ≤ x ∧ x ≤ m
instance (m : Int) (l : List Int) : Decidable (pixP m l) := inferInstanceAs (Decidable (∀ x ∈ l, _))
def planeP (p : Pl) : Prop := sizeP p.1 p.2.1 p.2.2.1 ∧ (p.2.2.2.length : Int) = p.1 * p.2.1 ∧ pixP p.2.2.1 p.2.2.2
instance (p : Pl) : Decidable (planeP p) := inferInstanceAs (Decidable (_ ∧ _))

theorem mul_le_of {a b c d : Int} (h1 : 0 ≤ a) (h2 : a ≤ c) (h3 : 0 ≤ b) (h4 : b ≤ d) : 0 ≤ a * b ∧ a * b ≤ c * d :=
  ⟨Int.mul_nonneg h1 h3, Int.mul_le_mul h2 h4 h3 (by omega)⟩

theorem mul_ok (k : Nat) {a b c : Int} (hc : 0 ≤ c) (hc2 : c ≤ 4611686018427387904) : ∃ v, extent_Mul k a b c = some ((v, decide (0 ≤ a ∧ 0 ≤ b ∧ a * b ≤ c), ()), ()) ∧ (0 ≤ a ∧ 0 ≤ b ∧ a * b ≤ c → v = a * b) := by
  unfold extent_Mul
  by_cases ha : a < 0
  · rw [decide_eq_true ha, cond_true, decide_eq_false (p := 0 ≤ a ∧ _) (fun h => by omega)]
    exact ⟨_, rfl, fun h => by omega⟩
  rw [decide_eq_false ha, cond_false]
  by_cases hb : b < 0
  · rw [decide_eq_true hb, cond_true, decide_eq_false (p := 0 ≤ a ∧ _) (fun h => by omega)]
    exact ⟨_, rfl, fun h => by omega⟩
  rw [decide_eq_false hb, cond_false, decide_eq_false (p := c < 0) (by omega), cond_false]
  by_cases h0 : a = 0
  · subst h0
    rw [show ((0 : Int) != 0) = false from rfl, cond_false, Int.zero_mul, decide_eq_true (p := (0 : Int) ≤ 0 ∧ _) (by omega)]
    exact ⟨_, rfl, fun _ => rfl⟩
  have e : (a != 0) = true := by simpa using h0
  have hd : c.tdiv a = c / a := Int.tdiv_eq_ediv_of_nonneg hc
  have hd1 : c / a ≤ c := Int.ediv_le_self a hc
  have hd2 : 0 ≤ c / a := Int.ediv_nonneg hc (by omega)
  rw [e, cond_true, if_neg h0, hd, w64_id (by omega) (by omega)]
  have key : b > c / a ↔ ¬ a * b ≤ c := by
    rw [Int.mul_comm, ← Int.le_ediv_iff_mul_le (by omega)]; omega
  by_cases hm : a * b ≤ c
  · rw [decide_eq_false (p := b > c / a) (fun h => key.1 h hm), cond_false, decide_eq_true (p := 0 ≤ a ∧ _) ⟨by omega, by omega, hm⟩]
    have := Int.mul_nonneg (a := a) (b := b) (by omega) (by omega)
    exact ⟨_, rfl, fun _ => w64_id (by omega) (by omega)⟩
  · rw [decide_eq_true (p := b > c / a) (key.2 hm), cond_true, decide_eq_false (p := 0 ≤ a ∧ _) (fun h => hm h.2.2)]
    exact ⟨_, rfl, fun h => (hm h.2.2).elim⟩

theorem size_ok (k : Nat) (w h m : Int) : plane_size k w h m = some ((decide (sizeP w h m), ()), ()) := by
  unfold plane_size
  obtain ⟨v, hv, _⟩ := mul_ok k (a := w) (b := h) (c := 4096) (by omega) (by omega)
  rw [hv, Option.bind_some]
  unfold sizeP
  by_cases h1 : 1 ≤ w
  by_cases h2 : w ≤ 128
  by_cases h3 : 1 ≤ h
  by_cases h4 : h ≤ 128
  by_cases h5 : w * h ≤ 4096
  by_cases h6 : 1 ≤ m
  · simp [h1, h2, h3, h4, h5, h6, show 0 ≤ w by omega, show 0 ≤ h by omega]
  all_goals (by_cases hx : 0 ≤ w ∧ 0 ≤ h ∧ w * h ≤ 4096 <;> simp [*])

theorem rsize_ok (k : Nat) (w h m : Int) : tilefarmref4_Size k w h m = some ((decide (sizeP w h m), ()), ()) := by
  unfold tilefarmref4_Size sizeP
  by_cases h1 : 1 ≤ w
  by_cases h2 : w ≤ 128
  by_cases h3 : 1 ≤ h
  by_cases h4 : h ≤ 128
  · have := mul_le_of (show 0 ≤ w by omega) h2 (show 0 ≤ h by omega) h4
    rw [w64_id (n := w * h) (by omega) (by omega)]
    by_cases h5 : w * h ≤ 4096
    by_cases h6 : 1 ≤ m
    all_goals simp [*]
  all_goals simp [*]

theorem pixP_drop {m : Int} {l : List Int} {i : Nat} (hi : i < l.length) : pixP m (l.drop i) ↔ (0 ≤ l[i] ∧ l[i] ≤ m) ∧ pixP m (l.drop (i + 1)) := by
  unfold pixP
  constructor
  · intro h
    rw [List.drop_eq_getElem_cons hi] at h
    exact ⟨h _ (List.mem_cons_self), fun x hx => h x (List.mem_cons_of_mem _ hx)⟩
  · rintro ⟨h1, h2⟩ x hx
    rw [List.drop_eq_getElem_cons hi] at hx
    rcases List.mem_cons.1 hx with rfl | hx
    · exact h1
    · exact h2 x hx

theorem pixP_nil (m : Int) : pixP m [] := fun x h => by cases h

theorem pvalid_loop {R : Type} (k : Nat) (l l' : List Int) (a b m : Int) (e0 : Bool → Option R) (e1 : Unit → Option R) (hl : l.length ≤ 4294967296) : ∀ (n i j : Nat), l.length - i = n → i ≤ l.length → n < j →
    plane_Valid.loop0 k j l l.length i a b m l' e0 e1 = if pixP m (l.drop i) then e1 () else e0 false := by
  intro n
  induction n with
  | zero =>
    intro i j hn hi hj
    obtain ⟨j, rfl⟩ : ∃ j', j = j' + 1 := ⟨j - 1, by omega⟩
    rw [plane_Valid.loop0_s, decide_eq_false (by omega), cond_false, show i = l.length by omega, List.drop_length, if_pos (pixP_nil m)]
  | succ n ih =>
    intro i j hn hi hj
    obtain ⟨j, rfl⟩ : ∃ j', j = j' + 1 := ⟨j - 1, by omega⟩
    have hlt : i < l.length := by omega
    rw [plane_Valid.loop0_s, decide_eq_true (by omega), cond_true, if_pos (by omega), Int.toNat_natCast, List.getElem?_eq_getElem hlt, Option.bind_some, w64_succ i (by omega), ih (i + 1) j (by omega) (by omega) (by omega)]
    by_cases h1 : l[i] < 0
    · rw [decide_eq_true h1, cond_true, if_neg (fun h => by have := ((pixP_drop hlt).1 h).1; omega)]
    rw [decide_eq_false h1, cond_false]
    by_cases h2 : l[i] > m
    · rw [decide_eq_true h2, cond_true, if_neg (fun h => by have := ((pixP_drop hlt).1 h).1; omega)]
    rw [decide_eq_false h2, cond_false]
    by_cases h3 : pixP m (l.drop (i + 1))
    · rw [if_pos h3, if_pos ((pixP_drop hlt).2 ⟨by omega, h3⟩)]
    · rw [if_neg h3, if_neg (fun h => h3 ((pixP_drop hlt).1 h).2)]

theorem rpvalid_loop {R : Type} (k : Nat) (l : List Int) (a b m : Int) (e0 : Bool → Option R) (e1 : Unit → Option R) (hl : l.length ≤ 4294967296) : ∀ (n i j : Nat), l.length - i = n → i ≤ l.length → n < j →
    tilefarmref4_Valid.loop0 k j i a b m l e0 e1 = if pixP m (l.drop i) then e1 () else e0 false := by
  intro n
  induction n with
  | zero =>
    intro i j hn hi hj
    obtain ⟨j, rfl⟩ : ∃ j', j = j' + 1 := ⟨j - 1, by omega⟩
    rw [tilefarmref4_Valid.loop0_s, decide_eq_false (by omega), cond_false, show i = l.length by omega, List.drop_length, if_pos (pixP_nil m)]
  | succ n ih =>
    intro i j hn hi hj
    obtain ⟨j, rfl⟩ : ∃ j', j = j' + 1 := ⟨j - 1, by omega⟩
    have hlt : i < l.length := by omega
    rw [tilefarmref4_Valid.loop0_s, decide_eq_true (by omega), cond_true, if_pos (by omega), if_pos (by omega), Int.toNat_natCast, List.getElem?_eq_getElem hlt, Option.bind_some, Option.bind_some, w64_succ i (by omega), ih (i + 1) j (by omega) (by omega) (by omega)]
    by_cases h1 : l[i] < 0
    · rw [decide_eq_true h1, cond_true, if_neg (fun h => by have := ((pixP_drop hlt).1 h).1; omega)]
    rw [decide_eq_false h1, cond_false]
    by_cases h2 : l[i] > m
    · rw [decide_eq_true h2, cond_true, if_neg (fun h => by have := ((pixP_drop hlt).1 h).1; omega)]
    rw [decide_eq_false h2, cond_false]
    by_cases h3 : pixP m (l.drop (i + 1))
    · rw [if_pos h3, if_pos ((pixP_drop hlt).2 ⟨by omega, h3⟩)]
    · rw [if_neg h3, if_neg (fun h => h3 ((pixP_drop hlt).1 h).2)]

theorem plane_ok (k : Nat) (hk : 4097 ≤ k) (p : Pl) : plane_Valid k p = some ((decide (planeP p), ()), ()) := by
  unfold plane_Valid
  rw [size_ok, Option.bind_some]
  by_cases hs : sizeP p.1 p.2.1 p.2.2.1
  · have := mul_le_of (show 0 ≤ p.1 by have := hs.1; omega) hs.2.1 (show 0 ≤ p.2.1 by have := hs.2.2.1; omega) hs.2.2.2.1
    have h4 := hs.2.2.2.2.1
    rw [decide_eq_true hs, Bool.not_true, cond_false, w64_id (n := p.1 * p.2.1) (by omega) (by omega)]
    by_cases hl : (p.2.2.2.length : Int) = p.1 * p.2.1
    · have e : ((p.2.2.2.length : Int) != p.1 * p.2.1) = false := by simpa using hl
      rw [e, cond_false]
      refine (pvalid_loop k p.2.2.2 p.2.2.2 _ _ _ _ _ (by omega) p.2.2.2.length 0 k rfl (by omega) (by omega)).trans ?_
      rw [List.drop_zero]
      by_cases hp : pixP p.2.2.1 p.2.2.2
      · rw [if_pos hp, decide_eq_true (show planeP p from ⟨hs, hl, hp⟩)]
      · rw [if_neg hp, decide_eq_false (fun h : planeP p => hp h.2.2)]
    · have e : ((p.2.2.2.length : Int) != p.1 * p.2.1) = true := by simpa using hl
      rw [e, cond_true, decide_eq_false (fun h : planeP p => hl h.2.1)]
  · rw [decide_eq_false hs, Bool.not_false, cond_true, decide_eq_false (fun h : planeP p => hs h.1)]

theorem rplane_ok (k : Nat) (hk : 4097 ≤ k) (p : Pl) : tilefarmref4_Valid k p = some ((decide (planeP p), ()), ()) := by
  unfold tilefarmref4_Valid
  rw [rsize_ok, Option.bind_some]
  by_cases hs : sizeP p.1 p.2.1 p.2.2.1
  · have := mul_le_of (show 0 ≤ p.1 by have := hs.1; omega) hs.2.1 (show 0 ≤ p.2.1 by have := hs.2.2.1; omega) hs.2.2.2.1
    have h4 := hs.2.2.2.2.1
    rw [decide_eq_true hs, Bool.not_true, cond_false, w64_id (n := p.1 * p.2.1) (by omega) (by omega)]
    by_cases hl : (p.2.2.2.length : Int) = p.1 * p.2.1
    · have e : ((p.2.2.2.length : Int) != p.1 * p.2.1) = false := by simpa using hl
      rw [e, cond_false]
      refine (rpvalid_loop k p.2.2.2 _ _ _ _ _ (by omega) p.2.2.2.length 0 k rfl (by omega) (by omega)).trans ?_
      rw [List.drop_zero]
      by_cases hp : pixP p.2.2.1 p.2.2.2
      · rw [if_pos hp, decide_eq_true (show planeP p from ⟨hs, hl, hp⟩)]
      · rw [if_neg hp, decide_eq_false (fun h : planeP p => hp h.2.2)]
    · have e : ((p.2.2.2.length : Int) != p.1 * p.2.1) = true := by simpa using hl
      rw [e, cond_true, decide_eq_false (fun h : planeP p => hl h.2.1)]
  · rw [decide_eq_false hs, Bool.not_false, cond_true, decide_eq_false (fun h : planeP p => hs h.1)]

/-! ### Rectangles -/
def coordP (n : Int) : Prop := -1048576 ≤ n ∧ n ≤ 1048576
instance (n : Int) : Decidable (coordP n) := inferInstanceAs (Decidable (_ ∧ _))
def noneP (r : Rc) : Prop := r.1 = 0 ∧ r.2.1 = 0 ∧ r.2.2.1 = 0 ∧ r.2.2.2 = 0
instance (r : Rc) : Decidable (noneP r) := inferInstanceAs (Decidable (_ ∧ _))
def rectP (r : Rc) : Prop := noneP r ∨ coordP r.1 ∧ coordP r.2.1 ∧ coordP r.2.2.1 ∧ coordP r.2.2.2 ∧ r.1 < r.2.2.1 ∧ r.2.1 < r.2.2.2
instance (r : Rc) : Decidable (rectP r) := inferInstanceAs (Decidable (_ ∨ _))

theorem none_ok (r : Rc) : (r.1 == 0 && (r.2.1 == 0 && (r.2.2.1 == 0 && (r.2.2.2 == 0 && true)))) = decide (noneP r) := by
  rw [Bool.eq_iff_iff, decide_eq_true_iff]
  unfold noneP
  simp
theorem empty_ok (k : Nat) (r : Rc) : rect_Empty k r = some ((decide (noneP r), ()), ()) := by
  unfold rect_Empty; rw [none_ok]
theorem rempty_ok (k : Nat) (r : Rc) : tilefarmref2_Empty k r = some ((decide (noneP r), ()), ()) := by
  unfold tilefarmref2_Empty; rw [none_ok]
theorem coord_ok (k : Nat) (n : Int) : rect_coord k n = some ((decide (coordP n), ()), ()) := by
  unfold rect_coord coordP
  by_cases h : -1048576 ≤ n <;> simp [h]
theorem rcoord_ok (k : Nat) (n : Int) : tilefarmref2_coord k n = some ((decide (coordP n), ()), ()) := by
  unfold tilefarmref2_coord coordP
  by_cases h : -1048576 ≤ n <;> simp [h]

theorem rect_ok (k : Nat) (r : Rc) : rect_Valid k r = some ((decide (rectP r), ()), ()) := by
  unfold rect_Valid rectP
  simp only [empty_ok, coord_ok, Option.bind_some]
  by_cases h0 : noneP r
  · simp [h0]
  by_cases h1 : coordP r.1
  by_cases h2 : coordP r.2.1
  by_cases h3 : coordP r.2.2.1
  by_cases h4 : coordP r.2.2.2
  by_cases h5 : r.1 < r.2.2.1
  all_goals simp [*]
theorem rrect_ok (k : Nat) (r : Rc) : tilefarmref2_Valid k r = some ((decide (rectP r), ()), ()) := by
  unfold tilefarmref2_Valid rectP
  simp only [none_ok, rcoord_ok, Option.bind_some]
  by_cases h0 : noneP r
  · simp [h0]
  by_cases h1 : coordP r.1
  by_cases h2 : coordP r.2.1
  by_cases h3 : coordP r.2.2.1
  by_cases h4 : coordP r.2.2.2
  by_cases h5 : r.1 < r.2.2.1
  all_goals simp [*]

theorem full_ok (k : Nat) (r : Rc) : tilefarmref2_Full k r = some ((decide (rectP r ∧ ¬ noneP r), ()), ()) := by
  unfold tilefarmref2_Full
  simp only [rrect_ok, rempty_ok, Option.bind_some]
  by_cases h : rectP r <;> by_cases h2 : noneP r <;> simp [h, h2]

/-- A rectangle of points of a plane. -/
def goodP (r : Rc) (w h : Int) : Prop := 0 ≤ r.1 ∧ 0 ≤ r.2.1 ∧ r.2.2.1 ≤ w ∧ r.2.2.2 ≤ h ∧ r.1 < r.2.2.1 ∧ r.2.1 < r.2.2.2
instance (r : Rc) (w h : Int) : Decidable (goodP r w h) := inferInstanceAs (Decidable (_ ∧ _))

theorem cover_rect {w h : Int} (hw : 1 ≤ w ∧ w ≤ 128) (hh : 1 ≤ h ∧ h ≤ 128) : rectP (0, 0, w, h) := by
  refine .inr ⟨?_, ?_, ?_, ?_, show (0 : Int) < w by omega, show (0 : Int) < h by omega⟩ <;> (unfold coordP; simp only; omega)

theorem inside_ok (k : Nat) {r : Rc} {w h : Int} (hw : 1 ≤ w ∧ w ≤ 128) (hh : 1 ≤ h ∧ h ≤ 128) (h0 : ¬ noneP r) : rect_Inside k r (0, 0, w, h) = some ((decide (goodP r w h), ()), ()) := by
  unfold rect_Inside
  simp only [rect_ok, Option.bind_some, decide_eq_true (cover_rect hw hh), cond_true]
  by_cases h1 : rectP r
  · rw [decide_eq_true h1, cond_true]
    rcases h1 with h1 | h1
    · exact (h0 h1).elim
    unfold rect_Intersect
    simp only [rect_ok, Option.bind_some, decide_eq_true (cover_rect hw hh), decide_eq_true (show rectP r from .inr h1), Bool.not_true, cond_false]
    obtain ⟨x0, y0, x1, y1⟩ := r
    obtain ⟨_, _, _, _, k1, k2⟩ := h1
    simp only at k1 k2
    simp only
    by_cases g : 0 ≤ x0 ∧ 0 ≤ y0 ∧ x1 ≤ w ∧ y1 ≤ h
    · have e1 : mm true x0 0 = x0 := by rw [mm_true]; split <;> omega
      have e2 : mm true y0 0 = y0 := by rw [mm_true]; split <;> omega
      have e3 : mm false x1 w = x1 := by rw [mm_false]; split <;> omega
      have e4 : mm false y1 h = y1 := by rw [mm_false]; split <;> omega
      simp only [e1, e2, e3, e4]
      rw [decide_eq_false (p := x0 ≥ x1) (by omega), decide_eq_false (p := y0 ≥ y1) (by omega), decide_eq_true (show goodP (x0, y0, x1, y1) w h from ⟨g.1, g.2.1, g.2.2.1, g.2.2.2, k1, k2⟩)]
      simp only [cond_false, Option.bind_some]
      simp
    · rw [decide_eq_false (fun h : goodP (x0, y0, x1, y1) w h => g ⟨h.1, h.2.1, h.2.2.1, h.2.2.2.1⟩)]
      have fin : ∀ a b c d : Int, (a, b, c, d) ≠ (x0, y0, x1, y1) → some (((a == x0 && (b == y0 && (c == x1 && (d == y1 && true)))), ()), ()) = some ((false, ()), ()) := by
        intro a b c d hne
        have : (a == x0 && (b == y0 && (c == x1 && (d == y1 && true)))) = false := by
          rw [Bool.eq_false_iff]
          intro hh
          simp at hh
          exact hne (by rw [hh.1, hh.2.1, hh.2.2.1, hh.2.2.2])
        rw [this]
      have f0 : ((0 : Int), (0 : Int), (0 : Int), (0 : Int)) ≠ (x0, y0, x1, y1) := fun hh => by injection hh with a b; injection b with b c; injection c with c d; omega
      by_cases c1 : mm true x0 0 ≥ mm false x1 w
      · rw [decide_eq_true c1, cond_true, Option.bind_some]; exact fin _ _ _ _ f0
      · rw [decide_eq_false c1, cond_false]
        by_cases c2 : mm true y0 0 ≥ mm false y1 h
        · rw [decide_eq_true c2, cond_true, Option.bind_some]; exact fin _ _ _ _ f0
        · rw [decide_eq_false c2, cond_false, Option.bind_some]
          refine fin _ _ _ _ fun hh => g ?_
          injection hh with a b; injection b with b c; injection c with c d
          simp only at a b c d
          have := mm_t_ge x0 0; have := mm_t_ge y0 0; have := mm_f_le x1 w; have := mm_f_le y1 h
          omega
  · rw [decide_eq_false h1, cond_false, decide_eq_false (fun g => h1 (.inr ?_))]
    obtain ⟨g1, g2, g3, g4, g5, g6⟩ := g
    refine ⟨?_, ?_, ?_, ?_, g5, g6⟩ <;> (unfold coordP; omega)

theorem rinside_ok (k : Nat) {r : Rc} {w h : Int} (hw : 1 ≤ w ∧ w ≤ 128) (hh : 1 ≤ h ∧ h ≤ 128) (h0 : rectP r ∧ ¬ noneP r) : tilefarmref2_Inside k r (0, 0, w, h) = some ((decide (goodP r w h), ()), ()) := by
  unfold tilefarmref2_Inside
  simp only [rrect_ok, rempty_ok, Option.bind_some, decide_eq_true (cover_rect hw hh), decide_eq_true h0.1, decide_eq_false h0.2, Bool.not_true, cond_false]
  rcases h0.1 with h1 | ⟨_, _, _, _, k1, k2⟩
  · exact (h0.2 h1).elim
  unfold goodP
  by_cases g1 : 0 ≤ r.1
  by_cases g2 : 0 ≤ r.2.1
  by_cases g3 : r.2.2.1 ≤ w
  all_goals simp [*]

theorem good_rect {r : Rc} {w h : Int} (hw : w ≤ 128) (hh : h ≤ 128) (g : goodP r w h) : rectP r ∧ ¬ noneP r := by
  obtain ⟨g1, g2, g3, g4, g5, g6⟩ := g
  refine ⟨.inr ⟨?_, ?_, ?_, ?_, g5, g6⟩, fun h => ?_⟩
  iterate 4 (unfold coordP; omega)
  obtain ⟨a, b, c, d⟩ := h; omega

theorem same_loop {R : Type} (k : Nat) (a b : List Int) (e0 : Bool → Option R) (e1 : Unit → Option R) (hl : a.length ≤ 4294967296) (hab : a.length = b.length) : ∀ (n i j : Nat), a.length - i = n → i ≤ a.length → n < j →
    tilefarmref4_Same.loop0 k j a b i e0 e1 = if a.drop i = b.drop i then e1 () else e0 false := by
  intro n
  induction n with
  | zero =>
    intro i j hn hi hj
    obtain ⟨j, rfl⟩ : ∃ j', j = j' + 1 := ⟨j - 1, by omega⟩
    rw [tilefarmref4_Same.loop0_s, decide_eq_false (by omega), cond_false, List.drop_eq_nil_of_le (by omega), List.drop_eq_nil_of_le (by omega), if_pos rfl]
  | succ n ih =>
    intro i j hn hi hj
    obtain ⟨j, rfl⟩ : ∃ j', j = j' + 1 := ⟨j - 1, by omega⟩
    have hlt : i < a.length := by omega
    have hlt2 : i < b.length := by omega
    rw [tilefarmref4_Same.loop0_s, decide_eq_true (by omega), cond_true, if_pos (Int.natCast_nonneg i), Int.toNat_natCast, List.getElem?_eq_getElem hlt, Option.bind_some, if_pos (Int.natCast_nonneg i), List.getElem?_eq_getElem hlt2, Option.bind_some, w64_succ i (by omega), ih (i + 1) j (by omega) (by omega) (by omega), List.drop_eq_getElem_cons hlt, List.drop_eq_getElem_cons hlt2]
    by_cases h1 : a[i] = b[i]
    · rw [h1, bne_self_eq_false, cond_false]
      by_cases h2 : a.drop (i + 1) = b.drop (i + 1)
      · rw [if_pos h2, if_pos (by rw [h2])]
      · rw [if_neg h2, if_neg (fun h => h2 (by injection h))]
    · have e : (a[i] != b[i]) = true := by simpa using h1
      rw [e, cond_true, if_neg (fun h => h1 (by injection h))]

theorem same_ok (k : Nat) {a b : List Int} (hl : a.length ≤ 4294967296) (hk : a.length < k) : tilefarmref4_Same k a b = some ((decide (a = b), ()), ()) := by
  unfold tilefarmref4_Same
  by_cases hab : a.length = b.length
  · rw [hab, bne_self_eq_false, cond_false]
    refine (same_loop k a b _ _ hl hab a.length 0 k rfl (by omega) hk).trans ?_
    rw [List.drop_zero, List.drop_zero]
    by_cases h : a = b
    · rw [if_pos h, decide_eq_true h]
    · rw [if_neg h, decide_eq_false h]
  · have e : ((a.length : Int) != (b.length : Int)) = true := by simp; omega
    rw [e, cond_true, decide_eq_false (fun h => hab (by rw [h]))]

theorem equal_ok (k : Nat) {p q : Pl} (hl : p.2.2.2.length ≤ 4294967296) (hk : p.2.2.2.length < k) : tilefarmref4_Equal k p q = some ((decide (p = q), ()), ()) := by
  obtain ⟨a, b, c, d⟩ := p
  obtain ⟨a', b', c', d'⟩ := q
  unfold tilefarmref4_Equal
  rw [same_ok k hl hk, Option.bind_some]
  by_cases h1 : a = a'
  by_cases h2 : b = b'
  by_cases h3 : c = c'
  · simp [h1, h2, h3]
  · have e : (c == c') = false := by simpa using h3
    simp [h1, h2, h3, e]
  · have e : (b == b') = false := by simpa using h2
    simp [h1, h2, e]
  · have e : (a == a') = false := by simpa using h1
    simp [h1, e]

theorem clamp_ok (k : Nat) (n : Int) {m : Int} (hm : 0 ≤ m) : ∃ v, fixed_Clamp k n m = some ((v, ()), ()) ∧ tilefarmref7_Clamp k n m = some ((v, ()), ()) ∧ 0 ≤ v ∧ v ≤ m := by
  unfold fixed_Clamp tilefarmref7_Clamp
  rw [mm_true, mm_false]
  by_cases h1 : n < 0
  · rw [decide_eq_true h1, cond_true, if_neg (show ¬ m < n by omega), if_pos h1]
    exact ⟨0, rfl, rfl, by omega, hm⟩
  rw [decide_eq_false h1, cond_false, decide_eq_false (p := m < 0) (by omega), cond_false]
  by_cases h2 : n > m
  · rw [decide_eq_true h2, cond_true, if_pos h2, if_neg (by omega)]
    exact ⟨m, rfl, rfl, by omega, by omega⟩
  · rw [decide_eq_false h2, cond_false, if_neg h2, if_neg (by omega)]
    exact ⟨n, rfl, rfl, by omega, by omega⟩
end Go.Lf.T

import Derived.Test.YtagpgomkblgooaaLfP15e
/-! Lf: ShapeChecks and ShapeFields. -/
set_option linter.unusedVariables false
set_option maxRecDepth 100000
namespace Go.Lf.T
open Go Go.Lf

theorem sh_eq (p : Sh) : (p.1 == p.1 && (p.2.1 == p.2.1 && (p.2.2 == p.2.2 && true))) = true := by simp

theorem checks_loop {R : Type} (a b : Sh) (e0 : Bool → Option R) (e1 : Unit → Option R) : ∀ (n i j : Nat) (t : Ta), 6 - i = n → i ≤ 6 → n < j → Tp t →
    tilefarmlaw15_ShapeChecks.loop0 5000 j i a.1 a.2.1 a.2.2 b.1 b.2.1 b.2.2 t.1 t.2 e0 e1 = e1 () := by
  intro n
  induction n with
  | zero =>
    intro i j t hn hi hj ht
    obtain ⟨j, rfl⟩ : ∃ j', j = j' + 1 := ⟨j - 1, by omega⟩
    rw [tilefarmlaw15_ShapeChecks.loop0_s, decide_eq_false (by omega)]
    rfl
  | succ n ih =>
    intro i j t hn hi hj ht
    obtain ⟨j, rfl⟩ : ∃ j', j = j' + 1 := ⟨j - 1, by omega⟩
    have hnext : ∀ t' : Ta, Tp t' → tilefarmlaw15_ShapeChecks.loop0 5000 j (w64 ((i : Int) + 1)) a.1 a.2.1 a.2.2 b.1 b.2.1 b.2.2 t'.1 t'.2 e0 e1 = e1 () := fun t' h' => by
      rw [w64_succ i (by omega)]; exact ih (i + 1) j t' (by omega) (by omega) (by omega) h'
    have hsame : ∀ l : List Int, l.length ≤ 2 → tilefarmref4_Same 5000 l l = some ((true, ()), ()) := fun l hl => by
      rw [same_ok 5000 (by omega) (by omega), decide_eq_true rfl]
    obtain ⟨x, t1, e1', x1, x2, ht1⟩ := small_ok 5000 (t := (t.1, t.2)) ht
    obtain ⟨s, t2, e2, hs, ht2, _⟩ := stage_ok ht1 0 x1 x2 1
    rw [tilefarmlaw15_ShapeChecks.loop0_s, decide_eq_true (by omega), cond_true]
    simp only [e1', Option.bind_some]
    simp only [e2, Option.bind_some]
    obtain ⟨s', t3, e3, ht3⟩ := spoils_ok 5000 (by omega) ht2 hs
    obtain ⟨l, l1, l2, l3⟩ := srcs_ok 5000 s
    obtain ⟨l', l1', l2', l3'⟩ := srcs_ok 5000 s'
    cases decide ((i : Int) > 1) with
    | true =>
      rw [cond_true]
      simp only [e3, Option.bind_some]
      cases ((i : Int) == 4) with
      | true =>
        rw [cond_true]
        obtain ⟨y, t4, e4, _, _, ht4⟩ := small_ok 5000 ht3
        simp only [e4, Option.bind_some]
        simp only [of_ok 5000 (by omega), rof_ok 5000 (by omega), fields_ok 5000 (by omega), rfields_ok, l1', l2', hsame l' l3', svalid_ok, rsvalid_ok, Option.bind_some, bne_self_eq_false, beq_self_eq_true, Bool.not_true, cond_false]
        exact hnext t4 ht4
      | false =>
        rw [cond_false]
        cases ((i : Int) == 5) with
        | true =>
          rw [cond_true]
          simp only [of_ok 5000 (by omega), rof_ok 5000 (by omega), fields_ok 5000 (by omega), rfields_ok, l1', l2', hsame l' l3', svalid_ok, rsvalid_ok, Option.bind_some, bne_self_eq_false, beq_self_eq_true, Bool.not_true, cond_false]
          exact hnext t3 ht3
        | false =>
          rw [cond_false]
          simp only [of_ok 5000 (by omega), rof_ok 5000 (by omega), fields_ok 5000 (by omega), rfields_ok, l1', l2', hsame l' l3', svalid_ok, rsvalid_ok, Option.bind_some, bne_self_eq_false, beq_self_eq_true, Bool.not_true, cond_false]
          exact hnext t3 ht3
    | false =>
      rw [cond_false]
      cases ((i : Int) == 4) with
      | true =>
        rw [cond_true]
        obtain ⟨y, t4, e4, _, _, ht4⟩ := small_ok 5000 ht2
        simp only [e4, Option.bind_some]
        simp only [of_ok 5000 (by omega), rof_ok 5000 (by omega), fields_ok 5000 (by omega), rfields_ok, l1, l2, hsame l l3, svalid_ok, rsvalid_ok, Option.bind_some, bne_self_eq_false, beq_self_eq_true, Bool.not_true, cond_false]
        exact hnext t4 ht4
      | false =>
        rw [cond_false]
        cases ((i : Int) == 5) with
        | true =>
          rw [cond_true]
          simp only [of_ok 5000 (by omega), rof_ok 5000 (by omega), fields_ok 5000 (by omega), rfields_ok, l1, l2, hsame l l3, svalid_ok, rsvalid_ok, Option.bind_some, bne_self_eq_false, beq_self_eq_true, Bool.not_true, cond_false]
          exact hnext t2 ht2
        | false =>
          rw [cond_false]
          simp only [of_ok 5000 (by omega), rof_ok 5000 (by omega), fields_ok 5000 (by omega), rfields_ok, l1, l2, hsame l l3, svalid_ok, rsvalid_ok, Option.bind_some, bne_self_eq_false, beq_self_eq_true, Bool.not_true, cond_false]
          exact hnext t2 ht2

theorem checks_pure (t : List Int) (ht : t.length ≤ 9223372036854775807) (a b : Sh) : tilefarmlaw15_ShapeChecks 5000 t a b = some ((true, ()), ()) := by
  unfold tilefarmlaw15_ShapeChecks
  have htp : Tp (t, 0) := ⟨Int.le_refl _, Int.natCast_nonneg _, ht⟩
  rw [show tilefarmgen_New 5000 t = some (((t, 0), ()), ()) from rfl, Option.bind_some]
  refine (checks_loop a b _ _ 6 0 5000 (t, 0) rfl (by omega) (by omega) htp).trans ?_
  rw [ssane_ok]
  rfl

theorem of_free (s : Sg) (a : Int) (b : Bool) (x : Sh) : ofspec (s.1, a, s.2.2.1, b, s.2.2.2.2) x x = ofspec s x x := rfl

theorem of_bad {s : Sg} (h : fieldsB s = false) (x y : Sh) : ofspec s x y = ((0, 0, 0), 1) ∧ ¬ fieldsP s := by
  have hn : ¬ fieldsP s := fun g => by have := g.2.2; rw [h] at this; cases this
  unfold ofspec
  exact ⟨if_pos hn, hn⟩

theorem sfields_pure (t : List Int) (ht : t.length ≤ 9223372036854775807) (a : Int) : tilefarmlaw15_ShapeFields 5000 t a = some ((true, ()), ()) := by
  unfold tilefarmlaw15_ShapeFields
  have htp : Tp (t, 0) := ⟨Int.le_refl _, Int.natCast_nonneg _, ht⟩
  rw [show tilefarmgen_New 5000 t = some (((t, 0), ()), ()) from rfl, Option.bind_some]
  obtain ⟨x, t1, e1, x1, x2, ht1⟩ := small_ok 5000 htp
  obtain ⟨s, t2, e2, hs, ht2, _⟩ := stage_ok ht1 0 x1 x2 (-1)
  obtain ⟨u, t3, e3, u1, u2, ht3⟩ := next_ok 5000 ht2 (n := 5) (by omega) (by omega)
  simp only [e1, Option.bind_some]
  simp only [e2, Option.bind_some]
  simp only [e3, of_ok 5000 (by omega), fields_ok 5000 (by omega), Option.bind_some, of_free, sh_eq, bne_self_eq_false, Bool.not_true, cond_false]
  rw [w64_id (n := 1 + u) (by omega) (by omega)]
  by_cases h4 : s.1 = 4
  · rw [bne_ff h4, cond_false]
    obtain ⟨o1, o2⟩ := of_bad (s := (s.1, s.2.1, s.2.2.1, s.2.2.2.1, s.2.2.2.2.1, s.2.2.2.2.2.1, s.2.2.2.2.2.2.1, s.2.2.2.2.2.2.2.1, s.2.2.2.2.2.2.2.2.1, s.2.2.2.2.2.2.2.2.2.1, s.2.2.2.2.2.2.2.2.2.2.1, s.2.2.2.2.2.2.2.2.2.2.2.1, s.2.2.2.2.2.2.2.2.2.2.2.2.1, s.2.2.2.2.2.2.2.2.2.2.2.2.2.1, s.2.2.2.2.2.2.2.2.2.2.2.2.2.2.1, s.2.2.2.2.2.2.2.2.2.2.2.2.2.2.2.1, 1 + u)) (by
      unfold fieldsB
      simp only
      rw [h4, bne_lit (show ¬ (1 + u = 0) by omega)]
      simp) x x
    rw [o1, decide_eq_false o2]
    simp only [beq_self_eq_true, cond_true, Bool.not_false, ssane_ok, Option.bind_some]
  · rw [bne_tt h4, cond_true]
    obtain ⟨o1, o2⟩ := of_bad (s := (s.1, s.2.1, s.2.2.1, s.2.2.2.1, s.2.2.2.2.1, s.2.2.2.2.2.1, s.2.2.2.2.2.2.1, s.2.2.2.2.2.2.2.1, s.2.2.2.2.2.2.2.2.1, s.2.2.2.2.2.2.2.2.2.1, s.2.2.2.2.2.2.2.2.2.2.1, s.2.2.2.2.2.2.2.2.2.2.2.1, s.2.2.2.2.2.2.2.2.2.2.2.2.1, s.2.2.2.2.2.2.2.2.2.2.2.2.2.1, 1 + u, s.2.2.2.2.2.2.2.2.2.2.2.2.2.2.2)) (by
      unfold fieldsB
      simp only
      rw [bne_lit (show ¬ (1 + u = 0) by omega), bne_lit h4]
      simp) x x
    rw [o1, decide_eq_false o2]
    simp only [beq_self_eq_true, cond_true, Bool.not_false, ssane_ok, Option.bind_some]
end Go.Lf.T

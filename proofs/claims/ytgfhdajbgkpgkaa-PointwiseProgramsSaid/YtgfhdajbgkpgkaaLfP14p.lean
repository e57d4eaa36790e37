import Derived.Test.YtgfhdajbgkpgkaaLfP14s
/-! Lf: PointwisePrograms. -/
set_option linter.unusedVariables false
set_option maxRecDepth 100000
namespace Go.Lf.T
open Go Go.Lf

theorem programs_loop {R : Type} (l : List (Int × Int)) (two : Bool) (a b : Int) (e0 : Bool → Option R) (e1 : Unit → Option R) : ∀ (n i j : Nat) (t : List Int × Int), 6 - i = n → i ≤ 6 → n < j → Tp t →
    tilefarmlaw14_PointwisePrograms.loop0 40 j l two a b i t.1 t.2 e0 e1 = e1 () := by
  intro n
  induction n with
  | zero =>
    intro i j t hn hi hj ht
    obtain ⟨j, rfl⟩ : ∃ j', j = j' + 1 := ⟨j - 1, by omega⟩
    rw [tilefarmlaw14_PointwisePrograms.loop0_s, decide_eq_false (by omega)]
    rfl
  | succ n ih =>
    intro i j t hn hi hj ht
    obtain ⟨j, rfl⟩ : ∃ j', j = j' + 1 := ⟨j - 1, by omega⟩
    rw [tilefarmlaw14_PointwisePrograms.loop0_s, decide_eq_true (by omega), cond_true]
    obtain ⟨p, t1, e1', ht1⟩ := program_ok 40 (by omega) (t := (t.1, t.2)) ht
    obtain ⟨m, t2, e2, _, ht2⟩ := pick_ok 40 ht1 (l := [255, 65535, 4294967296, 0]) (by simp) (by simp)
    obtain ⟨q, t3, e3, _, ht3⟩ := pick_ok 40 ht2 (l := [255, 1, 4294967297]) (by simp) (by simp)
    obtain ⟨u, t4, e4, _, _, ht4⟩ := next_ok 40 ht3 (n := 300) (by omega) (by omega)
    obtain ⟨v, t5, e5, _, _, ht5⟩ := next_ok 40 ht4 (n := 300) (by omega) (by omega)
    simp only [e1', Option.bind_some]
    simp only [e2, Option.bind_some]
    simp only [e3, Option.bind_some]
    simp only [e4, Option.bind_some]
    simp only [e5, Option.bind_some, interval_ok 40 _ _ _ (by omega), rinterval_ok 40 _ _ _ (by omega), eval_ok 40 _ _ _ (by omega), reval_ok 40 _ _ _ (by omega), valid_ok 40 _ _ (by omega), rvalid_ok 40 _ _ (by omega)]
    simp only [bne_self_eq_false, cond_false]
    rw [w64_succ i (by omega)]
    have := ih (i + 1) j t5 (by omega) (by omega) (by omega) ht5
    cases ((i : Int) == 5) <;> exact this

theorem programs_pure (t : List Int) (ht : t.length ≤ 9223372036854775807) (l : List (Int × Int)) (two : Bool) (a b : Int) : tilefarmlaw14_PointwisePrograms 40 t l two a b = some ((true, ()), ()) := by
  unfold tilefarmlaw14_PointwisePrograms
  have htp : Tp (t, 0) := ⟨Int.le_refl _, Int.natCast_nonneg _, ht⟩
  rw [show tilefarmgen_New 40 t = some (((t, 0), ()), ()) from rfl, Option.bind_some]
  refine (programs_loop l two a b _ _ 6 0 40 (t, 0) rfl (by omega) (by omega) htp).trans ?_
  rw [sane_ok]
  rfl
end Go.Lf.T

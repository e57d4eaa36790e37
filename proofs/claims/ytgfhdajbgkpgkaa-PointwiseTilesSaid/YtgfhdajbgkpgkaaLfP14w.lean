import Derived.Test.YtgfhdajbgkpgkaaLfP14f
/-! Lf: PointwiseWithin: intervals hold the values. -/
set_option linter.unusedVariables false
set_option maxRecDepth 100000
namespace Go.Lf.T
open Go Go.Lf

theorem tms_of {u v : Int} (h : ab (u * v) ≤ 17592186044416) : tms u v = u * v := by
  unfold tms
  rw [if_neg]
  rintro ⟨h0, h1⟩
  have hp : 0 < ab u := by have := ab_nonneg u; have := mt ab_zero.1 h0; omega
  rw [ab_mul] at h
  have := (Int.le_ediv_iff_mul_le hp (a := ab v) (b := 17592186044416)).2 (by rw [Int.mul_comm]; exact h)
  omega

theorem tms_small {u v : Int} (h : tms u v ≤ 17592186044416) : tms u v = u * v := by
  unfold tms at h ⊢
  split
  · rename_i hc; rw [if_pos hc] at h; omega
  · rfl

theorem line_le {t y1 y2 v H : Int} (h1 : y1 ≤ v) (h2 : v ≤ y2) (k1 : t * y1 ≤ H) (k2 : t * y2 ≤ H) : t * v ≤ H := by
  by_cases ht : 0 ≤ t
  · exact Int.le_trans (Int.mul_le_mul_of_nonneg_left h2 ht) k2
  · exact Int.le_trans (Int.mul_le_mul_of_nonpos_left (by omega) h1) k1

theorem line_ge {t y1 y2 v L : Int} (h1 : y1 ≤ v) (h2 : v ≤ y2) (k1 : L ≤ t * y1) (k2 : L ≤ t * y2) : L ≤ t * v := by
  by_cases ht : 0 ≤ t
  · exact Int.le_trans k1 (Int.mul_le_mul_of_nonneg_left h1 ht)
  · exact Int.le_trans k2 (Int.mul_le_mul_of_nonpos_left (by omega) h2)

theorem shf_mono {x y s : Int} (h : x ≤ y) : shf x s ≤ shf y s := by
  unfold shf
  split
  · exact h
  · have hp : (0 : Int) < 2 ^ s.toNat := Int.pow_pos (by omega)
    rw [Int.fdiv_eq_ediv_of_nonneg _ (by omega), Int.fdiv_eq_ediv_of_nonneg _ (by omega)]
    exact Int.ediv_le_ediv hp (by omega)

theorem mm_t_ge (x y : Int) : x ≤ mm true x y ∧ y ≤ mm true x y := by rw [mm_true]; split <;> omega
theorem mm_f_le (x y : Int) : mm false x y ≤ x ∧ mm false x y ≤ y := by rw [mm_false]; split <;> omega
theorem mm_t_le {x y H : Int} (h1 : x ≤ H) (h2 : y ≤ H) : mm true x y ≤ H := by rw [mm_true]; split <;> omega
theorem mm_f_ge {x y L : Int} (h1 : L ≤ x) (h2 : L ≤ y) : L ≤ mm false x y := by rw [mm_false]; split <;> omega

theorem ab_range {x1 x2 u : Int} (h1 : x1 ≤ u) (h2 : u ≤ x2) : ab u ≤ mm true (ab x1) (ab x2) := by
  have := mm_t_ge (ab x1) (ab x2)
  have a1 : -x1 ≤ ab x1 := by unfold ab; split <;> omega
  have a2 : x2 ≤ ab x2 := by unfold ab; split <;> omega
  exact ab_le.2 (by omega)

/-- One operation keeps within. -/
theorem step_in {a a' b b' : Int} {o : Int × Int} {x y : Int × Int} {u v : Int} (ha : 0 ≤ a' ∧ a' ≤ a) (hb : 0 ≤ b' ∧ b' ≤ b) (hx : x.1 ≤ u ∧ u ≤ x.2) (hy : y.1 ≤ v ∧ v ≤ y.2) (hP : inP (istep a b o x y)) :
    (istep a b o x y).1 ≤ estep a' b' o u v ∧ estep a' b' o u v ≤ (istep a b o x y).2 := by
  unfold istep at hP ⊢
  unfold estep
  by_cases h0 : o.1 = 0
  · simp only [if_pos h0]; exact ha
  simp only [if_neg h0] at hP ⊢
  by_cases h1 : o.1 = 1
  · simp only [if_pos h1]; exact hb
  simp only [if_neg h1] at hP ⊢
  by_cases h2 : o.1 = 2
  · simp only [if_pos h2]; exact ⟨Int.le_refl _, Int.le_refl _⟩
  simp only [if_neg h2] at hP ⊢
  by_cases h10 : o.1 = 10
  · simp only [if_pos h10]; exact ⟨shf_mono hx.1, shf_mono hx.2⟩
  simp only [if_neg h10] at hP ⊢
  by_cases h11 : o.1 = 11
  · simp only [if_pos h11]; exact ⟨ab_nonneg u, ab_range hx.1 hx.2⟩
  simp only [if_neg h11] at hP ⊢
  unfold comb at hP ⊢
  unfold res
  by_cases h3 : o.1 = 3
  · simp only [if_pos h3]; omega
  simp only [if_neg h3] at hP ⊢
  by_cases h4 : o.1 = 4
  · simp only [if_pos h4]; omega
  simp only [if_neg h4] at hP ⊢
  by_cases h5 : o.1 = 5
  · simp only [if_pos h5] at hP ⊢
    obtain ⟨p1, p2⟩ := hP
    unfold inM at p1 p2
    simp only at p1 p2
    have t1 := mm_t_ge (tms x.1 y.1) (tms x.1 y.2)
    have t2 := mm_t_ge (mm true (tms x.1 y.1) (tms x.1 y.2)) (tms x.2 y.1)
    have t3 := mm_t_ge (mm true (mm true (tms x.1 y.1) (tms x.1 y.2)) (tms x.2 y.1)) (tms x.2 y.2)
    have s1 := mm_f_le (tms x.1 y.1) (tms x.1 y.2)
    have s2 := mm_f_le (mm false (tms x.1 y.1) (tms x.1 y.2)) (tms x.2 y.1)
    have s3 := mm_f_le (mm false (mm false (tms x.1 y.1) (tms x.1 y.2)) (tms x.2 y.1)) (tms x.2 y.2)
    generalize mm true (mm true (mm true (tms x.1 y.1) (tms x.1 y.2)) (tms x.2 y.1)) (tms x.2 y.2) = H at *
    generalize mm false (mm false (mm false (tms x.1 y.1) (tms x.1 y.2)) (tms x.2 y.1)) (tms x.2 y.2) = L at *
    have e1 := tms_small (u := x.1) (v := y.1) (by omega)
    have e2 := tms_small (u := x.1) (v := y.2) (by omega)
    have e3 := tms_small (u := x.2) (v := y.1) (by omega)
    have e4 := tms_small (u := x.2) (v := y.2) (by omega)
    rw [e1, e2] at t1 s1
    rw [e3] at t2 s2
    rw [e4] at t3 s3
    rw [e1, e2] at t2 s2 t3 s3
    rw [e3] at t3 s3
    have q1 : x.1 * v ≤ H := line_le hy.1 hy.2 (by omega) (by omega)
    have q2 : x.2 * v ≤ H := line_le hy.1 hy.2 (by omega) (by omega)
    have q3 : L ≤ x.1 * v := line_ge hy.1 hy.2 (by omega) (by omega)
    have q4 : L ≤ x.2 * v := line_ge hy.1 hy.2 (by omega) (by omega)
    rw [Int.mul_comm] at q1 q2 q3 q4
    have r1 : v * u ≤ H := line_le hx.1 hx.2 q1 q2
    have r2 : L ≤ v * u := line_ge hx.1 hx.2 q3 q4
    rw [Int.mul_comm] at r1 r2
    rw [tms_of (u := u) (v := v) (ab_le.2 (by omega))]
    exact ⟨r2, r1⟩
  simp only [if_neg h5] at hP ⊢
  by_cases h6 : o.1 = 6
  · simp only [if_pos h6]
    rw [mm_false, mm_false, mm_false]
    refine ⟨?_, ?_⟩
    · split <;> split <;> omega
    · split <;> split <;> omega
  simp only [if_neg h6] at hP ⊢
  by_cases h7 : o.1 = 7
  · simp only [if_pos h7]
    rw [mm_true, mm_true, mm_true]
    refine ⟨?_, ?_⟩
    · split <;> split <;> omega
    · split <;> split <;> omega
  simp only [if_neg h7] at hP ⊢
  by_cases h8 : o.1 = 8
  · simp only [if_pos h8]
    have := mm_t_ge (x.2 - y.1) (y.2 - x.1)
    refine ⟨ab_nonneg _, ab_le.2 (by omega)⟩
  simp only [if_neg h8]
  have h1 := ab_range hx.1 hx.2
  have h2 := dvd_ab (x := u) (y := v)
  have := ab_le.1 (Int.le_trans h2 h1)
  omega

def Rel (ist : List (Int × Int)) (st : List Int) : Prop := ist.length = st.length ∧ ∀ p, (ist.getD p (0, 0)).1 ≤ st.getD p 0 ∧ st.getD p 0 ≤ (ist.getD p (0, 0)).2

theorem getD_snoc {α : Type} (l : List α) (x d : α) (n p : Nat) (hn : n ≤ l.length) : (l.take n ++ [x]).getD p d = if p < n then l.getD p d else if p = n then x else d := by
  have hlen : (l.take n).length = n := by rw [List.length_take]; omega
  rw [List.getD_eq_getElem?_getD, List.getD_eq_getElem?_getD]
  by_cases h1 : p < n
  · rw [if_pos h1, List.getElem?_append_left (by omega), List.getElem?_take, if_pos h1]
  · rw [if_neg h1, List.getElem?_append_right (by omega), hlen]
    by_cases h2 : p = n
    · rw [if_pos h2, h2, Nat.sub_self]; rfl
    · rw [if_neg h2]
      obtain ⟨q, hq⟩ : ∃ q, p - n = q + 1 := ⟨p - n - 1, by omega⟩
      rw [hq]; rfl

theorem runs_in {a a' b b' : Int} (ha : 0 ≤ a' ∧ a' ≤ a) (hb : 0 ≤ b' ∧ b' ≤ b) : ∀ (l : List (Int × Int)) (ist : List (Int × Int)) (st : List Int) (lo hi : Int), Rel ist st → hOk l st.length →
    irun (R := Int × Int × Int) a b (some (0, 0, 11)) (fun st => some ((st.getD 0 (0, 0)).1, (st.getD 0 (0, 0)).2, 0)) l ist = some (lo, hi, 0) →
    ∃ v, erun (R := Int × Int) a' b' (some (0, 11)) (fun st => some (st.getD 0 0, 0)) l st = some (v, 0) ∧ lo ≤ v ∧ v ≤ hi
  | [], ist, st, lo, hi, hr, hok, h => by
    have h' : some ((ist.getD 0 (0, 0)).1, (ist.getD 0 (0, 0)).2, (0 : Int)) = some (lo, hi, 0) := h
    injection h' with h'; injection h' with e1 h'; injection h' with e2 _
    exact ⟨st.getD 0 0, rfl, by rw [← e1]; exact (hr.2 0).1, by rw [← e2]; exact (hr.2 0).2⟩
  | o :: l, ist, st, lo, hi, hr, hok, h => by
    obtain ⟨c1, c2, htk, harg, hrest⟩ := hok
    unfold irun at h
    split at h
    · rename_i hP
      have hin := step_in (a := a) (a' := a') (b := b) (b' := b') (o := o) ha hb (hr.2 (st.length - tk o.1)) (hr.2 (st.length - tk o.1 + 1)) (by unfold ione at hP; rw [hr.1] at hP; exact hP)
      have e1 : ione a b o ist = istep a b o (ist.getD (st.length - tk o.1) (0, 0)) (ist.getD (st.length - tk o.1 + 1) (0, 0)) := by unfold ione; rw [hr.1]
      have hM : inM (eone a' b' o st) := by
        rw [e1] at hP
        obtain ⟨p1, p2⟩ := hP
        unfold inM at p1 p2 ⊢
        unfold eone
        omega
      have hlen1 : ((st.take (st.length - tk o.1)) ++ [eone a' b' o st]).length = st.length - tk o.1 + 1 := by rw [List.length_append, List.length_take]; simp
      have hlen2 : ((ist.take (ist.length - tk o.1)) ++ [ione a b o ist]).length = st.length - tk o.1 + 1 := by rw [List.length_append, List.length_take, hr.1]; simp
      obtain ⟨v, h1, h2⟩ := runs_in ha hb l _ ((st.take (st.length - tk o.1)) ++ [eone a' b' o st]) lo hi ⟨by rw [hlen1, hlen2], fun p => by
          rw [getD_snoc _ _ _ _ _ (by rw [hr.1]; omega), getD_snoc _ _ _ _ _ (by omega), hr.1]
          by_cases q1 : p < st.length - tk o.1
          · rw [if_pos q1, if_pos q1]; exact hr.2 p
          · rw [if_neg q1, if_neg q1]
            by_cases q2 : p = st.length - tk o.1
            · rw [if_pos q2, if_pos q2, e1]; exact hin
            · rw [if_neg q2, if_neg q2]; exact ⟨Int.le_refl _, Int.le_refl _⟩⟩ (by rw [hlen1, show st.length - tk o.1 + 1 = st.length + 1 - tk o.1 by omega]; exact hrest) h
      refine ⟨v, ?_, h2⟩
      unfold erun
      rw [if_pos hM]
      exact h1
    · injection h with h; injection h with _ h; injection h with _ h; cases h

theorem irun_code (a b : Int) : ∀ (l : List (Int × Int)) (st : List (Int × Int)) (c : Int × Int × Int), irun (R := Int × Int × Int) a b (some (0, 0, 11)) (fun st => some ((st.getD 0 (0, 0)).1, (st.getD 0 (0, 0)).2, 0)) l st = some c → c.2.2 = 0 ∨ c = (0, 0, 11)
  | [], st, c, h => by
    have h' : some ((st.getD 0 (0, 0)).1, (st.getD 0 (0, 0)).2, (0 : Int)) = some c := h
    injection h' with h'; subst h'; exact .inl rfl
  | o :: l, st, c, h => by
    unfold irun at h
    split at h
    · exact irun_code a b l _ c h
    · injection h with h; exact .inr h.symm

/-- Values are within the interval, or there is none. -/
theorem within {l : List (Int × Int)} {a a' b b' : Int} (ha : 0 ≤ a' ∧ a' ≤ a) (hb : 0 ≤ b' ∧ b' ≤ b) :
    ((iv l a b).2.2 = 0 ∧ (ev l a' b').2 = 0 ∧ (iv l a b).1 ≤ (ev l a' b').1 ∧ (ev l a' b').1 ≤ (iv l a b).2.1) ∨ ((iv l a b).2.2 ≠ 0 ∧ (iv l a b).1 = 0 ∧ (iv l a b).2.1 = 0) := by
  unfold iv ev
  by_cases hv : vcode l true = 0
  · have hv' : ¬ vcode l true ≠ 0 := fun h => h hv
    rw [if_neg hv', if_neg hv']
    by_cases hr : 1 ≤ a ∧ a ≤ 4294967296 ∧ 1 ≤ b ∧ b ≤ 4294967296
    · rw [if_pos hr, if_pos (by omega)]
      obtain ⟨h1, h2, h3⟩ := vcode_hOk hv
      obtain ⟨c, hc⟩ := irun_some a b l []
      unfold irv rv
      rw [hc]
      rcases irun_code a b l [] c hc with h0 | h0
      · obtain ⟨lo, hi, z⟩ := c
        have : z = 0 := h0
        subst this
        obtain ⟨v, e1, e2, e3⟩ := runs_in ha hb l [] [] lo hi ⟨rfl, fun p => ⟨Int.le_refl _, Int.le_refl _⟩⟩ h3 hc
        rw [e1]
        exact .inl ⟨rfl, rfl, e2, e3⟩
      · subst h0
        exact .inr ⟨by show (11 : Int) ≠ 0; omega, rfl, rfl⟩
    · rw [if_neg hr]
      exact .inr ⟨by show (2 : Int) ≠ 0; omega, rfl, rfl⟩
  · have hv' : vcode l true ≠ 0 := hv
    rw [if_pos hv']
    exact .inr ⟨hv, rfl, rfl⟩

theorem program_ok (k : Nat) (hk : 5 ≤ k) {t : List Int × Int} (ht : Tp t) : ∃ (l : List (Int × Int)) (t' : List Int × Int), tilefarmlaw14_program k t = some ((l, ()), (t', ())) ∧ Tp t' := by
  unfold tilefarmlaw14_program
  obtain ⟨v, t1, e1, v1, v2, ht1⟩ := next_ok k ht (n := 2) (by omega) (by omega)
  rw [e1, Option.bind_some]
  have hops : ∃ (l : List (Int × Int)) (t' : List Int × Int), tilefarmgen_Tape_Ops k t1 (v == 0) = some ((l, ()), (t', ())) ∧ l.length ≤ 20 ∧ Tp t' := by
    cases v == 0 with
    | true =>
      obtain ⟨op, cs, t', h1, _, _, h2, h3, h4⟩ := opsTrue k hk ht1
      have := flatten_length cs h3
      exact ⟨_, t', h1, by rw [List.length_append]; show 3 + _ ≤ 20; omega, h4⟩
    | false =>
      obtain ⟨cs, t', h1, h2, h3, h4⟩ := opsFalse k hk ht1
      have := flatten_length cs h3
      exact ⟨_, t', h1, by rw [List.length_append]; show 1 + _ ≤ 20; omega, h4⟩
  obtain ⟨l, t2, e2, hl, ht2⟩ := hops
  simp only [e2, Option.bind_some]
  obtain ⟨w, t3, e3, w1, w2, ht3⟩ := next_ok k ht2 (n := 5) (by omega) (by omega)
  simp only [e3, Option.bind_some]
  by_cases h3 : w = 3
  · have e : (w == 3) = true := by simpa using h3
    rw [e, cond_true]
    obtain ⟨c, t4, e4, c1, c2, ht4⟩ := next_ok k ht3 (n := 14) (by omega) (by omega)
    obtain ⟨d, t5, e5, d1, ht5⟩ := pick_ok k ht4 (l := [0, 1, 25, 4294967297]) (by simp) (by simp)
    simp only [e4, Option.bind_some, e5]
    rw [if_pos (by rw [List.length_append]; show (l.length + 1) * 16 ≤ _; omega)]
    exact ⟨_, t5, rfl, ht5⟩
  · have e : (w == 3) = false := by simpa using h3
    rw [e, cond_false]
    by_cases h4 : w = 4
    · have e : (w == 4) = true := by simpa using h4
      rw [e, cond_true]
      obtain ⟨d, t5, e5, d1, ht5⟩ := pick_ok k ht3 (l := [4294967296, (-4294967296), 1048576]) (by simp) (by simp)
      simp only [Option.bind_some, e5]
      rw [if_pos (by rw [List.length_append]; show (l.length + 2) * 16 ≤ _; omega)]
      exact ⟨_, t5, rfl, ht5⟩
    · have e : (w == 4) = false := by simpa using h4
      rw [e, cond_false]
      exact ⟨l, t3, rfl, ht3⟩

theorem within_pure (l : List Int) (hl : l.length ≤ 9223372036854775807) (a b : Int) : tilefarmlaw14_PointwiseWithin 40 l a b = some ((true, ()), ()) := by
  unfold tilefarmlaw14_PointwiseWithin
  have ht : Tp (l, 0) := ⟨Int.le_refl _, Int.natCast_nonneg _, hl⟩
  rw [show tilefarmgen_New 40 l = some (((l, 0), ()), ()) from rfl, Option.bind_some]
  obtain ⟨p, t1, e1, ht1⟩ := program_ok 40 (by omega) ht
  obtain ⟨m, t2, e2, m1, m2, ht2⟩ := next_ok 40 ht1 (n := 70000) (by omega) (by omega)
  obtain ⟨n, t3, e3, n1, n2, ht3⟩ := next_ok 40 ht2 (n := 300) (by omega) (by omega)
  obtain ⟨u, e4, u1, u2⟩ := mod_ok 40 a (1 + m + 1) (by omega) (by omega)
  obtain ⟨v, e5, v1, v2⟩ := mod_ok 40 b (1 + n + 1) (by omega) (by omega)
  simp only [e1, Option.bind_some]
  simp only [e2, Option.bind_some]
  simp only [e3, Option.bind_some, w64_id (n := 1 + m) (by omega) (by omega), w64_id (n := 1 + n) (by omega) (by omega), w64_id (n := 1 + m + 1) (by omega) (by omega), w64_id (n := 1 + n + 1) (by omega) (by omega), e4, e5, interval_ok 40 p _ _ (by omega), eval_ok 40 p _ _ (by omega)]
  rw [sane_ok]
  rcases within (l := p) (a := 1 + m) (a' := u) (b := 1 + n) (b' := v) (by omega) (by omega) with ⟨h1, h2, h3, h4⟩ | ⟨h1, h2, h3⟩
  · rw [h1, h2, decide_eq_true h3, decide_eq_true h4]
    rfl
  · have e : ((iv p (1 + m) (1 + n)).2.2 != 0) = true := by simpa using h1
    have e' : ((iv p (1 + m) (1 + n)).2.2 == 0) = false := by simpa using h1
    rw [e, e', h2, h3]
    rfl
end Go.Lf.T

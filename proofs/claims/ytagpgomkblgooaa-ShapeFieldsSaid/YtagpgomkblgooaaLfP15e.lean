import Derived.Test.YtagpgomkblgooaaLfP15d
/-! Lf: made stages. -/
set_option linter.unusedVariables false
set_option maxRecDepth 100000
namespace Go.Lf.T
open Go Go.Lf

abbrev Ta := List Int × Int

theorem weights_loop {R : Type} (k : Nat) (m : Int) (hm : m ≤ 100) (e0 : List Int → Int → List Int → Option R) : ∀ (n i j : Nat) (t : Ta) (l : List Int), (m - i).toNat = n → l.length = i → n < j → i ≤ 100 → Tp t →
    ∃ t' l', tilefarmgen_Tape_Weights.loop0 k j m i t.1 t.2 l e0 = e0 t'.1 t'.2 l' ∧ l'.length ≤ 100 ∧ Tp t' := by
  intro n
  induction n with
  | zero =>
    intro i j t l hn hl hj hi ht
    obtain ⟨j, rfl⟩ : ∃ j', j = j' + 1 := ⟨j - 1, by omega⟩
    rw [tilefarmgen_Tape_Weights.loop0_s, decide_eq_false (by omega), cond_false]
    exact ⟨t, l, rfl, by omega, ht⟩
  | succ n ih =>
    intro i j t l hn hl hj hi ht
    obtain ⟨j, rfl⟩ : ∃ j', j = j' + 1 := ⟨j - 1, by omega⟩
    rw [tilefarmgen_Tape_Weights.loop0_s, decide_eq_true (by omega), cond_true]
    obtain ⟨a, t1, e1, _, _, ht1⟩ := next_ok k (t := (t.1, t.2)) ht (n := 41) (by omega) (by omega)
    obtain ⟨b, t2, e2, _, ht2⟩ := pick_ok k ht1 (l := [1, 2, (-1), 0, w64 (a - 20), 5]) (by simp) (by simp)
    simp only [e1, Option.bind_some]
    simp only [e2, Option.bind_some]
    rw [if_pos (by rw [List.length_append]; show (_ + 1) * 8 ≤ _; omega), w64_succ i (by omega)]
    exact ih (i + 1) j t2 (l ++ [b]) (by omega) (by rw [List.length_append]; show _ + 1 = _; omega) (by omega) (by omega) ht2

theorem weights_ok (k : Nat) (hk : 102 ≤ k) {t : Ta} (ht : Tp t) {m : Int} (hm : m ≤ 100) : ∃ l t', tilefarmgen_Tape_Weights k t m = some ((l, ()), (t', ())) ∧ l.length ≤ 100 ∧ Tp t' := by
  unfold tilefarmgen_Tape_Weights
  obtain ⟨t', l', h1, h2, h3⟩ := weights_loop (R := ((List Int × Unit) × ((List Int × Int) × Unit))) k m hm (fun z3 z4 z5 => (some ((z5, ()), ((z3, z4), ())))) (m - 0).toNat 0 k t [] rfl rfl (by omega) (by omega) ht
  exact ⟨l', t', h1, h2, h3⟩

theorem edgem_ok (k : Nat) {t : Ta} (ht : Tp t) (m : Int) : ∃ e t', tilefarmgen_Tape_Edge k t m = some ((e, ()), (t', ())) ∧ Tp t' := by
  unfold tilefarmgen_Tape_Edge
  obtain ⟨a, t1, e1, _, _, ht1⟩ := next_ok k ht (n := 4) (by omega) (by omega)
  simp only [e1, Option.bind_some]
  cases a == 3 with
  | true =>
    obtain ⟨b, t2, e2, _, ht2⟩ := pick_ok k ht1 (l := [0, m, w64 (m.tdiv 2)]) (by simp) (by simp)
    simp only [e2, Option.bind_some, cond_true]
    exact ⟨_, t2, rfl, ht2⟩
  | false => exact ⟨_, t1, rfl, ht1⟩

/-! Tables for short sources: each one is looked at. -/
def tabB (o : Option (((List (Int × List Int)) × Int × Unit) × Unit)) : Bool := match o with
  | some ((l, _, _), _) => Nat.ble l.length 10
  | none => false
theorem tabB_ok {o : Option (((List (Int × List Int)) × Int × Unit) × Unit)} (h : tabB o = true) : ∃ l c, o = some ((l, c, ()), ()) ∧ l.length ≤ 10 := by
  unfold tabB at h
  split at h
  · rename_i l c _ _; exact ⟨l, c, rfl, Nat.le_of_ble_eq_true h⟩
  · cases h
def all2 (f : Int → Int → Bool) : Bool := (List.range 10).all fun i => (List.range 6).all fun j => f ((i : Int) + 1) ((j : Int) + 1)
theorem all2_ok {f : Int → Int → Bool} (h : all2 f = true) {n m : Int} (hn : 1 ≤ n ∧ n ≤ 10) (hm : 1 ≤ m ∧ m ≤ 6) : f n m = true := by
  unfold all2 at h
  rw [List.all_eq_true] at h
  have h1 := h (n - 1).toNat (List.mem_range.2 (by omega))
  rw [List.all_eq_true] at h1
  have h2 := h1 (m - 1).toNat (List.mem_range.2 (by omega))
  rw [show (((n - 1).toNat : Nat) : Int) + 1 = n by omega, show (((m - 1).toNat : Nat) : Int) + 1 = m by omega] at h2
  exact h2

theorem linear_all : all2 (fun n m => tabB (tilefarmref8_Linear 5000 n m 8)) = true := by kernel_rfl
theorem box_all : all2 (fun n m => tabB (tilefarmref8_Box 5000 n m 8)) = true := by kernel_rfl
theorem linear_ok {n m : Int} (hn : 1 ≤ n ∧ n ≤ 10) (hm : 1 ≤ m ∧ m ≤ 6) : ∃ l c, tilefarmref8_Linear 5000 n m 8 = some ((l, c, ()), ()) ∧ l.length ≤ 10 := tabB_ok (all2_ok linear_all hn hm)
theorem box_ok {n m : Int} (hn : 1 ≤ n ∧ n ≤ 10) (hm : 1 ≤ m ∧ m ≤ 6) : ∃ l c, tilefarmref8_Box 5000 n m 8 = some ((l, c, ()), ()) ∧ l.length ≤ 10 := tabB_ok (all2_ok box_all hn hm)

theorem table_loop {R : Type} (k : Nat) (hk : 102 ≤ k) (n' : Int) (hn' : 1 ≤ n' ∧ n' ≤ 10) (e0 : List Int → Int → List (Int × List Int) → Option R) : ∀ (n i j : Nat) (t : Ta) (l : List (Int × List Int)), l.length - i = n → i ≤ l.length → n < j → l.length ≤ 10 → Tp t →
    ∃ t' l', tilefarmgen_Tape_Table.loop0 k j n' i t.1 t.2 l e0 = e0 t'.1 t'.2 l' ∧ l'.length ≤ 10 ∧ Tp t' := by
  intro n
  induction n with
  | zero =>
    intro i j t l hn hi hj hl ht
    obtain ⟨j, rfl⟩ : ∃ j', j = j' + 1 := ⟨j - 1, by omega⟩
    rw [tilefarmgen_Tape_Table.loop0_s, decide_eq_false (by omega), cond_false]
    exact ⟨t, l, rfl, hl, ht⟩
  | succ n ih =>
    intro i j t l hn hi hj hl ht
    obtain ⟨j, rfl⟩ : ∃ j', j = j' + 1 := ⟨j - 1, by omega⟩
    rw [tilefarmgen_Tape_Table.loop0_s, decide_eq_true (by omega), cond_true]
    obtain ⟨a, t1, e1, _, _, ht1⟩ := next_ok k (t := (t.1, t.2)) ht (n := 4) (by omega) (by omega)
    simp only [e1, Option.bind_some]
    rw [w64_succ i (by omega), w64_id (n := n' + 6) (by omega) (by omega)]
    cases a == 0 with
    | false => exact ih (i + 1) j t1 l (by omega) (by omega) (by omega) hl ht1
    | true =>
      rw [cond_true]
      obtain ⟨b, t2, e2, _, _, ht2⟩ := next_ok k ht1 (n := n' + 6) (by omega) (by omega)
      obtain ⟨c, t3, e3, c1, c2, ht3⟩ := next_ok k ht2 (n := 4) (by omega) (by omega)
      obtain ⟨w, t4, e4, _, ht4⟩ := weights_ok k hk ht3 (m := 1 + c) (by omega)
      simp only [e2, Option.bind_some]
      simp only [e3, Option.bind_some]
      rw [w64_id (n := 1 + c) (by omega) (by omega)]
      simp only [e4, Option.bind_some]
      rw [if_pos (by omega), Int.toNat_natCast, List.getElem?_eq_getElem (by omega), Option.bind_some]
      exact ih (i + 1) j t4 (l.set i (w64 (b - 4), w)) (by rw [List.length_set]; omega) (by rw [List.length_set]; omega) (by omega) (by rw [List.length_set]; exact hl) ht4

theorem table_ok {t : Ta} (ht : Tp t) {n : Int} (hn : 1 ≤ n ∧ n ≤ 10) : ∃ l t', tilefarmgen_Tape_Table 5000 t n = some ((l, ()), (t', ())) ∧ l.length ≤ 10 ∧ Tp t' := by
  unfold tilefarmgen_Tape_Table
  obtain ⟨a, t1, e1, a1, a2, ht1⟩ := next_ok 5000 ht (n := 6) (by omega) (by omega)
  obtain ⟨l, c, e2, hl⟩ := linear_ok (n := n) (m := 1 + a) hn (by omega)
  obtain ⟨b, t3, e3, _, _, ht3⟩ := next_ok 5000 ht1 (n := 2) (by omega) (by omega)
  simp only [e1, Option.bind_some]
  rw [w64_id (n := 1 + a) (by omega) (by omega)]
  simp only [e2, Option.bind_some]
  simp only [e3, Option.bind_some]
  cases b == 0 with
  | true =>
    rw [cond_true]
    obtain ⟨l2, c2, e4, hl2⟩ := box_ok (n := n) (m := 1 + a) hn (by omega)
    simp only [e4, Option.bind_some]
    cases c2 == 0 with
    | true => exact ⟨l2, t3, rfl, hl2, ht3⟩
    | false => exact ⟨l, t3, rfl, hl, ht3⟩
  | false =>
    rw [cond_false]
    obtain ⟨t', l', h1, h2, h3⟩ := table_loop (R := ((List (Int × List Int) × Unit) × ((List Int × Int) × Unit))) 5000 (by omega) n hn (fun z10 z11 z12 => (some ((z12, ()), ((z10, z11), ())))) l.length 0 5000 t3 l rfl (by omega) (by omega) hl ht3
    exact ⟨l', t', h1, h2, h3⟩

/-- The lists of a stage are not long. -/
def Sz (s : Sg) : Prop := s.2.2.2.2.2.2.2.1.length ≤ 100 ∧ s.2.2.2.2.2.2.2.2.1.length ≤ 100 ∧ s.2.2.2.2.2.2.2.2.2.1.length ≤ 100 ∧ s.x.length ≤ 100 ∧ s.y.length ≤ 100 ∧ s.ops.length ≤ 100

theorem ops_len (k : Nat) (hk : 5 ≤ k) {t : Ta} (ht : Tp t) (b : Bool) : ∃ l t', tilefarmgen_Tape_Ops k t b = some ((l, ()), (t', ())) ∧ l.length ≤ 20 ∧ Tp t' := by
  cases b with
  | true =>
    obtain ⟨op, cs, t', h1, _, _, h2, h3, h4⟩ := opsTrue k hk ht
    have := flatten_length cs h3
    exact ⟨_, t', h1, by rw [List.length_append]; show 3 + _ ≤ 20; omega, h4⟩
  | false =>
    obtain ⟨cs, t', h1, h2, h3, h4⟩ := opsFalse k hk ht
    have := flatten_length cs h3
    exact ⟨_, t', h1, by rw [List.length_append]; show 1 + _ ≤ 20; omega, h4⟩

theorem stage_ok {t : Ta} (ht : Tp t) (a : Int) {sh : Sh} (hw : 1 ≤ sh.1 ∧ sh.1 ≤ 10) (hh : 1 ≤ sh.2.1 ∧ sh.2.1 ≤ 10) (b : Int) : ∃ s t', tilefarmgen_Tape_Stage 5000 t a sh b = some ((s, ()), (t', ())) ∧ Sz s ∧ Tp t' ∧ 1 ≤ s.1 ∧ s.1 ≤ 6 := by
  unfold tilefarmgen_Tape_Stage
  obtain ⟨kd, t1, e1, k1, k2, ht1⟩ := next_ok 5000 ht (n := 6) (by omega) (by omega)
  obtain ⟨br, t2, e2, _, _, ht2⟩ := next_ok 5000 ht1 (n := 4) (by omega) (by omega)
  obtain ⟨mx, t3, e3, _, ht3⟩ := pick_ok 5000 ht2 (l := [255, 65535, 15]) (by simp) (by simp)
  simp only [e1, Option.bind_some]
  simp only [e2, Option.bind_some]
  simp only [e3, Option.bind_some]
  rw [w64_id (n := 1 + kd) (by omega) (by omega)]
  have hkd : 1 ≤ 1 + kd ∧ 1 + kd ≤ 6 := by omega
  have z : ([] : List Int).length ≤ 100 := Nat.zero_le _
  have zt : ([] : List (Int × List Int)).length ≤ 100 := Nat.zero_le _
  have zo : ([] : List (Int × Int)).length ≤ 100 := Nat.zero_le _
  cases 1 + kd == 1 with
  | true =>
    rw [cond_true]
    obtain ⟨kw, t4, e4, hkw, ht4⟩ := pick_ok 5000 ht3 (l := [1, 3, 2, 5]) (by simp) (by simp)
    obtain ⟨kh, t5, e5, hkh, ht5⟩ := pick_ok 5000 ht4 (l := [1, 3, 2]) (by simp) (by simp)
    obtain ⟨sf, t6, e6, _, _, ht6⟩ := next_ok 5000 ht5 (n := 4) (by omega) (by omega)
    obtain ⟨ed, t7, e7, ht7⟩ := edgem_ok 5000 ht6 sh.2.2
    have hm : 0 ≤ kw * kh ∧ kw * kh ≤ 5 * 3 := by simp at hkw hkh; exact mul_le_of (by omega) (by omega) (by omega) (by omega)
    obtain ⟨w, t8, e8, hw8, ht8⟩ := weights_ok 5000 (by omega) ht7 (m := kw * kh) (by omega)
    simp only [e4, Option.bind_some]
    simp only [e5, Option.bind_some]
    simp only [e6, Option.bind_some]
    simp only [e7, Option.bind_some]
    rw [w64_id (n := kw * kh) (by omega) (by omega)]
    simp only [e8, Option.bind_some]
    exact ⟨_, t8, rfl, ⟨hw8, z, z, zt, zt, zo⟩, ht8, hkd⟩
  | false =>
  rw [cond_false]
  cases 1 + kd == 2 with
  | true =>
    rw [cond_true]
    obtain ⟨a1, t4, e4, b1, b2, ht4⟩ := next_ok 5000 ht3 (n := 4) (by omega) (by omega)
    obtain ⟨w1, t5, e5, l5, ht5⟩ := weights_ok 5000 (by omega) ht4 (m := 1 + a1) (by omega)
    obtain ⟨a2, t6, e6, b3, b4, ht6⟩ := next_ok 5000 ht5 (n := 4) (by omega) (by omega)
    obtain ⟨w2, t7, e7, l7, ht7⟩ := weights_ok 5000 (by omega) ht6 (m := 1 + a2) (by omega)
    obtain ⟨s1, t8, e8, _, _, ht8⟩ := next_ok 5000 ht7 (n := 3) (by omega) (by omega)
    obtain ⟨s2, t9, e9, _, _, ht9⟩ := next_ok 5000 ht8 (n := 4) (by omega) (by omega)
    obtain ⟨ed, t10, e10, ht10⟩ := edgem_ok 5000 ht9 sh.2.2
    simp only [e4, Option.bind_some]
    rw [w64_id (n := 1 + a1) (by omega) (by omega)]
    simp only [e5, Option.bind_some]
    simp only [e6, Option.bind_some]
    rw [w64_id (n := 1 + a2) (by omega) (by omega)]
    simp only [e7, Option.bind_some]
    simp only [e8, Option.bind_some]
    simp only [e9, Option.bind_some]
    simp only [e10, Option.bind_some]
    exact ⟨_, t10, rfl, ⟨z, l5, l7, zt, zt, zo⟩, ht10, hkd⟩
  | false =>
  rw [cond_false]
  cases 1 + kd == 3 with
  | true =>
    rw [cond_true]
    obtain ⟨x, t4, e4, l4, ht4⟩ := table_ok ht3 (n := sh.1) hw
    obtain ⟨y, t5, e5, l5, ht5⟩ := table_ok ht4 (n := sh.2.1) hh
    obtain ⟨ed, t6, e6, ht6⟩ := edgem_ok 5000 ht5 sh.2.2
    simp only [e4, Option.bind_some]
    simp only [e5, Option.bind_some]
    simp only [e6, Option.bind_some]
    exact ⟨_, t6, rfl, ⟨z, z, z, show x.length ≤ 100 by omega, show y.length ≤ 100 by omega, zo⟩, ht6, hkd⟩
  | false =>
  rw [cond_false]
  cases 1 + kd == 4 with
  | true =>
    rw [cond_true]
    obtain ⟨x, t4, e4, _, ht4⟩ := pick_ok 5000 ht3 (l := [4, 1, 7]) (by simp) (by simp)
    simp only [e4, Option.bind_some]
    exact ⟨_, t4, rfl, ⟨z, z, z, zt, zt, zo⟩, ht4, hkd⟩
  | false =>
  rw [cond_false]
  cases 1 + kd == 6 with
  | true =>
    rw [cond_true]
    cases decide (b ≥ 0) with
    | true =>
      rw [cond_true]
      obtain ⟨u, t4, e4, _, _, ht4⟩ := next_ok 5000 ht3 (n := 2) (by omega) (by omega)
      simp only [e4, Option.bind_some]
      cases u == 0 with
      | true =>
        obtain ⟨l, t5, e5, l5, ht5⟩ := ops_len 5000 (by omega) ht4 true
        simp only [e5, Option.bind_some, cond_true]
        exact ⟨_, t5, rfl, ⟨z, z, z, zt, zt, show l.length ≤ 100 by omega⟩, ht5, hkd⟩
      | false =>
        obtain ⟨l, t5, e5, l5, ht5⟩ := ops_len 5000 (by omega) ht4 false
        simp only [e5, Option.bind_some, cond_false]
        exact ⟨_, t5, rfl, ⟨z, z, z, zt, zt, show l.length ≤ 100 by omega⟩, ht5, hkd⟩
    | false =>
      obtain ⟨l, t5, e5, l5, ht5⟩ := ops_len 5000 (by omega) ht3 false
      simp only [e5, Option.bind_some, cond_false]
      exact ⟨_, t5, rfl, ⟨z, z, z, zt, zt, show l.length ≤ 100 by omega⟩, ht5, hkd⟩
  | false => exact ⟨_, t3, rfl, ⟨z, z, z, zt, zt, zo⟩, ht3, hkd⟩

theorem spoils_ok (k : Nat) (hk : 102 ≤ k) {t : Ta} (ht : Tp t) {s : Sg} (hs : Sz s) : ∃ s' t', tilefarmgen_Tape_SpoilStage k t s = some ((s', ()), (t', ())) ∧ Tp t' := by
  obtain ⟨h1, h2, h3, h4, h5, h6⟩ := hs
  unfold tilefarmgen_Tape_SpoilStage
  obtain ⟨c, t1, e1, _, _, ht1⟩ := next_ok k ht (n := 14) (by omega) (by omega)
  simp only [e1, Option.bind_some]
  cases c == 0 with
  | true =>
    obtain ⟨x, t2, e2, _, _, ht2⟩ := next_ok k ht1 (n := 8) (by omega) (by omega)
    simp only [e2, Option.bind_some, cond_true]
    exact ⟨_, t2, rfl, ht2⟩
  | false =>
  rw [cond_false]
  cases c == 1 with
  | true =>
    obtain ⟨x, t2, e2, _, ht2⟩ := pick_ok k ht1 (l := [(-1), 0, 1, 2, 15, 16]) (by simp) (by simp)
    simp only [e2, Option.bind_some, cond_true]
    exact ⟨_, t2, rfl, ht2⟩
  | false =>
  rw [cond_false]
  cases c == 2 with
  | true =>
    obtain ⟨x, t2, e2, _, ht2⟩ := pick_ok k ht1 (l := [(-2), (-1), 0, 1, 16]) (by simp) (by simp)
    simp only [e2, Option.bind_some, cond_true]
    exact ⟨_, t2, rfl, ht2⟩
  | false =>
  rw [cond_false]
  cases c == 3 with
  | true =>
    obtain ⟨x, t2, e2, _, _, ht2⟩ := next_ok k ht1 (n := 6) (by omega) (by omega)
    obtain ⟨y, t3, e3, _, ht3⟩ := pick_ok k ht2 (l := [0, 5, (-1), 70000]) (by simp) (by simp)
    simp only [e2, Option.bind_some, cond_true]
    simp only [e3, Option.bind_some]
    exact ⟨_, t3, rfl, ht3⟩
  | false =>
  rw [cond_false]
  cases c == 4 with
  | true =>
    obtain ⟨x, t2, e2, _, ht2⟩ := pick_ok k ht1 (l := [0, 1, 3, 10, 4611686018427387904]) (by simp) (by simp)
    simp only [e2, Option.bind_some, cond_true]
    exact ⟨_, t2, rfl, ht2⟩
  | false =>
  rw [cond_false]
  cases c == 5 with
  | true =>
    obtain ⟨x, t2, e2, x1, x2, ht2⟩ := next_ok k ht1 (n := 10) (by omega) (by omega)
    obtain ⟨y, t3, e3, _, ht3⟩ := weights_ok k hk ht2 (m := x) (by omega)
    simp only [e2, Option.bind_some, cond_true]
    simp only [e3, Option.bind_some]
    exact ⟨_, t3, rfl, ht3⟩
  | false =>
  rw [cond_false]
  cases c == 6 with
  | true =>
    obtain ⟨x, t2, e2, x1, x2, ht2⟩ := next_ok k ht1 (n := 11) (by omega) (by omega)
    obtain ⟨y, t3, e3, _, ht3⟩ := weights_ok k hk ht2 (m := x) (by omega)
    simp only [e2, Option.bind_some, cond_true]
    simp only [e3, Option.bind_some]
    exact ⟨_, t3, rfl, ht3⟩
  | false =>
  rw [cond_false]
  cases c == 7 with
  | true =>
    obtain ⟨x, t2, e2, _, ht2⟩ := pick_ok k ht1 (l := [0, (-1), 25, 24]) (by simp) (by simp)
    obtain ⟨y, t3, e3, _, ht3⟩ := pick_ok k ht2 (l := [0, 25, 3]) (by simp) (by simp)
    simp only [e2, Option.bind_some, cond_true]
    simp only [e3, Option.bind_some]
    exact ⟨_, t3, rfl, ht3⟩
  | false =>
  rw [cond_false]
  cases c == 8 with
  | true =>
    obtain ⟨x, t2, e2, _, ht2⟩ := pick_ok k ht1 (l := [(-129), 0, 256, 257]) (by simp) (by simp)
    obtain ⟨y, t3, e3, hy, ht3⟩ := pick_ok k ht2 (l := [0, 1, 8, 9]) (by simp) (by simp)
    have hy2 : y ≤ 100 := by simp at hy; omega
    obtain ⟨w, t4, e4, _, ht4⟩ := weights_ok k hk ht3 (m := y) hy2
    rw [cond_true, if_pos (show s.x.length * 32 ≤ _ by omega)]
    simp only [e2, Option.bind_some]
    simp only [e3, Option.bind_some]
    simp only [e4, Option.bind_some]
    rw [if_pos (by rw [List.length_append]; show (s.x.length + 1) * 32 ≤ _; omega)]
    exact ⟨_, t4, rfl, ht4⟩
  | false =>
  rw [cond_false]
  cases c == 9 with
  | true =>
    obtain ⟨x, t2, e2, _, ht2⟩ := pick_ok k ht1 (l := [0, 1, 128, 129]) (by simp) (by simp)
    simp only [e2, Option.bind_some, cond_true]
    exact ⟨_, t2, rfl, ht2⟩
  | false =>
  rw [cond_false]
  cases c == 10 with
  | true =>
    obtain ⟨x, t2, e2, _, _, ht2⟩ := next_ok k ht1 (n := 14) (by omega) (by omega)
    obtain ⟨y, t3, e3, hy, ht3⟩ := pick_ok k ht2 (l := [0, 1, 25, (-5)]) (by simp) (by simp)
    rw [cond_true, if_pos (show s.ops.length * 16 ≤ _ by omega)]
    simp only [e2, Option.bind_some]
    simp only [e3, Option.bind_some]
    rw [if_pos (by rw [List.length_append]; show (s.ops.length + 1) * 16 ≤ _; omega)]
    exact ⟨_, t3, rfl, ht3⟩
  | false =>
  rw [cond_false]
  cases c == 11 with
  | true =>
    obtain ⟨x, t2, e2, _, ht2⟩ := pick_ok k ht1 (l := [0, 1, 4294967296, 4294967297]) (by simp) (by simp)
    simp only [e2, Option.bind_some, cond_true]
    exact ⟨_, t2, rfl, ht2⟩
  | false =>
  rw [cond_false]
  cases c == 12 with
  | true =>
    rw [cond_true, if_pos (by omega)]
    by_cases h0 : (s.2.2.2.2.2.2.2.1.length : Int) > 0
    · rw [decide_eq_true h0, cond_true]
      obtain ⟨x, t2, e2, x1, x2, ht2⟩ := next_ok k ht1 (n := (s.2.2.2.2.2.2.2.1.length : Int)) (by omega) (by omega)
      obtain ⟨y, t3, e3, _, ht3⟩ := pick_ok k ht2 (l := [32767, (-32768), 0]) (by simp) (by simp)
      simp only [e2, Option.bind_some]
      simp only [e3, Option.bind_some]
      rw [if_pos ⟨x1, x2⟩, List.getElem?_eq_getElem (by omega : x.toNat < s.2.2.2.2.2.2.2.1.length), Option.bind_some]
      exact ⟨_, t3, rfl, ht3⟩
    · rw [decide_eq_false h0, cond_false]
      exact ⟨_, t1, rfl, ht1⟩
  | false => exact ⟨_, t1, rfl, ht1⟩

theorem small_ok (k : Nat) {t : Ta} (ht : Tp t) : ∃ s t', tilefarmlaw15_small k t = some ((s, ()), (t', ())) ∧ (1 ≤ s.1 ∧ s.1 ≤ 10) ∧ (1 ≤ s.2.1 ∧ s.2.1 ≤ 10) ∧ Tp t' := by
  unfold tilefarmlaw15_small
  obtain ⟨a, t1, e1, a1, a2, ht1⟩ := next_ok k ht (n := 6) (by omega) (by omega)
  obtain ⟨b, t2, e2, b1, b2, ht2⟩ := next_ok k ht1 (n := 5) (by omega) (by omega)
  obtain ⟨c, t3, e3, _, ht3⟩ := pick_ok k ht2 (l := [255, 65535, 1]) (by simp) (by simp)
  simp only [e1, Option.bind_some]
  simp only [e2, Option.bind_some]
  simp only [e3, Option.bind_some]
  rw [w64_id (n := 1 + a) (by omega) (by omega), w64_id (n := 1 + b) (by omega) (by omega)]
  exact ⟨_, t3, rfl, ⟨show 1 ≤ 1 + a by omega, show 1 + a ≤ 10 by omega⟩, ⟨show 1 ≤ 1 + b by omega, show 1 + b ≤ 10 by omega⟩, ht3⟩

theorem ssane_ok : tilefarmlaw15_sane 5000 = some ((true, ()), ()) := by kernel_rfl
end Go.Lf.T

import Derived.Test.YtgfhdajbgkpgkaaLfP14a
/-! Lf: PointwiseOrderless. -/
set_option linter.unusedVariables false
set_option maxRecDepth 100000
namespace Go.Lf.T
open Go Go.Lf

theorem eval3 (c u v : Int) (hc : c = 3 ∨ c = 5 ∨ c = 6 ∨ c = 7 ∨ c = 8 ∨ c = 9) : pointwise_Eval 40 [(0, 0), (1, 0), (c, 0)] u v =
    (pointwise_between 40 u 0 4294967296).bind fun y2 => bif !y2.1.1 then some ((0, 2, ()), ()) else (pointwise_between 40 v 0 4294967296).bind fun y3 => bif !y3.1.1 then some ((0, 2, ()), ()) else
      ((pointwise_sum 40 u).bind fun y => bif !y.1.1 then some ((0, 11, ()), ()) else (pointwise_sum 40 v).bind fun y => bif !y.1.1 then some ((0, 11, ()), ()) else
        (pointwise_result 40 c u v).bind fun r => (pointwise_sum 40 r.1.1).bind fun y => bif !y.1.1 then some ((0, 11, ()), ()) else some ((r.1.1, 0, ()), ())).bind fun y4 => some ((y4.1.1, y4.1.2.1, ()), ()) := by
  rcases hc with rfl | rfl | rfl | rfl | rfl | rfl <;> kernel_rfl

theorem eval3_ok {c u v r : Int} (hc : c = 3 ∨ c = 5 ∨ c = 6 ∨ c = 7 ∨ c = 8 ∨ c = 9) (hu1 : 0 ≤ u) (hu2 : u < 2097152) (hv1 : 0 ≤ v) (hv2 : v < 2097152) (hr : pointwise_result 40 c u v = some ((r, ()), ())) (h1 : -17592186044416 ≤ r) (h2 : r ≤ 17592186044416) :
    pointwise_Eval 40 [(0, 0), (1, 0), (c, 0)] u v = some ((r, 0, ()), ()) := by
  rw [eval3 c u v hc, hr]
  have e1 : pointwise_between 40 u 0 4294967296 = some ((true, ()), ()) := by simp [pointwise_between, hu1]; omega
  have e2 : pointwise_between 40 v 0 4294967296 = some ((true, ()), ()) := by simp [pointwise_between, hv1]; omega
  rw [e1, e2, sum_ok 40 (n := u) (by omega) (by omega), sum_ok 40 (n := v) (by omega) (by omega)]
  simp [sum_ok 40 h1 h2]

theorem prod_le {u v : Int} (hu1 : 0 ≤ u) (hu2 : u < 2097152) (hv1 : 0 ≤ v) (hv2 : v < 2097152) : 0 ≤ u * v ∧ u * v ≤ 4398046511104 := by
  refine ⟨Int.mul_nonneg hu1 hv1, ?_⟩
  have h1 := Int.mul_le_mul (a := u) (b := v) (c := 2097152) (d := 2097152) (by omega) (by omega) hv1 (by omega)
  omega

theorem times_ok {u v : Int} (hu1 : 0 ≤ u) (hu2 : u < 2097152) (hv1 : 0 ≤ v) (hv2 : v < 2097152) : pointwise_times 40 u v = some ((u * v, ()), ()) := by
  obtain ⟨p1, p2⟩ := prod_le hu1 hu2 hv1 hv2
  unfold pointwise_times
  rw [abs_ok 40 (n := v) (by omega) (by omega), abs_ok 40 (n := u) (by omega) (by omega), w64_id (n := u * v) (by omega) (by omega)]
  rw [if_neg (by omega : ¬ v < 0), if_neg (by omega : ¬ u < 0)]
  by_cases h : u = 0
  · subst h; rfl
  · have e : (u != 0) = true := by simpa using h
    simp only [e, cond, Option.bind, if_neg h]
    have hq : w64 ((17592186044416 : Int).tdiv u) = 17592186044416 / u := by
      rw [Int.tdiv_eq_ediv_of_nonneg (by omega)]
      have h1 : 0 ≤ 17592186044416 / u := Int.ediv_nonneg (by omega) hu1
      have h2 : 17592186044416 / u ≤ 17592186044416 := Int.ediv_le_self _ (by omega)
      exact w64_id (by omega) (by omega)
    have hle : v ≤ 17592186044416 / u := (Int.le_ediv_iff_mul_le (by omega)).2 (by rw [Int.mul_comm]; omega)
    rw [hq, decide_eq_false (by omega)]

theorem orderless_pure (a b : Int) : tilefarmlaw14_PointwiseOrderless 40 a b = some ((true, ()), ()) := by
  obtain ⟨u, hu, hu1, hu2⟩ := mod_ok 40 a 2097152 (by omega) (by omega)
  obtain ⟨v, hv, hv1, hv2⟩ := mod_ok 40 b 2097152 (by omega) (by omega)
  have add : ∀ x y : Int, 0 ≤ x → x < 2097152 → 0 ≤ y → y < 2097152 → pointwise_Eval 40 [(0, 0), (1, 0), (3, 0)] x y = some ((x + y, 0, ()), ()) := fun x y h1 h2 h3 h4 =>
    eval3_ok (by omega) h1 h2 h3 h4 (by show some ((w64 (x + y), ()), ()) = _; rw [w64_id (by omega) (by omega)]) (by omega) (by omega)
  have mul : ∀ x y : Int, 0 ≤ x → x < 2097152 → 0 ≤ y → y < 2097152 → pointwise_Eval 40 [(0, 0), (1, 0), (5, 0)] x y = some ((x * y, 0, ()), ()) := fun x y h1 h2 h3 h4 => by
    obtain ⟨p1, p2⟩ := prod_le h1 h2 h3 h4
    exact eval3_ok (by omega) h1 h2 h3 h4 (by show (pointwise_times 40 x y).bind _ = _; rw [times_ok h1 h2 h3 h4]; rfl) (by omega) (by omega)
  have mn : ∀ x y : Int, 0 ≤ x → x < 2097152 → 0 ≤ y → y < 2097152 → pointwise_Eval 40 [(0, 0), (1, 0), (6, 0)] x y = some ((if y < x then y else x, 0, ()), ()) := fun x y h1 h2 h3 h4 =>
    eval3_ok (by omega) h1 h2 h3 h4 rfl (by split <;> omega) (by split <;> omega)
  have mx : ∀ x y : Int, 0 ≤ x → x < 2097152 → 0 ≤ y → y < 2097152 → pointwise_Eval 40 [(0, 0), (1, 0), (7, 0)] x y = some ((if y > x then y else x, 0, ()), ()) := fun x y h1 h2 h3 h4 =>
    eval3_ok (by omega) h1 h2 h3 h4 rfl (by split <;> omega) (by split <;> omega)
  have df : ∀ x y : Int, 0 ≤ x → x < 2097152 → 0 ≤ y → y < 2097152 → pointwise_Eval 40 [(0, 0), (1, 0), (8, 0)] x y = some ((if x - y < 0 then -(x - y) else x - y, 0, ()), ()) := fun x y h1 h2 h3 h4 =>
    eval3_ok (by omega) h1 h2 h3 h4 (by show (pointwise_abs 40 (w64 (x - y))).bind _ = _; rw [w64_id (by omega) (by omega), abs_ok 40 (by omega) (by omega)]; rfl) (by split <;> omega) (by split <;> omega)
  have dv : pointwise_Eval 40 [(0, 0), (1, 0), (9, 0)] u v = some ((if v = 0 then 0 else u / v, 0, ()), ()) := by
    have hq : ∀ h : v ≠ 0, 0 ≤ u / v ∧ u / v ≤ u := fun h => ⟨Int.ediv_nonneg hu1 hv1, Int.ediv_le_self _ hu1⟩
    refine eval3_ok (by omega) hu1 hu2 hv1 hv2 ?_ ?_ ?_
    · show (pointwise_divided 40 u v).bind _ = _
      unfold pointwise_divided
      by_cases h : v = 0
      · subst h; rfl
      · have e : (v == 0) = false := by simpa using h
        have q := hq h
        rw [e, if_neg h, if_neg h, if_neg h, decide_eq_false (by omega : ¬ u < 0), decide_eq_false (by omega : ¬ v < 0)]
        have hw : w64 (u.tdiv v) = u / v := by rw [Int.tdiv_eq_ediv_of_nonneg hu1]; exact w64_id (by omega) (by omega)
        rw [hw]
        cases (u.tmod v != 0) <;> rfl
    · split
      · omega
      · have := hq ‹_›; omega
    · split
      · omega
      · have := hq ‹_›; omega
  unfold tilefarmlaw14_PointwiseOrderless
  rw [hu, hv]
  simp only [Option.bind]
  have step : ∀ (j : Nat) (i c r : Int) (e0 : Bool → Option (Tys [.bool] × Upds [.imm (.int .i64), .imm (.int .i64)])) (e1 : Unit → Option (Tys [.bool] × Upds [.imm (.int .i64), .imm (.int .i64)])), 0 ≤ i → i < 5 → ([3, 5, 6, 7, 8] : List Int)[i.toNat]? = some c →
      pointwise_Eval 40 [(0, 0), (1, 0), (c, 0)] u v = some ((r, 0, ()), ()) → pointwise_Eval 40 [(0, 0), (1, 0), (c, 0)] v u = some ((r, 0, ()), ()) →
      tilefarmlaw14_PointwiseOrderless.loop0 40 (j + 1) u v 5 i [3, 5, 6, 7, 8] e0 e1 = tilefarmlaw14_PointwiseOrderless.loop0 40 j u v 5 (i + 1) [3, 5, 6, 7, 8] e0 e1 := by
    intro j i c r e0 e1 h1 h2 hc hx hy
    show (bif decide (i < 5) then (if 0 ≤ i ∧ i < ((5 : Nat) : Int) then (([3, 5, 6, 7, 8] : List Int)[i.toNat]?).bind fun (x3 : Int) => (pointwise_Eval 40 [(0, 0), (1, 0), (x3, 0)] u v).bind fun (y4 : (Int × Int × Unit) × (Unit)) => (pointwise_Eval 40 [(0, 0), (1, 0), (x3, 0)] v u).bind fun (y5 : (Int × Int × Unit) × (Unit)) => bif y4.1.2.1 != 0 then (e0 false) else (bif y5.1.2.1 != 0 then (e0 false) else (bif y4.1.1 != y5.1.1 then (e0 false) else (tilefarmlaw14_PointwiseOrderless.loop0 40 j u v 5 (w64 (i + 1)) [3, 5, 6, 7, 8] e0 e1))) else none) else (e1 ())) = _
    rw [decide_eq_true h2, if_pos ⟨h1, by omega⟩, hc, w64_id (by omega) (by omega)]
    simp only [cond, Option.bind, hx, hy]
    simp
  have swap : ∀ x y : Int, (if y < x then y else x) = (if x < y then x else y) := fun x y => by split <;> split <;> omega
  have swap2 : ∀ x y : Int, (if y > x then y else x) = (if x > y then x else y) := fun x y => by split <;> split <;> omega
  have swap3 : ∀ x y : Int, (if x - y < 0 then -(x - y) else x - y) = (if y - x < 0 then -(y - x) else y - x) := fun x y => by split <;> split <;> omega
  refine (step 39 0 3 (u + v) _ _ (by omega) (by omega) rfl (add u v hu1 hu2 hv1 hv2) (by rw [add v u hv1 hv2 hu1 hu2, Int.add_comm])).trans ?_
  refine (step 38 1 5 (u * v) _ _ (by omega) (by omega) rfl (mul u v hu1 hu2 hv1 hv2) (by rw [mul v u hv1 hv2 hu1 hu2, Int.mul_comm])).trans ?_
  refine (step 37 2 6 _ _ _ (by omega) (by omega) rfl (mn u v hu1 hu2 hv1 hv2) (by rw [mn v u hv1 hv2 hu1 hu2, swap])).trans ?_
  refine (step 36 3 7 _ _ _ (by omega) (by omega) rfl (mx u v hu1 hu2 hv1 hv2) (by rw [mx v u hv1 hv2 hu1 hu2, swap2])).trans ?_
  refine (step 35 4 8 _ _ _ (by omega) (by omega) rfl (df u v hu1 hu2 hv1 hv2) (by rw [df v u hv1 hv2 hu1 hu2, swap3])).trans ?_
  have last : ∀ (e0 : Bool → Option (Tys [.bool] × Upds [.imm (.int .i64), .imm (.int .i64)])) (e1 : Unit → Option (Tys [.bool] × Upds [.imm (.int .i64), .imm (.int .i64)])), tilefarmlaw14_PointwiseOrderless.loop0 40 35 u v 5 (4 + 1) [3, 5, 6, 7, 8] e0 e1 = e1 () := fun e0 e1 => rfl
  rw [last, dv, sane_ok]
  by_cases h : v = 0
  · subst h; rfl
  · have e : (v == 0) = false := by simpa using h
    have hv0 : 0 < v := by omega
    have q1 := Int.ediv_nonneg hu1 hv1
    have q2 : u / v ≤ u := Int.ediv_le_self _ hu1
    have q3 : u / v * v ≤ u := Int.ediv_mul_le u (by omega)
    have q4 : u < (u / v + 1) * v := Int.lt_ediv_add_one_mul_self u hv0
    have q5 : (u / v + 1) * v = u / v * v + v := by rw [Int.add_mul, Int.one_mul]
    have q6 : 0 ≤ u / v * v := Int.mul_nonneg q1 hv1
    simp only [if_neg h, e, cond]
    rw [w64_id (n := u / v * v) (by omega) (by omega), w64_id (n := u / v + 1) (by omega) (by omega), w64_id (n := (u / v + 1) * v) (by omega) (by omega)]
    simp [hv0, q3, q4]
end Go.Lf.T

import Derived.Test.YtgfhdajbgkpgkaaLfP14w
/-! Lf: pointwise: the reference comes to the same. -/
set_option linter.unusedVariables false
set_option maxRecDepth 100000
namespace Go.Lf.T
open Go Go.Lf

theorem u64_id {n : Int} (h1 : 0 ≤ n) (h2 : n < 18446744073709551616) : IntKind.u64.wrap n = n := by
  unfold IntKind.wrap
  simp [IntKind.bits, IntKind.signed]
  omega

theorem rtakes_ok (k : Nat) {c : Int} (h1 : 0 ≤ c) (h2 : c ≤ 11) : tilefarmref14_takes k c = some ((((tk c : Nat) : Int), ()), ()) := by
  unfold tilefarmref14_takes tk
  by_cases h : c ≤ 2
  · rw [decide_eq_true h, if_pos (by omega)]; rfl
  · rw [decide_eq_false h, if_neg (by omega)]
    by_cases h' : c ≥ 10
    · rw [decide_eq_true h', if_pos (by omega)]; rfl
    · rw [decide_eq_false h', if_neg (by omega)]; rfl

theorem rarg_ok (k : Nat) (o : Int × Int) : tilefarmref14_argument k o = some ((argB o, ()), ()) := by
  unfold tilefarmref14_argument argB tilefarmref7_IsShift
  by_cases h2 : o.1 = 2
  · have e : (o.1 == 2) = true := by simpa using h2
    rw [e, if_pos h2, cond_true]
    by_cases h : -4294967296 ≤ o.2 <;> simp [h]
  · have e : (o.1 == 2) = false := by simpa using h2
    rw [e, if_neg h2, cond_false]
    by_cases h10 : o.1 = 10
    · have e : (o.1 == 10) = true := by simpa using h10
      rw [e, if_pos h10, cond_true]
      by_cases h : 0 ≤ o.2 <;> simp [h]
    · have e : (o.1 == 10) = false := by simpa using h10
      rw [e, if_neg h10, cond_false]
      by_cases h : o.2 = 0 <;> simp [h]

theorem rvalid_loop {R : Type} (k : Nat) (two : Bool) (l : List (Int × Int)) (e0 e1 : Int → Option R) (hl : l.length ≤ 4294967296) : ∀ (n i j : Nat) (h : Int), l.length - i = n → i ≤ l.length → n < j → -4294967296 * 2 ≤ h → h ≤ i →
    tilefarmref14_Valid.loop0 k j l two h i e0 e1 = vgo two e0 e1 (l.drop i) h := by
  intro n
  induction n with
  | zero =>
    intro i j h hn hi hj h1 h2
    have e : i = l.length := by omega
    obtain ⟨j, rfl⟩ : ∃ j', j = j' + 1 := ⟨j - 1, by omega⟩
    rw [tilefarmref14_Valid.loop0_s, e, decide_eq_false (by omega), List.drop_length]
    rfl
  | succ n ih =>
    intro i j h hn hi hj h1 h2
    obtain ⟨j, rfl⟩ : ∃ j', j = j' + 1 := ⟨j - 1, by omega⟩
    have hlt : i < l.length := by omega
    rw [tilefarmref14_Valid.loop0_s, decide_eq_true (by omega), List.drop_eq_getElem_cons hlt]
    simp only [cond_true]
    rw [if_pos (by omega), Int.toNat_natCast, List.getElem?_eq_getElem hlt]
    generalize hgo : l[i] = o
    simp only [Option.bind_some, rarg_ok]
    have htk := tk_le o.1
    rw [vgo_cons]
    by_cases hb1 : o.1 < 0
    · rw [decide_eq_true hb1, if_pos (.inl (by omega))]; rfl
    rw [decide_eq_false hb1, cond_false]
    by_cases hb2 : o.1 > 11
    · rw [decide_eq_true hb2, if_pos (.inl (by omega))]; rfl
    rw [decide_eq_false hb2, cond_false, rtakes_ok k (by omega) (by omega)]
    simp only [Option.bind_some]
    have next : argB o = true → ¬ h < tk o.1 → tilefarmref14_Valid.loop0 k j l two (w64 (h + (w64 (1 - ((tk o.1 : Nat) : Int))))) (w64 ((i : Int) + 1)) e0 e1 = vgo two e0 e1 (l.drop (i + 1)) (h + (1 - tk o.1)) := by
      intro _ hh
      rw [w64_succ i (by omega), w64_id (n := 1 - ((tk o.1 : Nat) : Int)) (by omega) (by omega), w64_id (n := h + (1 - ((tk o.1 : Nat) : Int))) (by omega) (by omega)]
      exact ih (i + 1) j _ (by omega) (by omega) (by omega) (by omega) (by omega)
    have hb : 0 ≤ o.1 ∧ o.1 ≤ 11 := by omega
    by_cases h11 : o.1 = 1
    · have e : (o.1 == 1) = true := by simpa using h11
      rw [e]
      cases two with
      | false => simp [h11]
      | true =>
        by_cases hh : h < tk o.1
        · simp [hb, hh]
        · cases ha : argB o with
          | false => simp [hb, hh]
          | true =>
            have := next ha hh
            simp [hb, hh, this]
    · have e : (o.1 == 1) = false := by simpa using h11
      rw [e]
      by_cases hh : h < tk o.1
      · simp [hb, hh]
      · cases ha : argB o with
        | false => simp [hb, hh, h11]
        | true =>
          have := next ha hh
          simp [hb, hh, h11, this]

theorem rvalid_ok (k : Nat) (l : List (Int × Int)) (two : Bool) (hk : 33 ≤ k) : tilefarmref14_Valid k l two = some ((vcode l two, ()), ()) := by
  unfold tilefarmref14_Valid vcode
  by_cases h0 : l.length = 0
  · have e : (((l.length : Nat) : Int) == 0) = true := by simp [h0]
    rw [e, if_neg (by omega)]; rfl
  have e : (((l.length : Nat) : Int) == 0) = false := by
    cases h : (((l.length : Nat) : Int) == 0) with
    | false => rfl
    | true => have := eq_of_beq h; omega
  rw [e, cond_false]
  by_cases h1 : l.length ≤ 32
  · rw [decide_eq_false (by omega), if_pos (by omega), cond_false]
    have := rvalid_loop (R := (Int × Unit) × Unit) k two l (fun z => some ((z, ()), ())) (fun z => (bif z != 1 then (some ((1, ()), ())) else (some ((0, ()), ())))) (by omega) l.length 0 k 0 rfl (by omega) (by omega) (by omega) (by omega)
    rw [show ((0 : Nat) : Int) = 0 from rfl] at this
    rw [this, List.drop_zero]
    obtain ⟨c, hc⟩ := vgo_some two l 0
    rw [hc]
    have hm := vgo_map two (fun c => some ((c, ()), ())) some (fun h => some (if h ≠ 1 then 1 else 0)) l 0
    rw [hc] at hm
    have e : (fun x : Int => (some (if x ≠ 1 then (1 : Int) else 0)).bind fun c => some ((c, ()), ())) = fun z => (bif z != 1 then (some ((1, ()), ())) else (some ((0, ()), ()))) := by
      funext z
      by_cases h : z = 1
      · subst h; rfl
      · have e : (z != 1) = true := by simpa using h
        rw [e, if_pos h]; rfl
    rw [e] at hm
    exact hm.symm
  · rw [decide_eq_true (by omega), if_neg (by omega)]; rfl

theorem acc_ok (k : Nat) (n : Int) : tilefarmref7_Acc k n = some ((decide (inM n), ()), ()) := by
  unfold tilefarmref7_Acc
  by_cases h : -17592186044416 ≤ n <;> simp [h, inM]

theorem rabs_ok (k : Nat) {n : Int} (h1 : -9223372036854775808 < n) (h2 : n < 9223372036854775808) : tilefarmref14_abs k n = some ((ab n, ()), ()) := by
  unfold tilefarmref14_abs ab
  by_cases h : n < 0
  · rw [decide_eq_true h, if_pos h, w64_id (by omega) (by omega)]
    simp
  · rw [decide_eq_false h, if_neg h]; rfl

theorem tms_eq (x y : Int) : tms x y = if ab (x * y) ≤ 17592186044416 then x * y else 17592186044417 := by
  split
  · rename_i h; exact tms_of h
  · rename_i h
    unfold tms
    rw [if_pos]
    refine Classical.byContradiction fun hc => h ?_
    exact inM_ab.1 (tms_in hc)

theorem rtimes_ok (k : Nat) {x y : Int} (hx : inM x) (hy : inM y) : tilefarmref14_times k x y = some ((if ab (x * y) ≤ 17592186044416 then x * y else 0, decide (ab (x * y) ≤ 17592186044416), ()), ()) := by
  have hx' := hx; have hy' := hy
  unfold inM at hx' hy'
  have hsmall : ab (x * y) ≤ 17592186044416 → w64 (x * y) = x * y := fun h => by
    have := ab_le.1 h
    exact w64_id (by omega) (by omega)
  -- the reference's test
  have test : ∀ u v : Int, 0 ≤ u → 0 < v → v ≤ 17592186044416 → (decide (u > w64 ((17592186044416 : Int).tdiv v))) = !decide (u * v ≤ 17592186044416) := by
    intro u v hu hv hv2
    have d1 : 0 ≤ 17592186044416 / v := Int.ediv_nonneg (by omega) (by omega)
    have d2 : 17592186044416 / v ≤ 17592186044416 := Int.ediv_le_self _ (by omega)
    rw [Int.tdiv_eq_ediv_of_nonneg (by omega), w64_id (by omega) (by omega)]
    by_cases h : u * v ≤ 17592186044416
    · have := (Int.le_ediv_iff_mul_le hv).2 h
      rw [decide_eq_true h, decide_eq_false (by omega)]; rfl
    · have : ¬ u ≤ 17592186044416 / v := fun h' => h ((Int.le_ediv_iff_mul_le hv).1 h')
      rw [decide_eq_false h, decide_eq_true (by omega)]; rfl
  have fin : ∀ (u v : Int) (b : Bool), ab x * ab y = u * v → 0 ≤ u → 0 < v → v ≤ 17592186044416 → b = decide (u > w64 ((17592186044416 : Int).tdiv v)) → (bif b then (some ((0, false, ()), ())) else (some ((w64 (x * y), true, ()), ())) : Option ((Int × Bool × Unit) × Unit)) = some ((if ab (x * y) ≤ 17592186044416 then x * y else 0, decide (ab (x * y) ≤ 17592186044416), ()), ()) := by
    intro u v b he hu hv hv2 hb
    rw [hb, test u v hu hv hv2, ab_mul, he]
    by_cases h : u * v ≤ 17592186044416
    · rw [decide_eq_true h, if_pos h, hsmall (by rw [ab_mul, he]; exact h)]; rfl
    · rw [decide_eq_false h, if_neg h]; rfl
  have zero : y = 0 → (some ((w64 (x * y), true, ()), ()) : Option ((Int × Bool × Unit) × Unit)) = some ((if ab (x * y) ≤ 17592186044416 then x * y else 0, decide (ab (x * y) ≤ 17592186044416), ()), ()) := by
    intro h
    subst h
    rw [Int.mul_zero]
    rfl
  unfold tilefarmref14_times
  rw [w64_id (n := 0 - x) (by omega) (by omega), w64_id (n := 0 - y) (by omega) (by omega)]
  by_cases hx0 : x < 0 <;> by_cases hy0 : y < 0
  · have ex : ab x = 0 - x := by unfold ab; rw [if_pos hx0]; omega
    have ey : ab y = 0 - y := by unfold ab; rw [if_pos hy0]; omega
    rw [decide_eq_true hx0, decide_eq_true hy0, cond_true, cond_true, decide_eq_true (by omega : 0 - y > 0), cond_true, if_neg (by omega)]
    exact fin (0 - x) (0 - y) _ (by rw [ex, ey]) (by omega) (by omega) (by omega) rfl
  · have ex : ab x = 0 - x := by unfold ab; rw [if_pos hx0]; omega
    have ey : ab y = y := by unfold ab; rw [if_neg hy0]
    rw [decide_eq_true hx0, decide_eq_false hy0, cond_true, cond_false]
    by_cases h0 : y = 0
    · rw [decide_eq_false (by omega), cond_false]; exact zero h0
    · rw [decide_eq_true (by omega : y > 0), cond_true, if_neg h0]
      exact fin (0 - x) y _ (by rw [ex, ey]) (by omega) (by omega) (by omega) rfl
  · have ex : ab x = x := by unfold ab; rw [if_neg hx0]
    have ey : ab y = 0 - y := by unfold ab; rw [if_pos hy0]; omega
    rw [decide_eq_false hx0, decide_eq_true hy0, cond_false, cond_true, decide_eq_true (by omega : 0 - y > 0), cond_true, if_neg (by omega)]
    exact fin x (0 - y) _ (by rw [ex, ey]) (by omega) (by omega) (by omega) rfl
  · have ex : ab x = x := by unfold ab; rw [if_neg hx0]
    have ey : ab y = y := by unfold ab; rw [if_neg hy0]
    rw [decide_eq_false hx0, decide_eq_false hy0, cond_false, cond_false]
    by_cases h0 : y = 0
    · rw [decide_eq_false (by omega), cond_false]; exact zero h0
    · rw [decide_eq_true (by omega : y > 0), cond_true, if_neg h0]
      exact fin x y _ (by rw [ex, ey]) (by omega) (by omega) (by omega) rfl

theorem rfloor_ok (k : Nat) {x y : Int} (hx : inM x) : tilefarmref14_floor k x y = some ((dvd' x y, ()), ()) := divided_eq k hx

theorem floor_tdiv {t d : Int} (hd : 0 < d) : (if t.tdiv d * d > t then t.tdiv d - 1 else t.tdiv d) = t.fdiv d := by
  rw [Int.fdiv_eq_ediv_of_nonneg _ (by omega)]
  have h2 := Int.mul_ediv_add_emod t d
  have h3 := Int.emod_nonneg t (by omega : d ≠ 0)
  have h4 := Int.emod_lt_of_pos t hd
  rw [Int.mul_comm] at h2
  have hq : t.tdiv d = t / d ∨ (t.tdiv d = t / d + 1 ∧ t % d ≠ 0) := by
    rw [Int.tdiv_eq_ediv]
    by_cases h : 0 ≤ t ∨ d ∣ t
    · rw [if_pos h]; exact .inl (by omega)
    · rw [if_neg h, Int.sign_eq_one_of_pos hd]
      exact .inr ⟨rfl, fun h0 => h (.inr (Int.dvd_of_emod_eq_zero h0))⟩
  generalize t / d = q at *
  generalize t % d = m at *
  rcases hq with e | ⟨e, hm⟩
  · rw [e, if_neg (by omega)]
  · rw [e, Int.add_mul, Int.one_mul, if_pos (by omega)]; omega

theorem rshift_ok (k : Nat) {x s : Int} (hx : inM x) (h0 : 0 ≤ s) (h1 : s ≤ 24) : tilefarmref7_Shift k x s = some ((shf x s, ()), ()) := by
  have hx' := hx
  unfold inM at hx'
  unfold tilefarmref7_Shift tilefarmref7_IsShift shf
  rw [acc_ok, decide_eq_true hx, Option.bind_some]
  simp only [Bool.not_true, cond_false]
  rw [decide_eq_true (show s ≥ 0 from h0), decide_eq_true h1]
  simp only [cond_true, Option.bind_some, Bool.not_true, cond_false]
  by_cases hs : s = 0
  · subst hs; rfl
  · have e : (s == 0) = false := by simpa using hs
    have hm1 : min (s - 1).toNat IntKind.i64.bits = s.toNat - 1 := by
      show min (s - 1).toNat 64 = s.toNat - 1
      omega
    have hm2 : min s.toNat IntKind.i64.bits = s.toNat := by
      show min s.toNat 64 = s.toNat
      omega
    obtain ⟨n, hn⟩ : ∃ n, s.toNat = n + 1 := ⟨s.toNat - 1, by omega⟩
    have hp := pow_small (s := n) (by omega)
    rw [e, cond_false, if_neg hs, w64_id (n := s - 1) (by omega) (by omega), u64_id (n := s - 1) (by omega) (by omega), u64_id (n := s) (by omega) (by omega), if_neg (by omega), if_neg (by omega), hm1, hm2, hn, Nat.add_sub_cancel, Int.one_mul, Int.one_mul, Int.pow_succ]
    generalize (2 : Int) ^ n = p at *
    rw [w64_id (n := p * 2) (by omega) (by omega), w64_id (n := p) (by omega) (by omega), w64_id (n := x + p) (by omega) (by omega), if_neg (by omega)]
    have hd : 0 < p * 2 := by omega
    have hq := tdiv_ab (x := x + p) (y := p * 2) (by omega)
    have hx2 : ab (x + p) ≤ 17592194433024 := ab_le.2 (by omega)
    have hq2 := ab_le.1 (Int.le_trans hq hx2)
    have hqd : -17592211210240 ≤ (x + p).tdiv (p * 2) * (p * 2) ∧ (x + p).tdiv (p * 2) * (p * 2) ≤ 17592211210240 := by
      have h := Int.mul_tdiv_add_tmod (x + p) (p * 2)
      have h5 := Int.tmod_lt_of_pos (x + p) hd
      have h6 := tmod_gt (x + p) (p * 2) hd
      rw [Int.mul_comm] at h
      omega
    rw [w64_id (n := (x + p).tdiv (p * 2)) (by omega) (by omega), w64_id (n := (x + p).tdiv (p * 2) * (p * 2)) (by omega) (by omega), w64_id (n := (x + p).tdiv (p * 2) - 1) (by omega) (by omega), ← floor_tdiv hd]
    by_cases h : (x + p).tdiv (p * 2) * (p * 2) > x + p
    · rw [decide_eq_true h, if_pos h]; rfl
    · rw [decide_eq_false h, if_neg h]; rfl

theorem rspan_ok (k : Nat) {x y s : Int} (hx : inM x) (hy : inM y) (h0 : 0 ≤ s) (h1 : s ≤ 24) : tilefarmref7_Span k x y s = some ((shf x s, shf y s, ()), ()) := by
  unfold tilefarmref7_Span
  rw [rshift_ok k hx h0 h1, rshift_ok k hy h0 h1]
  rfl

/-- The reference's operation on values. -/
theorem apply_ok (k : Nat) {o : Int × Int} {x y a b : Int} (hx : inM x) (hy : inM y) (c1 : 0 ≤ o.1) (c2 : o.1 ≤ 11) (ha : argB o = true) : ∃ v, tilefarmref14_apply k o x y a b = some ((v, decide (inM (estep a b o x y)), ()), ()) ∧ (inM (estep a b o x y) → v = estep a b o x y) := by
  have hx' := hx; have hy' := hy
  unfold inM at hx' hy'
  unfold tilefarmref14_apply estep res
  by_cases h0 : o.1 = 0
  · rw [show (o.1 == 0) = true by simpa using h0, if_pos h0]
    exact ⟨a, by simp [acc_ok], fun _ => rfl⟩
  rw [show (o.1 == 0) = false by simpa using h0, if_neg h0, cond_false]
  by_cases h1 : o.1 = 1
  · rw [show (o.1 == 1) = true by simpa using h1, if_pos h1]
    exact ⟨b, by simp [acc_ok], fun _ => rfl⟩
  rw [show (o.1 == 1) = false by simpa using h1, if_neg h1, cond_false]
  by_cases h2 : o.1 = 2
  · rw [show (o.1 == 2) = true by simpa using h2, if_pos h2]
    exact ⟨o.2, by simp [acc_ok], fun _ => rfl⟩
  rw [show (o.1 == 2) = false by simpa using h2, if_neg h2, cond_false]
  by_cases h10 : o.1 = 10
  · have hs : 0 ≤ o.2 ∧ o.2 ≤ 24 := by unfold argB at ha; rw [if_neg h2, if_pos h10] at ha; simpa using ha
    rw [if_pos h10, show (o.1 == 3) = false by rw [h10]; rfl, show (o.1 == 4) = false by rw [h10]; rfl, show (o.1 == 5) = false by rw [h10]; rfl, show (o.1 == 6) = false by rw [h10]; rfl, show (o.1 == 7) = false by rw [h10]; rfl, show (o.1 == 8) = false by rw [h10]; rfl, show (o.1 == 9) = false by rw [h10]; rfl, show (o.1 == 10) = true by rw [h10]; rfl, rshift_ok k hx hs.1 hs.2]
    exact ⟨_, by simp [acc_ok], fun _ => rfl⟩
  by_cases h11 : o.1 = 11
  · rw [if_neg h10, if_pos h11, show (o.1 == 3) = false by rw [h11]; rfl, show (o.1 == 4) = false by rw [h11]; rfl, show (o.1 == 5) = false by rw [h11]; rfl, show (o.1 == 6) = false by rw [h11]; rfl, show (o.1 == 7) = false by rw [h11]; rfl, show (o.1 == 8) = false by rw [h11]; rfl, show (o.1 == 9) = false by rw [h11]; rfl, show (o.1 == 10) = false by rw [h11]; rfl, rabs_ok k (n := x) (by omega) (by omega)]
    exact ⟨_, by simp [acc_ok], fun _ => rfl⟩
  rw [if_neg h10, if_neg h11]
  by_cases h3 : o.1 = 3
  · rw [show (o.1 == 3) = true by simpa using h3, if_pos h3, w64_id (n := x + y) (by omega) (by omega)]
    exact ⟨_, by simp [acc_ok], fun _ => rfl⟩
  rw [show (o.1 == 3) = false by simpa using h3, if_neg h3, cond_false]
  by_cases h4 : o.1 = 4
  · rw [show (o.1 == 4) = true by simpa using h4, if_pos h4, w64_id (n := x - y) (by omega) (by omega)]
    exact ⟨_, by simp [acc_ok], fun _ => rfl⟩
  rw [show (o.1 == 4) = false by simpa using h4, if_neg h4, cond_false]
  by_cases h5 : o.1 = 5
  · rw [show (o.1 == 5) = true by simpa using h5, if_pos h5, cond_true, rtimes_ok k hx hy, tms_eq]
    by_cases h : ab (x * y) ≤ 17592186044416
    · refine ⟨x * y, ?_, fun _ => by rw [if_pos h]⟩
      simp [h, acc_ok]
    · refine ⟨0, ?_, fun hh => ?_⟩
      · have : ¬ inM 17592186044417 := by unfold inM; omega
        simp [h, this]
      · rw [if_neg h] at hh; unfold inM at hh; omega
  rw [show (o.1 == 5) = false by simpa using h5, if_neg h5, cond_false]
  by_cases h6 : o.1 = 6
  · rw [show (o.1 == 6) = true by simpa using h6, if_pos h6]
    exact ⟨_, by simp [acc_ok], fun _ => rfl⟩
  rw [show (o.1 == 6) = false by simpa using h6, if_neg h6, cond_false]
  by_cases h7 : o.1 = 7
  · rw [show (o.1 == 7) = true by simpa using h7, if_pos h7]
    exact ⟨_, by simp [acc_ok], fun _ => rfl⟩
  rw [show (o.1 == 7) = false by simpa using h7, if_neg h7, cond_false]
  by_cases h8 : o.1 = 8
  · rw [show (o.1 == 8) = true by simpa using h8, if_pos h8, w64_id (n := x - y) (by omega) (by omega), rabs_ok k (n := x - y) (by omega) (by omega)]
    exact ⟨_, by simp [acc_ok], fun _ => rfl⟩
  have h9 : o.1 = 9 := by omega
  rw [show (o.1 == 8) = false by simpa using h8, if_neg h8, cond_false, show (o.1 == 9) = true by simpa using h9, rfloor_ok k hx]
  exact ⟨_, by simp [acc_ok], fun _ => rfl⟩

theorem acc2 (k : Nat) (v : Int × Int) : (tilefarmref7_Acc k v.1).bind (fun (y : (Bool × Unit) × (Unit)) => bif y.1.1 then ((tilefarmref7_Acc k v.2).bind fun (y4 : (Bool × Unit) × (Unit)) => some ((v, y4.1.1, ()), ())) else (some ((v, false, ()), ()))) = some ((v, decide (inP v), ()), ()) := by
  rw [acc_ok, acc_ok]
  by_cases h1 : inM v.1 <;> simp [h1, inP]

/-- The reference's operation on intervals. -/
theorem rnext_ok (k : Nat) {o : Int × Int} {x y : Int × Int} {a b : Int} (hx : inP x) (hy : inP y) (c1 : 0 ≤ o.1) (c2 : o.1 ≤ 11) (ha : argB o = true) : ∃ v, tilefarmref14_next k o x y a b = some ((v, decide (inP (istep a b o x y)), ()), ()) ∧ (inP (istep a b o x y) → v = istep a b o x y) := by
  obtain ⟨x1, x2⟩ := hx
  obtain ⟨y1, y2⟩ := hy
  have a1 := x1; have a2 := x2; have b1 := y1; have b2 := y2
  unfold inM at a1 a2 b1 b2
  have n1 := inM_ab.1 x1
  have n2 := inM_ab.1 x2
  have m1 := ab_nonneg x.1
  have m2 := ab_nonneg x.2
  have hn : 0 ≤ mm true (ab x.1) (ab x.2) ∧ mm true (ab x.1) (ab x.2) ≤ 17592186044416 := by rw [mm_true]; split <;> omega
  unfold tilefarmref14_next istep comb
  rw [rabs_ok k (n := x.1) (by omega) (by omega), rabs_ok k (n := x.2) (by omega) (by omega)]
  simp only [Option.bind_some]
  rw [w64_id (n := x.1 + y.1) (by omega) (by omega), w64_id (n := x.2 + y.2) (by omega) (by omega), w64_id (n := x.1 - y.2) (by omega) (by omega), w64_id (n := x.2 - y.1) (by omega) (by omega), w64_id (n := y.2 - x.1) (by omega) (by omega), w64_id (n := 0 - mm true (ab x.1) (ab x.2)) (by omega) (by omega)]
  by_cases h0 : o.1 = 0
  · rw [show (o.1 == 0) = true by simpa using h0, if_pos h0]
    exact ⟨(0, a), acc2 k (0, a), fun _ => rfl⟩
  rw [show (o.1 == 0) = false by simpa using h0, if_neg h0, cond_false]
  by_cases h1 : o.1 = 1
  · rw [show (o.1 == 1) = true by simpa using h1, if_pos h1]
    exact ⟨(0, b), acc2 k (0, b), fun _ => rfl⟩
  rw [show (o.1 == 1) = false by simpa using h1, if_neg h1, cond_false]
  by_cases h2 : o.1 = 2
  · rw [show (o.1 == 2) = true by simpa using h2, if_pos h2]
    exact ⟨(o.2, o.2), acc2 k (o.2, o.2), fun _ => rfl⟩
  rw [show (o.1 == 2) = false by simpa using h2, if_neg h2, cond_false]
  by_cases h10 : o.1 = 10
  · have hs : 0 ≤ o.2 ∧ o.2 ≤ 24 := by unfold argB at ha; rw [if_neg h2, if_pos h10] at ha; simpa using ha
    rw [if_pos h10, show (o.1 == 3) = false by rw [h10]; rfl, show (o.1 == 4) = false by rw [h10]; rfl, show (o.1 == 5) = false by rw [h10]; rfl, show (o.1 == 6) = false by rw [h10]; rfl, show (o.1 == 7) = false by rw [h10]; rfl, show (o.1 == 8) = false by rw [h10]; rfl, show (o.1 == 9) = false by rw [h10]; rfl, show (o.1 == 10) = true by rw [h10]; rfl, rspan_ok k x1 x2 hs.1 hs.2]
    exact ⟨(shf x.1 o.2, shf x.2 o.2), acc2 k (shf x.1 o.2, shf x.2 o.2), fun _ => rfl⟩
  by_cases h11 : o.1 = 11
  · rw [if_neg h10, if_pos h11, show (o.1 == 3) = false by rw [h11]; rfl, show (o.1 == 4) = false by rw [h11]; rfl, show (o.1 == 5) = false by rw [h11]; rfl, show (o.1 == 6) = false by rw [h11]; rfl, show (o.1 == 7) = false by rw [h11]; rfl, show (o.1 == 8) = false by rw [h11]; rfl, show (o.1 == 9) = false by rw [h11]; rfl, show (o.1 == 10) = false by rw [h11]; rfl]
    exact ⟨(0, mm true (ab x.1) (ab x.2)), acc2 k (0, mm true (ab x.1) (ab x.2)), fun _ => rfl⟩
  rw [if_neg h10, if_neg h11]
  by_cases h3 : o.1 = 3
  · rw [show (o.1 == 3) = true by simpa using h3, if_pos h3]
    exact ⟨_, acc2 k (x.1 + y.1, x.2 + y.2), fun _ => rfl⟩
  rw [show (o.1 == 3) = false by simpa using h3, if_neg h3, cond_false]
  by_cases h4 : o.1 = 4
  · rw [show (o.1 == 4) = true by simpa using h4, if_pos h4]
    exact ⟨_, acc2 k (x.1 - y.2, x.2 - y.1), fun _ => rfl⟩
  rw [show (o.1 == 4) = false by simpa using h4, if_neg h4, cond_false]
  by_cases h5 : o.1 = 5
  · rw [show (o.1 == 5) = true by simpa using h5, if_pos h5, cond_true]
    unfold tilefarmref14_product
    rw [rtimes_ok k x1 y1, rtimes_ok k x1 y2, rtimes_ok k x2 y1, rtimes_ok k x2 y2]
    have big : ∀ u v : Int, ¬ ab (u * v) ≤ 17592186044416 → tms u v = 17592186044417 := fun u v h => by rw [tms_eq, if_neg h]
    have t1 := mm_t_ge (tms x.1 y.1) (tms x.1 y.2)
    have t2 := mm_t_ge (mm true (tms x.1 y.1) (tms x.1 y.2)) (tms x.2 y.1)
    have t3 := mm_t_ge (mm true (mm true (tms x.1 y.1) (tms x.1 y.2)) (tms x.2 y.1)) (tms x.2 y.2)
    have no : (tms x.1 y.1 = 17592186044417 ∨ tms x.1 y.2 = 17592186044417 ∨ tms x.2 y.1 = 17592186044417 ∨ tms x.2 y.2 = 17592186044417) → ¬ inP (mm false (mm false (mm false (tms x.1 y.1) (tms x.1 y.2)) (tms x.2 y.1)) (tms x.2 y.2), mm true (mm true (mm true (tms x.1 y.1) (tms x.1 y.2)) (tms x.2 y.1)) (tms x.2 y.2)) := by
      rintro h ⟨_, h2⟩
      unfold inM at h2
      simp only at h2
      omega
    by_cases q1 : ab (x.1 * y.1) ≤ 17592186044416
    · by_cases q2 : ab (x.1 * y.2) ≤ 17592186044416
      · by_cases q3 : ab (x.2 * y.1) ≤ 17592186044416
        · by_cases q4 : ab (x.2 * y.2) ≤ 17592186044416
          · rw [tms_of q1, tms_of q2, tms_of q3, tms_of q4]
            simp only [Option.bind_some, decide_eq_true q1, decide_eq_true q2, decide_eq_true q3, decide_eq_true q4, cond_true, if_pos q1, if_pos q2, if_pos q3, if_pos q4]
            exact ⟨_, acc2 k (_, _), fun _ => rfl⟩
          · have hno := no (.inr (.inr (.inr (big _ _ q4))))
            rw [decide_eq_false hno]
            simp only [Option.bind_some, decide_eq_true q1, decide_eq_true q2, decide_eq_true q3, decide_eq_false q4, cond_true, cond_false]
            exact ⟨_, rfl, fun h => absurd h hno⟩
        · have hno := no (.inr (.inr (.inl (big _ _ q3))))
          rw [decide_eq_false hno]
          simp only [Option.bind_some, decide_eq_true q1, decide_eq_true q2, decide_eq_false q3, cond_true, cond_false]
          exact ⟨_, rfl, fun h => absurd h hno⟩
      · have hno := no (.inr (.inl (big _ _ q2)))
        rw [decide_eq_false hno]
        simp only [Option.bind_some, decide_eq_true q1, decide_eq_false q2, cond_true, cond_false]
        exact ⟨_, rfl, fun h => absurd h hno⟩
    · have hno := no (.inl (big _ _ q1))
      rw [decide_eq_false hno]
      simp only [Option.bind_some, decide_eq_false q1, cond_false]
      exact ⟨_, rfl, fun h => absurd h hno⟩
  rw [show (o.1 == 5) = false by simpa using h5, if_neg h5, cond_false]
  by_cases h6 : o.1 = 6
  · rw [show (o.1 == 6) = true by simpa using h6, if_pos h6]
    exact ⟨_, acc2 k (mm false x.1 y.1, mm false x.2 y.2), fun _ => rfl⟩
  rw [show (o.1 == 6) = false by simpa using h6, if_neg h6, cond_false]
  by_cases h7 : o.1 = 7
  · rw [show (o.1 == 7) = true by simpa using h7, if_pos h7]
    exact ⟨_, acc2 k (mm true x.1 y.1, mm true x.2 y.2), fun _ => rfl⟩
  rw [show (o.1 == 7) = false by simpa using h7, if_neg h7, cond_false]
  by_cases h8 : o.1 = 8
  · rw [show (o.1 == 8) = true by simpa using h8, if_pos h8]
    exact ⟨_, acc2 k (0, mm true (x.2 - y.1) (y.2 - x.1)), fun _ => rfl⟩
  have h9 : o.1 = 9 := by omega
  rw [show (o.1 == 8) = false by simpa using h8, if_neg h8, cond_false, show (o.1 == 9) = true by simpa using h9]
  exact ⟨_, acc2 k (0 - mm true (ab x.1) (ab x.2), mm true (ab x.1) (ab x.2)), fun _ => rfl⟩
end Go.Lf.T

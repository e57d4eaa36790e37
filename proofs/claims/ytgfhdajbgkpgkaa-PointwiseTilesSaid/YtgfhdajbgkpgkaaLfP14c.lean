import Derived.Test.YtgfhdajbgkpgkaaLfP14b
/-! Lf: pointwise: what an operation comes to, in plain words. -/
set_option linter.unusedVariables false
set_option maxRecDepth 100000
namespace Go.Lf.T
open Go Go.Lf

def ab (n : Int) : Int := if n < 0 then -n else n
def tms (x y : Int) : Int := if x ≠ 0 ∧ 17592186044416 / ab x < ab y then 17592186044417 else x * y
def dvd' (x y : Int) : Int := if y = 0 then 0 else if x.tmod y ≠ 0 ∧ ¬ (x < 0 ↔ y < 0) then x.tdiv y - 1 else x.tdiv y
def shf (x s : Int) : Int := if s = 0 then x else (x + 2 ^ (s.toNat - 1)).fdiv (2 ^ s.toNat)
def res (c x y : Int) : Int :=
  if c = 3 then x + y else if c = 4 then x - y else if c = 5 then tms x y else if c = 6 then mm false x y else if c = 7 then mm true x y else if c = 8 then ab (x - y) else dvd' x y
def estep (a b : Int) (o : Int × Int) (x y : Int) : Int :=
  if o.1 = 0 then a else if o.1 = 1 then b else if o.1 = 2 then o.2 else if o.1 = 10 then shf x o.2 else if o.1 = 11 then ab x else res o.1 x y

theorem ab_nonneg (n : Int) : 0 ≤ ab n := by unfold ab; split <;> omega
theorem ab_le {n m : Int} : ab n ≤ m ↔ -m ≤ n ∧ n ≤ m := by unfold ab; split <;> omega
theorem ab_zero {n : Int} : ab n = 0 ↔ n = 0 := by unfold ab; split <;> omega
theorem ab_mul (x y : Int) : ab (x * y) = ab x * ab y := by
  unfold ab
  by_cases hx : x < 0 <;> by_cases hy : y < 0
  · have := Int.mul_pos_of_neg_of_neg hx hy
    rw [if_neg (by omega), if_pos hx, if_pos hy, Int.neg_mul_neg]
  · rw [if_pos hx, if_neg hy]
    by_cases h0 : y = 0
    · subst h0; simp
    · have := Int.mul_neg_of_neg_of_pos hx (by omega : 0 < y)
      rw [if_pos this, Int.neg_mul]
  · rw [if_neg hx, if_pos hy]
    by_cases h0 : x = 0
    · subst h0; simp
    · have := Int.mul_neg_of_pos_of_neg (by omega : 0 < x) hy
      rw [if_pos this, Int.mul_neg]
  · have := Int.mul_nonneg (by omega : 0 ≤ x) (by omega : 0 ≤ y)
    rw [if_neg (by omega), if_neg hx, if_neg hy]

theorem inM_ab {n : Int} : inM n ↔ ab n ≤ 17592186044416 := by unfold inM; rw [ab_le]

theorem abs_eq (k : Nat) {n : Int} (h1 : -9223372036854775808 < n) (h2 : n < 9223372036854775808) : pointwise_abs k n = some ((ab n, ()), ()) := abs_ok k h1 h2

theorem div_le' {x : Int} (hx : x ≠ 0) : 0 ≤ 17592186044416 / ab x ∧ 17592186044416 / ab x ≤ 17592186044416 := by
  have h := ab_nonneg x
  exact ⟨Int.ediv_nonneg (by omega) h, Int.ediv_le_self _ (by omega)⟩

theorem tms_in {x y : Int} (h : ¬ (x ≠ 0 ∧ 17592186044416 / ab x < ab y)) : inM (x * y) := by
  rw [inM_ab, ab_mul]
  by_cases hx : x = 0
  · subst hx; simp [ab]
  · have h1 : ab y ≤ 17592186044416 / ab x := by
      refine Int.not_lt.1 fun h2 => h ⟨hx, h2⟩
    have h0 : 0 < ab x := by have := ab_nonneg x; have := mt ab_zero.1 hx; omega
    have := (Int.le_ediv_iff_mul_le h0).1 h1
    rw [Int.mul_comm]; exact this

theorem times_eq (k : Nat) {x y : Int} (hx : inM x) (hy : inM y) : pointwise_times k x y = some ((tms x y, ()), ()) := by
  unfold inM at hx hy
  unfold pointwise_times
  rw [abs_eq k (n := y) (by omega) (by omega), abs_eq k (n := x) (by omega) (by omega)]
  unfold tms
  by_cases h : x = 0
  · subst h
    simp
    exact w64_id (by omega) (by omega)
  · have e : (x != 0) = true := by simpa using h
    have h0 : ab x ≠ 0 := mt ab_zero.1 h
    obtain ⟨d1, d2⟩ := div_le' h
    have hq : w64 ((17592186044416 : Int).tdiv (ab x)) = 17592186044416 / ab x := by
      rw [Int.tdiv_eq_ediv_of_nonneg (by omega)]
      exact w64_id (by omega) (by omega)
    simp only [e, cond_true, Option.bind_some, if_neg h0, hq]
    by_cases hg : 17592186044416 / ab x < ab y
    · rw [decide_eq_true hg, if_pos ⟨h, hg⟩]; rfl
    · have := tms_in (x := x) (y := y) fun hh => hg hh.2
      unfold inM at this
      rw [decide_eq_false hg, if_neg fun hh => hg hh.2, cond_false, w64_id (by omega) (by omega)]

theorem tdiv_ab {x y : Int} (hy : y ≠ 0) : ab (x.tdiv y) ≤ ab x := by
  have h1 : (x.tdiv y).natAbs ≤ x.natAbs := by rw [Int.natAbs_tdiv]; exact Nat.div_le_self _ _
  unfold ab
  split <;> split <;> omega

theorem dvd_ab {x y : Int} : ab (dvd' x y) ≤ ab x := by
  unfold dvd'
  by_cases hy : y = 0
  · rw [if_pos hy]; exact ab_nonneg x
  · rw [if_neg hy]
    have hq := tdiv_ab (x := x) hy
    split
    · rename_i h
      have hx : x ≠ 0 := by intro e; subst e; exact h.1 (by simp)
      have hlt : (x.tdiv y).natAbs < x.natAbs := by
        rw [Int.natAbs_tdiv]
        refine Nat.div_lt_self (by omega) ?_
        have : y.natAbs ≠ 1 := by
          intro e
          apply h.1
          rcases Int.natAbs_eq y with e' | e' <;> rw [e] at e' <;> rw [e'] <;> simp
        omega
      unfold ab
      split <;> split <;> omega
    · exact hq

theorem divided_eq (k : Nat) {x y : Int} (hx : inM x) : pointwise_divided k x y = some ((dvd' x y, ()), ()) := by
  unfold pointwise_divided dvd'
  by_cases hy : y = 0
  · subst hy; rfl
  · have e : (y == 0) = false := by simpa using hy
    have hq := tdiv_ab (x := x) hy
    have hx' := inM_ab.1 hx
    have hq2 : -17592186044416 ≤ x.tdiv y ∧ x.tdiv y ≤ 17592186044416 := ab_le.1 (by omega)
    simp only [e, cond_false, if_neg hy]
    rw [w64_id (n := x.tdiv y) (by omega) (by omega), w64_id (n := x.tdiv y - 1) (by omega) (by omega)]
    by_cases hm : x.tmod y = 0
    · have e : (x.tmod y != 0) = false := by simpa using hm
      rw [e, if_neg fun h => h.1 hm]; rfl
    · have e : (x.tmod y != 0) = true := by simpa using hm
      rw [e]
      by_cases h1 : x < 0 <;> by_cases h2 : y < 0 <;> simp [h1, h2, hm]

theorem result_eq (k : Nat) (c : Int) {x y : Int} (hx : inM x) (hy : inM y) : pointwise_result k c x y = some ((res c x y, ()), ()) := by
  have hx' := hx; have hy' := hy
  unfold inM at hx' hy'
  unfold pointwise_result res
  rw [times_eq k hx hy, divided_eq k hx, w64_id (n := x + y) (by omega) (by omega), w64_id (n := x - y) (by omega) (by omega), abs_eq k (n := x - y) (by omega) (by omega)]
  by_cases h3 : c = 3
  · subst h3; rfl
  by_cases h4 : c = 4
  · subst h4; rfl
  by_cases h5 : c = 5
  · subst h5; rfl
  by_cases h6 : c = 6
  · subst h6; rfl
  by_cases h7 : c = 7
  · subst h7; rfl
  by_cases h8 : c = 8
  · subst h8; rfl
  have e3 : (c == 3) = false := by simpa using h3
  have e4 : (c == 4) = false := by simpa using h4
  have e5 : (c == 5) = false := by simpa using h5
  have e6 : (c == 6) = false := by simpa using h6
  have e7 : (c == 7) = false := by simpa using h7
  have e8 : (c == 8) = false := by simpa using h8
  simp [e3, e4, e5, e6, e7, e8, h3, h4, h5, h6, h7, h8]

theorem fsum_eq (k : Nat) (n : Int) : fixed_sum k n = some ((decide (inM n), ()), ()) := by
  unfold fixed_sum
  by_cases h : -17592186044416 ≤ n <;> simp [h, inM]

theorem pow_small {s : Nat} (h : s ≤ 23) : (1 : Int) ≤ 2 ^ s ∧ (2 : Int) ^ s ≤ 8388608 := by
  have h1 : 2 ^ s ≤ 2 ^ 23 := Nat.pow_le_pow_right (by omega) h
  have h2 : 1 ≤ 2 ^ s := Nat.one_le_two_pow
  have e : ((2 ^ s : Nat) : Int) = (2 : Int) ^ s := by simp
  omega

theorem shift_eq (k : Nat) {x s : Int} (hx : inM x) (h0 : 0 ≤ s) (h1 : s ≤ 24) : fixed_Shift k x s = some ((shf x s, ()), ()) := by
  have hx' := hx
  unfold inM at hx'
  unfold fixed_Shift shf
  rw [fsum_eq, decide_eq_true hx]
  simp only [Option.bind_some, Bool.not_true, cond_false]
  rw [decide_eq_false (by omega), decide_eq_false (by omega)]
  simp only [cond_false]
  by_cases hs : s = 0
  · subst hs; rfl
  · have e : (s == 0) = false := by simpa using hs
    rw [e, cond_false, if_neg hs, w64_id (n := s - 1) (by omega) (by omega), if_neg (by omega), if_neg (by omega)]
    have hm1 : min (s - 1).toNat IntKind.i64.bits = s.toNat - 1 := by
      show min (s - 1).toNat 64 = s.toNat - 1
      omega
    have hm2 : min s.toNat IntKind.i64.bits = s.toNat := by
      show min s.toNat 64 = s.toNat
      omega
    have hp := pow_small (s := s.toNat - 1) (by omega)
    rw [hm1, hm2, Int.one_mul, w64_id (n := (2 : Int) ^ (s.toNat - 1)) (by omega) (by omega), w64_id (n := x + 2 ^ (s.toNat - 1)) (by omega) (by omega)]

theorem shf_ab {x s : Int} (h0 : 0 ≤ s) (h1 : s ≤ 24) : ab (shf x s) ≤ ab x := by
  unfold shf
  by_cases hs : s = 0
  · rw [if_pos hs]; omega
  · rw [if_neg hs]
    obtain ⟨n, hn⟩ : ∃ n, s.toNat = n + 1 := ⟨s.toNat - 1, by omega⟩
    rw [hn, Nat.add_sub_cancel, Int.pow_succ]
    have hp := pow_small (s := n) (by omega)
    generalize (2 : Int) ^ n = p at *
    rw [Int.fdiv_eq_ediv_of_nonneg _ (by omega)]
    have h2 := Int.mul_ediv_add_emod (x + p) (p * 2)
    have h3 := Int.emod_nonneg (x + p) (by omega : p * 2 ≠ 0)
    have h4 := Int.emod_lt_of_pos (x + p) (by omega : 0 < p * 2)
    generalize (x + p) / (p * 2) = q at *
    generalize (x + p) % (p * 2) = m at *
    -- x + p = 2 p q + m, 0 ≤ m < 2 p
    have e : p * 2 * q = p * q + p * q := by rw [Int.mul_assoc, show (2 : Int) * q = q + q from by omega, Int.mul_add]
    rw [e] at h2
    unfold ab
    by_cases hq : 1 ≤ q
    · have : q ≤ p * q := by
        have := Int.mul_le_mul_of_nonneg_right hp.1 (by omega : 0 ≤ q)
        omega
      have : p ≤ p * q := by
        have := Int.mul_le_mul_of_nonneg_left hq (by omega : 0 ≤ p)
        omega
      split <;> split <;> omega
    · by_cases hq0 : q = 0
      · subst hq0; simp; split <;> omega
      · have : p * q ≤ q := by
          have := Int.mul_le_mul_of_nonpos_right hp.1 (by omega : q ≤ 0)
          omega
        have : p * q ≤ -p := by
          have := Int.mul_le_mul_of_nonneg_left (by omega : q ≤ -1) (by omega : 0 ≤ p)
          omega
        split <;> split <;> omega
end Go.Lf.T

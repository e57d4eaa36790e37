import Derived.Test.YtagpgomkblgooaaLfSh15
import Derived.KernelRfl
/-! Lf: what was shown of functions, for another chapter. -/
set_option linter.unusedVariables false
set_option maxRecDepth 100000
namespace Go.Lf.T
open Go Go.Lf
theorem w64_id {n : Int} (h1 : -9223372036854775808 ≤ n) (h2 : n < 9223372036854775808) : w64 n = n := by
  unfold w64 IntKind.wrap
  simp [IntKind.bits, IntKind.signed] <;> omega
theorem tmod_gt (a m : Int) (h : 0 < m) : -m < a.tmod m := by
  by_cases h0 : 0 ≤ a
  · have := Int.tmod_nonneg m h0; omega
  · have h1 := Int.tmod_lt_of_pos (-a) h
    rw [Int.neg_tmod] at h1
    omega
theorem mod_ok (k : Nat) (a m : Int) (h1 : 0 < m) (h2 : m ≤ 4611686018427387904) : ∃ u, tilefarmgen_Mod k a m = some ((u, ()), ()) ∧ 0 ≤ u ∧ u < m := by
  have hlt := Int.tmod_lt_of_pos a h1
  have hgt := tmod_gt a m h1
  unfold tilefarmgen_Mod
  rw [if_neg (by omega)]
  by_cases h : a.tmod m < 0
  · refine ⟨a.tmod m + m, ?_, by omega, by omega⟩
    simp only [h, decide_true, cond]
    rw [w64_id (by omega) (by omega)]
  · refine ⟨a.tmod m, ?_, by omega, by omega⟩
    simp only [h, decide_false, cond]
theorem sum_ok (k : Nat) {n : Int} (h1 : -17592186044416 ≤ n) (h2 : n ≤ 17592186044416) : pointwise_sum k n = some ((true, ()), ()) := by
  simp [pointwise_sum, pointwise_between, h1, h2]
theorem abs_ok (k : Nat) {n : Int} (h1 : -9223372036854775808 < n) (h2 : n < 9223372036854775808) : pointwise_abs k n = some ((if n < 0 then -n else n, ()), ()) := by
  unfold pointwise_abs mm
  rw [w64_id (by omega) (by omega)]
  simp only
  congr 2
  split <;> split <;> first | rfl | omega | simp only [Prod.mk.injEq, and_true]; omega
def inM (n : Int) : Prop := -17592186044416 ≤ n ∧ n ≤ 17592186044416
instance (n : Int) : Decidable (inM n) := inferInstanceAs (Decidable (_ ∧ _))
def tk (c : Int) : Nat := if c = 0 ∨ c = 1 ∨ c = 2 then 0 else if c = 10 ∨ c = 11 then 1 else 2
def argB (o : Int × Int) : Bool := if o.1 = 2 then decide (-4294967296 ≤ o.2 ∧ o.2 ≤ 4294967296) else if o.1 = 10 then decide (0 ≤ o.2 ∧ o.2 ≤ 24) else decide (o.2 = 0)
theorem tk_le (c : Int) : tk c ≤ 2 := by unfold tk; split <;> (try split) <;> omega
theorem bt_ok (k : Nat) (n a b : Int) : pointwise_between k n a b = some ((decide (a ≤ n ∧ n ≤ b), ()), ()) := by
  unfold pointwise_between
  by_cases h : a ≤ n
  · simp [h]
  · simp [h]
theorem sum_eq (k : Nat) (n : Int) : pointwise_sum k n = some ((decide (inM n), ()), ()) := by
  unfold pointwise_sum
  rw [bt_ok]
  rfl
theorem takes_ok (k : Nat) (c : Int) : pointwise_takes k c = some ((((tk c : Nat) : Int), ()), ()) := by
  unfold pointwise_takes tk
  by_cases h0 : c = 0
  · subst h0; rfl
  by_cases h1 : c = 1
  · subst h1; rfl
  by_cases h2 : c = 2
  · subst h2; rfl
  by_cases h10 : c = 10
  · subst h10; rfl
  by_cases h11 : c = 11
  · subst h11; rfl
  have e0 : (c == 0) = false := by simpa using h0
  have e1 : (c == 1) = false := by simpa using h1
  have e2 : (c == 2) = false := by simpa using h2
  have e10 : (c == 10) = false := by simpa using h10
  have e11 : (c == 11) = false := by simpa using h11
  simp only [e0, e1, e2, e10, e11, cond]
  rw [if_neg (by omega), if_neg (by omega)]
  rfl
theorem arg_ok (k : Nat) (o : Int × Int) : pointwise_argument k o = some ((argB o, ()), ()) := by
  unfold pointwise_argument argB
  by_cases h2 : o.1 = 2
  · have e : (o.1 == 2) = true := by simpa using h2
    rw [e, if_pos h2, bt_ok]; rfl
  · have e : (o.1 == 2) = false := by simpa using h2
    rw [e, if_neg h2]
    by_cases h10 : o.1 = 10
    · have e : (o.1 == 10) = true := by simpa using h10
      simp [h10, bt_ok]
    · have e : (o.1 == 10) = false := by simpa using h10
      rw [e, if_neg h10]
      by_cases h : o.2 = 0 <;> simp [h]
/-- What Valid's loop does. -/
def vgo {R : Type} (two : Bool) (e0 e1 : Int → Option R) : List (Int × Int) → Int → Option R
  | [], h => e1 h
  | o :: l, h => if ¬ (0 ≤ o.1 ∧ o.1 ≤ 11) ∨ (o.1 = 1 ∧ two = false) ∨ h < tk o.1 then e0 1 else if argB o = false then e0 10 else vgo two e0 e1 l (h + (1 - tk o.1))
theorem w64_cast (n : Nat) (h : n < 9223372036854775808) : w64 ((n : Int)) = n := w64_id (by omega) (by omega)
theorem w64_succ (n : Nat) (h : n < 9223372036854775807) : w64 ((n : Int) + 1) = ((n + 1 : Nat) : Int) := by rw [w64_id (by omega) (by omega)]; rfl
theorem valid_loop {R : Type} (k : Nat) (two : Bool) (l : List (Int × Int)) (e0 e1 : Int → Option R) (hl : l.length ≤ 4294967296) : ∀ (n i j : Nat) (h : Int), l.length - i = n → i ≤ l.length → n < j → -4294967296 * 2 ≤ h → h ≤ i →
    pointwise_Valid.loop0 k j two h l l.length i e0 e1 = vgo two e0 e1 (l.drop i) h := by
  intro n
  induction n with
  | zero =>
    intro i j h hn hi hj h1 h2
    have e : i = l.length := by omega
    obtain ⟨j, rfl⟩ : ∃ j', j = j' + 1 := ⟨j - 1, by omega⟩
    rw [pointwise_Valid.loop0_s, e, decide_eq_false (by omega), List.drop_length]
    rfl
  | succ n ih =>
    intro i j h hn hi hj h1 h2
    obtain ⟨j, rfl⟩ : ∃ j', j = j' + 1 := ⟨j - 1, by omega⟩
    have hlt : i < l.length := by omega
    rw [pointwise_Valid.loop0_s, decide_eq_true (by omega), List.drop_eq_getElem_cons hlt]
    simp only [cond]
    rw [if_pos (by omega), Int.toNat_natCast, List.getElem?_eq_getElem hlt]
    generalize hgo : l[i] = o
    simp only [Option.bind, bt_ok, takes_ok, arg_ok]
    have htk := tk_le o.1
    unfold vgo
    by_cases hb : 0 ≤ o.1 ∧ o.1 ≤ 11
    · rw [decide_eq_true hb]
      have next : argB o = true → ¬ h < tk o.1 → pointwise_Valid.loop0 k j two (w64 (h + (w64 (1 - ((tk o.1 : Nat) : Int))))) l l.length (w64 ((i : Int) + 1)) e0 e1 = vgo two e0 e1 (l.drop (i + 1)) (h + (1 - tk o.1)) := by
        intro _ hh
        rw [w64_succ i (by omega), w64_id (n := 1 - ((tk o.1 : Nat) : Int)) (by omega) (by omega), w64_id (n := h + (1 - ((tk o.1 : Nat) : Int))) (by omega) (by omega)]
        exact ih (i + 1) j _ (by omega) (by omega) (by omega) (by omega) (by omega)
      by_cases h11 : o.1 = 1
      · have e : (o.1 == 1) = true := by simpa using h11
        rw [e]
        cases two with
        | false => simp [h11]
        | true =>
          by_cases hh : h < tk o.1
          · simp [hb, hh]
          · cases ha : argB o with
            | false => simp [hb, hh]
            | true =>
              have := next ha hh
              simp [hb, hh, this]
      · have e : (o.1 == 1) = false := by simpa using h11
        rw [e]
        by_cases hh : h < tk o.1
        · simp [hb, hh]
        · cases ha : argB o with
          | false => simp [hb, hh, h11]
          | true =>
            have := next ha hh
            simp [hb, hh, h11, this]
    · rw [decide_eq_false hb, if_pos (.inl hb)]
      rfl
/-- Which programs are valid. -/
def vcode (l : List (Int × Int)) (two : Bool) : Int :=
  if 1 ≤ l.length ∧ l.length ≤ 32 then (vgo (R := Int) two some (fun h => some (if h ≠ 1 then 1 else 0)) l 0).getD 0 else 9
theorem vgo_map {R R' : Type} (two : Bool) (f : R → Option R') (e0 e1 : Int → Option R) : ∀ (l : List (Int × Int)) (h : Int), (vgo two e0 e1 l h).bind f = vgo two (fun x => (e0 x).bind f) (fun x => (e1 x).bind f) l h
  | [], h => rfl
  | o :: l, h => by
    unfold vgo
    split
    · rfl
    · split
      · rfl
      · exact vgo_map two f e0 e1 l _
theorem vgo_some (two : Bool) : ∀ (l : List (Int × Int)) (h : Int), ∃ c, vgo (R := Int) two some (fun h => some (if h ≠ 1 then 1 else 0)) l h = some c
  | [], h => ⟨_, rfl⟩
  | o :: l, h => by
    unfold vgo
    split
    · exact ⟨_, rfl⟩
    · split
      · exact ⟨_, rfl⟩
      · exact vgo_some two l _
theorem valid_ok (k : Nat) (l : List (Int × Int)) (two : Bool) (hk : 33 ≤ k) : pointwise_Valid k l two = some ((vcode l two, ()), ()) := by
  unfold pointwise_Valid vcode
  rw [bt_ok]
  simp only [Option.bind]
  by_cases hl : 1 ≤ l.length ∧ l.length ≤ 32
  · rw [decide_eq_true (by omega), if_pos hl]
    simp only [Bool.not_true, cond_false]
    have := valid_loop (R := (Int × Unit) × Unit) k two l (fun z => some ((z, ()), ())) (fun z => (bif z != 1 then (some ((1, ()), ())) else (some ((0, ()), ())))) (by omega) l.length 0 k 0 rfl (by omega) (by omega) (by omega) (by omega)
    rw [show ((0 : Nat) : Int) = 0 from rfl] at this
    rw [this, List.drop_zero]
    obtain ⟨c, hc⟩ := vgo_some two l 0
    rw [hc]
    have hm := vgo_map two (fun c => some ((c, ()), ())) some (fun h => some (if h ≠ 1 then 1 else 0)) l 0
    rw [hc] at hm
    have e : (fun x : Int => (some (if x ≠ 1 then (1 : Int) else 0)).bind fun c => some ((c, ()), ())) = fun z => (bif z != 1 then (some ((1, ()), ())) else (some ((0, ()), ()))) := by
      funext z
      by_cases h : z = 1
      · subst h; rfl
      · have e : (z != 1) = true := by simpa using h
        rw [e, if_pos h]; rfl
    rw [e] at hm
    exact hm.symm
  · rw [decide_eq_false (by omega), if_neg hl]
    rfl
/-- What is needed so that a program runs: enough values for each operation. -/
def hOk : List (Int × Int) → Nat → Prop
  | [], h => h = 1
  | o :: l, h => 0 ≤ o.1 ∧ o.1 ≤ 11 ∧ tk o.1 ≤ h ∧ argB o = true ∧ hOk l (h + 1 - tk o.1)
theorem vgo_hOk (two : Bool) : ∀ (l : List (Int × Int)) (h : Nat), vgo (R := Int) two some (fun h => some (if h ≠ 1 then 1 else 0)) l h = some 0 → hOk l h
  | [], h, hv => by
    have hv' : (some (if (h : Int) ≠ 1 then 1 else 0) : Option Int) = some 0 := hv
    injection hv' with hv'
    by_cases e : (h : Int) = 1
    · show h = 1; omega
    · rw [if_pos e] at hv'; cases hv'
  | o :: l, h, hv => by
    unfold vgo at hv
    split at hv
    · cases hv
    · rename_i hc
      split at hv
      · cases hv
      · rename_i ha
        have h1 : ¬ ((h : Int) < tk o.1) := fun e => hc (.inr (.inr e))
        have h2 : 0 ≤ o.1 ∧ o.1 ≤ 11 := Classical.byContradiction fun e => hc (.inl e)
        have htk : tk o.1 ≤ h := by omega
        refine ⟨h2.1, h2.2, htk, by simpa using ha, vgo_hOk two l _ ?_⟩
        rw [show ((h + 1 - tk o.1 : Nat) : Int) = (h : Int) + (1 - tk o.1) from by omega]
        exact hv
theorem vcode_hOk {l : List (Int × Int)} {two : Bool} (h : vcode l two = 0) : 1 ≤ l.length ∧ l.length ≤ 32 ∧ hOk l 0 := by
  unfold vcode at h
  split at h
  · rename_i hl
    obtain ⟨c, hc⟩ := vgo_some two l 0
    rw [hc] at h
    have : c = 0 := h
    subst this
    exact ⟨hl.1, hl.2, vgo_hOk two l 0 hc⟩
  · cases h
def ab (n : Int) : Int := if n < 0 then -n else n
def tms (x y : Int) : Int := if x ≠ 0 ∧ 17592186044416 / ab x < ab y then 17592186044417 else x * y
def dvd' (x y : Int) : Int := if y = 0 then 0 else if x.tmod y ≠ 0 ∧ ¬ (x < 0 ↔ y < 0) then x.tdiv y - 1 else x.tdiv y
def shf (x s : Int) : Int := if s = 0 then x else (x + 2 ^ (s.toNat - 1)).fdiv (2 ^ s.toNat)
def res (c x y : Int) : Int :=
  if c = 3 then x + y else if c = 4 then x - y else if c = 5 then tms x y else if c = 6 then mm false x y else if c = 7 then mm true x y else if c = 8 then ab (x - y) else dvd' x y
def estep (a b : Int) (o : Int × Int) (x y : Int) : Int :=
  if o.1 = 0 then a else if o.1 = 1 then b else if o.1 = 2 then o.2 else if o.1 = 10 then shf x o.2 else if o.1 = 11 then ab x else res o.1 x y
theorem ab_nonneg (n : Int) : 0 ≤ ab n := by unfold ab; split <;> omega
theorem ab_le {n m : Int} : ab n ≤ m ↔ -m ≤ n ∧ n ≤ m := by unfold ab; split <;> omega
theorem ab_zero {n : Int} : ab n = 0 ↔ n = 0 := by unfold ab; split <;> omega
theorem ab_mul (x y : Int) : ab (x * y) = ab x * ab y := by
  unfold ab
  by_cases hx : x < 0 <;> by_cases hy : y < 0
  · have := Int.mul_pos_of_neg_of_neg hx hy
    rw [if_neg (by omega), if_pos hx, if_pos hy, Int.neg_mul_neg]
  · rw [if_pos hx, if_neg hy]
    by_cases h0 : y = 0
    · subst h0; simp
    · have := Int.mul_neg_of_neg_of_pos hx (by omega : 0 < y)
      rw [if_pos this, Int.neg_mul]
  · rw [if_neg hx, if_pos hy]
    by_cases h0 : x = 0
    · subst h0; simp
    · have := Int.mul_neg_of_pos_of_neg (by omega : 0 < x) hy
      rw [if_pos this, Int.mul_neg]
  · have := Int.mul_nonneg (by omega : 0 ≤ x) (by omega : 0 ≤ y)
    rw [if_neg (by omega), if_neg hx, if_neg hy]
theorem inM_ab {n : Int} : inM n ↔ ab n ≤ 17592186044416 := by unfold inM; rw [ab_le]
theorem abs_eq (k : Nat) {n : Int} (h1 : -9223372036854775808 < n) (h2 : n < 9223372036854775808) : pointwise_abs k n = some ((ab n, ()), ()) := abs_ok k h1 h2
theorem div_le' {x : Int} (hx : x ≠ 0) : 0 ≤ 17592186044416 / ab x ∧ 17592186044416 / ab x ≤ 17592186044416 := by
  have h := ab_nonneg x
  exact ⟨Int.ediv_nonneg (by omega) h, Int.ediv_le_self _ (by omega)⟩
theorem tms_in {x y : Int} (h : ¬ (x ≠ 0 ∧ 17592186044416 / ab x < ab y)) : inM (x * y) := by
  rw [inM_ab, ab_mul]
  by_cases hx : x = 0
  · subst hx; simp [ab]
  · have h1 : ab y ≤ 17592186044416 / ab x := by
      refine Int.not_lt.1 fun h2 => h ⟨hx, h2⟩
    have h0 : 0 < ab x := by have := ab_nonneg x; have := mt ab_zero.1 hx; omega
    have := (Int.le_ediv_iff_mul_le h0).1 h1
    rw [Int.mul_comm]; exact this
theorem times_eq (k : Nat) {x y : Int} (hx : inM x) (hy : inM y) : pointwise_times k x y = some ((tms x y, ()), ()) := by
  unfold inM at hx hy
  unfold pointwise_times
  rw [abs_eq k (n := y) (by omega) (by omega), abs_eq k (n := x) (by omega) (by omega)]
  unfold tms
  by_cases h : x = 0
  · subst h
    simp
    exact w64_id (by omega) (by omega)
  · have e : (x != 0) = true := by simpa using h
    have h0 : ab x ≠ 0 := mt ab_zero.1 h
    obtain ⟨d1, d2⟩ := div_le' h
    have hq : w64 ((17592186044416 : Int).tdiv (ab x)) = 17592186044416 / ab x := by
      rw [Int.tdiv_eq_ediv_of_nonneg (by omega)]
      exact w64_id (by omega) (by omega)
    simp only [e, cond_true, Option.bind_some, if_neg h0, hq]
    by_cases hg : 17592186044416 / ab x < ab y
    · rw [decide_eq_true hg, if_pos ⟨h, hg⟩]; rfl
    · have := tms_in (x := x) (y := y) fun hh => hg hh.2
      unfold inM at this
      rw [decide_eq_false hg, if_neg fun hh => hg hh.2, cond_false, w64_id (by omega) (by omega)]
theorem tdiv_ab {x y : Int} (hy : y ≠ 0) : ab (x.tdiv y) ≤ ab x := by
  have h1 : (x.tdiv y).natAbs ≤ x.natAbs := by rw [Int.natAbs_tdiv]; exact Nat.div_le_self _ _
  unfold ab
  split <;> split <;> omega
theorem dvd_ab {x y : Int} : ab (dvd' x y) ≤ ab x := by
  unfold dvd'
  by_cases hy : y = 0
  · rw [if_pos hy]; exact ab_nonneg x
  · rw [if_neg hy]
    have hq := tdiv_ab (x := x) hy
    split
    · rename_i h
      have hx : x ≠ 0 := by intro e; subst e; exact h.1 (by simp)
      have hlt : (x.tdiv y).natAbs < x.natAbs := by
        rw [Int.natAbs_tdiv]
        refine Nat.div_lt_self (by omega) ?_
        have : y.natAbs ≠ 1 := by
          intro e
          apply h.1
          rcases Int.natAbs_eq y with e' | e' <;> rw [e] at e' <;> rw [e'] <;> simp
        omega
      unfold ab
      split <;> split <;> omega
    · exact hq
theorem fsum_eq (k : Nat) (n : Int) : fixed_sum k n = some ((decide (inM n), ()), ()) := by
  unfold fixed_sum
  by_cases h : -17592186044416 ≤ n <;> simp [h, inM]
theorem pow_small {s : Nat} (h : s ≤ 23) : (1 : Int) ≤ 2 ^ s ∧ (2 : Int) ^ s ≤ 8388608 := by
  have h1 : 2 ^ s ≤ 2 ^ 23 := Nat.pow_le_pow_right (by omega) h
  have h2 : 1 ≤ 2 ^ s := Nat.one_le_two_pow
  have e : ((2 ^ s : Nat) : Int) = (2 : Int) ^ s := by simp
  omega
theorem shift_eq (k : Nat) {x s : Int} (hx : inM x) (h0 : 0 ≤ s) (h1 : s ≤ 24) : fixed_Shift k x s = some ((shf x s, ()), ()) := by
  have hx' := hx
  unfold inM at hx'
  unfold fixed_Shift shf
  rw [fsum_eq, decide_eq_true hx]
  simp only [Option.bind_some, Bool.not_true, cond_false]
  rw [decide_eq_false (by omega), decide_eq_false (by omega)]
  simp only [cond_false]
  by_cases hs : s = 0
  · subst hs; rfl
  · have e : (s == 0) = false := by simpa using hs
    rw [e, cond_false, if_neg hs, w64_id (n := s - 1) (by omega) (by omega), if_neg (by omega), if_neg (by omega)]
    have hm1 : min (s - 1).toNat IntKind.i64.bits = s.toNat - 1 := by
      show min (s - 1).toNat 64 = s.toNat - 1
      omega
    have hm2 : min s.toNat IntKind.i64.bits = s.toNat := by
      show min s.toNat 64 = s.toNat
      omega
    have hp := pow_small (s := s.toNat - 1) (by omega)
    rw [hm1, hm2, Int.one_mul, w64_id (n := (2 : Int) ^ (s.toNat - 1)) (by omega) (by omega), w64_id (n := x + 2 ^ (s.toNat - 1)) (by omega) (by omega)]
theorem shf_ab {x s : Int} (h0 : 0 ≤ s) (h1 : s ≤ 24) : ab (shf x s) ≤ ab x := by
  unfold shf
  by_cases hs : s = 0
  · rw [if_pos hs]; omega
  · rw [if_neg hs]
    obtain ⟨n, hn⟩ : ∃ n, s.toNat = n + 1 := ⟨s.toNat - 1, by omega⟩
    rw [hn, Nat.add_sub_cancel, Int.pow_succ]
    have hp := pow_small (s := n) (by omega)
    generalize (2 : Int) ^ n = p at *
    rw [Int.fdiv_eq_ediv_of_nonneg _ (by omega)]
    have h2 := Int.mul_ediv_add_emod (x + p) (p * 2)
    have h3 := Int.emod_nonneg (x + p) (by omega : p * 2 ≠ 0)
    have h4 := Int.emod_lt_of_pos (x + p) (by omega : 0 < p * 2)
    generalize (x + p) / (p * 2) = q at *
    generalize (x + p) % (p * 2) = m at *
    -- x + p = 2 p q + m, 0 ≤ m < 2 p
    have e : p * 2 * q = p * q + p * q := by rw [Int.mul_assoc, show (2 : Int) * q = q + q from by omega, Int.mul_add]
    rw [e] at h2
    unfold ab
    by_cases hq : 1 ≤ q
    · have : q ≤ p * q := by
        have := Int.mul_le_mul_of_nonneg_right hp.1 (by omega : 0 ≤ q)
        omega
      have : p ≤ p * q := by
        have := Int.mul_le_mul_of_nonneg_left hq (by omega : 0 ≤ p)
        omega
      split <;> split <;> omega
    · by_cases hq0 : q = 0
      · subst hq0; simp; split <;> omega
      · have : p * q ≤ q := by
          have := Int.mul_le_mul_of_nonpos_right hp.1 (by omega : q ≤ 0)
          omega
        have : p * q ≤ -p := by
          have := Int.mul_le_mul_of_nonneg_left (by omega : q ≤ -1) (by omega : 0 ≤ p)
          omega
        split <;> split <;> omega
/-- One operation on values, the last one at the end. -/
def eone (a b : Int) (o : Int × Int) (st : List Int) : Int := estep a b o (st.getD (st.length - tk o.1) 0) (st.getD (st.length - tk o.1 + 1) 0)
def erun {R : Type} (a b : Int) (e0 : Option R) (e1 : List Int → Option R) : List (Int × Int) → List Int → Option R
  | [], st => e1 st
  | o :: l, st => if inM (eone a b o st) then erun a b e0 e1 l (st.take (st.length - tk o.1) ++ [eone a b o st]) else e0
theorem getD_of {st : List Int} {n : Nat} (h : n < st.length) : st[n]? = some (st.getD n 0) := by
  rw [List.getElem?_eq_getElem h, List.getD_eq_getElem?_getD, List.getElem?_eq_getElem h]; rfl
/-- What a valid program comes to. -/
def rv (l : List (Int × Int)) (a b : Int) : Int × Int := (erun (R := Int × Int) a b (some (0, 11)) (fun st => some (st.getD 0 0, 0)) l []).getD (0, 0)
def ev (l : List (Int × Int)) (a b : Int) : Int × Int :=
  if vcode l true ≠ 0 then (0, vcode l true) else if 0 ≤ a ∧ a ≤ 4294967296 ∧ 0 ≤ b ∧ b ≤ 4294967296 then rv l a b else (0, 2)
theorem erun_map {R R' : Type} (a b : Int) (f : R → Option R') (e0 : Option R) (e1 : List Int → Option R) : ∀ (l : List (Int × Int)) (st : List Int), (erun a b e0 e1 l st).bind f = erun a b (e0.bind f) (fun st => (e1 st).bind f) l st
  | [], st => rfl
  | o :: l, st => by
    unfold erun
    split
    · exact erun_map a b f e0 e1 l _
    · rfl
theorem erun_some (a b : Int) : ∀ (l : List (Int × Int)) (st : List Int), ∃ c, erun (R := Int × Int) a b (some (0, 11)) (fun st => some (st.getD 0 0, 0)) l st = some c
  | [], st => ⟨_, rfl⟩
  | o :: l, st => by
    unfold erun
    split
    · exact erun_some a b l _
    · exact ⟨_, rfl⟩
theorem erun_congr {R : Type} (a b : Int) (e0 : Option R) (e1 e2 : List Int → Option R) (h : ∀ st, st.length = 1 → e1 st = e2 st) : ∀ (l : List (Int × Int)) (st : List Int), hOk l st.length → erun a b e0 e1 l st = erun a b e0 e2 l st
  | [], st, hok => h st hok
  | o :: l, st, hok => by
    obtain ⟨c1, c2, htk, harg, hrest⟩ := hok
    unfold erun
    split
    · refine erun_congr a b e0 e1 e2 h l _ ?_
      have hlen : ((st.take (st.length - tk o.1)) ++ [eone a b o st]).length = st.length - tk o.1 + 1 := by rw [List.length_append, List.length_take]; simp
      rw [hlen, show st.length - tk o.1 + 1 = st.length + 1 - tk o.1 by omega]
      exact hrest
    · rfl
def Tp (t : List Int × Int) : Prop := 0 ≤ t.2 ∧ t.2 ≤ t.1.length ∧ t.1.length ≤ 9223372036854775807
theorem next_ok (k : Nat) {t : List Int × Int} (ht : Tp t) {n : Int} (h1 : 0 < n) (h2 : n ≤ 4611686018427387904) : ∃ v t', tilefarmgen_Tape_Next k t n = some ((v, ()), (t', ())) ∧ 0 ≤ v ∧ v < n ∧ Tp t' := by
  obtain ⟨a1, a2, a3⟩ := ht
  unfold tilefarmgen_Tape_Next
  rw [decide_eq_false (by omega), cond_false]
  by_cases h : t.2 ≥ t.1.length
  · rw [decide_eq_true h, cond_true]
    exact ⟨0, t, rfl, by omega, h1, a1, a2, a3⟩
  · rw [decide_eq_false h, cond_false, w64_id (n := t.2 + 1) (by omega) (by omega), Int.add_sub_cancel, w64_id (n := t.2) (by omega) (by omega), if_pos a1]
    obtain ⟨v, hv, v1, v2⟩ := mod_ok k (t.1[t.2.toNat]'(by omega)) n h1 h2
    rw [List.getElem?_eq_getElem (by omega), Option.bind_some, hv]
    exact ⟨v, (t.1, t.2 + 1), rfl, v1, v2, show 0 ≤ t.2 + 1 by omega, show t.2 + 1 ≤ t.1.length by omega, a3⟩
theorem pick_ok (k : Nat) {t : List Int × Int} (ht : Tp t) {l : List Int} (h1 : 0 < l.length) (h2 : l.length ≤ 1000) : ∃ v t', tilefarmgen_Tape_Pick k t l = some ((v, ()), (t', ())) ∧ v ∈ l ∧ Tp t' := by
  obtain ⟨i, t', hn, i1, i2, ht'⟩ := next_ok k ht (n := (l.length : Int)) (by omega) (by omega)
  unfold tilefarmgen_Tape_Pick
  rw [hn]
  simp only [Option.bind_some]
  rw [if_pos i1, List.getElem?_eq_getElem (by omega : i.toNat < l.length)]
  exact ⟨_, t', rfl, List.getElem_mem _, ht'⟩
def isChunk (c : List (Int × Int)) : Prop := (∃ x op, c = [(2, x), (op, 0)] ∧ -100 ≤ x ∧ x ≤ 199 ∧ 3 ≤ op ∧ op ≤ 9) ∨ (∃ s, c = [(10, s)] ∧ 0 ≤ s ∧ s ≤ 3) ∨ c = [(11, 0)]
theorem isChunk_length {c : List (Int × Int)} (h : isChunk c) : c.length ≤ 2 := by
  rcases h with ⟨x, op, rfl, _⟩ | ⟨s, rfl, _⟩ | rfl <;> simp
def ops37 : List Int := [3, 4, 5, 6, 7, 8, 9]
theorem ops37_mem {v : Int} (h : v ∈ ops37) : 3 ≤ v ∧ v ≤ 9 := by simp [ops37] at h; omega
theorem ops_loop {R : Type} (k : Nat) (e0 : List Int → Int → List (Int × Int) → Option R) : ∀ (n j : Nat) (t : List Int × Int) (l : List (Int × Int)), n < j → n ≤ 10 → Tp t → l.length + 2 * n ≤ 100 →
    ∃ (cs : List (List (Int × Int))) (t' : List Int × Int), tilefarmgen_Tape_Ops.loop0 k j n t.1 t.2 l e0 = e0 t'.1 t'.2 (l ++ cs.flatten) ∧ cs.length = n ∧ (∀ c ∈ cs, isChunk c) ∧ Tp t' := by
  intro n
  induction n with
  | zero =>
    intro j t l hj hn ht hl
    obtain ⟨j, rfl⟩ : ∃ j', j = j' + 1 := ⟨j - 1, by omega⟩
    refine ⟨[], t, ?_, rfl, fun c hc => (by cases hc), ht⟩
    rw [tilefarmgen_Tape_Ops.loop0_s, decide_eq_false (by omega), cond_false]
    simp
  | succ n ih =>
    intro j t l hj hn ht hl
    obtain ⟨j, rfl⟩ : ∃ j', j = j' + 1 := ⟨j - 1, by omega⟩
    have hw : w64 ((((n + 1 : Nat)) : Int) - 1) = (n : Int) := by rw [w64_id (by omega) (by omega)]; omega
    have go : ∀ (c : List (Int × Int)) (t1 : List Int × Int), isChunk c → Tp t1 → ∃ (cs : List (List (Int × Int))) (t' : List Int × Int), (if (l ++ c).length * 16 ≤ 140737488355328 then tilefarmgen_Tape_Ops.loop0 k j (w64 ((((n + 1 : Nat)) : Int) - 1)) t1.1 t1.2 (l ++ c) e0 else none) = e0 t'.1 t'.2 (l ++ cs.flatten) ∧ cs.length = n + 1 ∧ (∀ c ∈ cs, isChunk c) ∧ Tp t' := by
      intro c t1 hc ht1
      have hcl := isChunk_length hc
      obtain ⟨cs, t', h1, h2, h3, h4⟩ := ih j t1 (l ++ c) (by omega) (by omega) ht1 (by rw [List.length_append]; omega)
      refine ⟨c :: cs, t', ?_, by rw [List.length_cons, h2], fun x hx => ?_, h4⟩
      · rw [if_pos (by rw [List.length_append]; omega), hw, h1, List.flatten_cons, List.append_assoc]
      · rcases List.mem_cons.1 hx with rfl | hx
        · exact hc
        · exact h3 x hx
    rw [tilefarmgen_Tape_Ops.loop0_s, decide_eq_true (by omega), cond_true]
    obtain ⟨v, t1, e1, v1, v2, ht1⟩ := next_ok k (t := (t.1, t.2)) ht (n := 3) (by omega) (by omega)
    rw [e1, Option.bind_some]
    by_cases h0 : v = 0
    · have e : (v == 0) = true := by simpa using h0
      simp only [e, cond_true]
      obtain ⟨v3, t3, e3, a1, a2, ht3⟩ := next_ok k ht1 (n := 300) (by omega) (by omega)
      rw [e3, Option.bind_some]
      obtain ⟨v4, t4, e4, a3, ht4⟩ := pick_ok k ht3 (l := [w64 (v3 - 100), 0, 3, (-2)]) (by simp) (by simp)
      simp only [e4, Option.bind_some]
      obtain ⟨v5, t5, e5, a5, ht5⟩ := pick_ok k ht4 (l := [3, 4, 5, 6, 7, 8, 9]) (by simp) (by simp)
      simp only [e5, Option.bind_some]
      have hx : -100 ≤ v4 ∧ v4 ≤ 199 := by
        rw [w64_id (n := v3 - 100) (by omega) (by omega)] at a3
        simp at a3
        omega
      have hop := ops37_mem a5
      exact go [(2, v4), (v5, 0)] t5 (.inl ⟨v4, v5, rfl, hx.1, hx.2, hop.1, hop.2⟩) ht5
    · have e : (v == 0) = false := by simpa using h0
      simp only [e, cond_false]
      by_cases h1 : v = 1
      · have e : (v == 1) = true := by simpa using h1
        simp only [e, cond_true]
        obtain ⟨v3, t3, e3, a1, a2, ht3⟩ := next_ok k ht1 (n := 4) (by omega) (by omega)
        rw [e3, Option.bind_some]
        exact go [(10, v3)] t3 (.inr (.inl ⟨v3, rfl, a1, by omega⟩)) ht3
      · have e : (v == 1) = false := by simpa using h1
        simp only [e, cond_false]
        exact go [(11, 0)] t1 (.inr (.inr rfl)) ht1
theorem opsTrue (k : Nat) (hk : 5 ≤ k) {t : List Int × Int} (ht : Tp t) : ∃ (op : Int) (cs : List (List (Int × Int))) (t' : List Int × Int), tilefarmgen_Tape_Ops k t true = some (([(0, 0), (1, 0), (op, 0)] ++ cs.flatten, ()), (t', ())) ∧ 3 ≤ op ∧ op ≤ 9 ∧ cs.length ≤ 3 ∧ (∀ c ∈ cs, isChunk c) ∧ Tp t' := by
  unfold tilefarmgen_Tape_Ops
  rw [cond_true]
  obtain ⟨op, t1, e1, a1, ht1⟩ := pick_ok k ht (l := [3, 4, 5, 6, 7, 8, 9]) (by simp) (by simp)
  obtain ⟨n, t2, e2, b1, b2, ht2⟩ := next_ok k ht1 (n := 4) (by omega) (by omega)
  have hop := ops37_mem a1
  rw [e1, Option.bind_some, if_pos (by simp)]
  simp only [e2, Option.bind_some]
  obtain ⟨m, rfl⟩ : ∃ m : Nat, n = m := ⟨n.toNat, by omega⟩
  obtain ⟨cs, t', h1, h2, h3, h4⟩ := ops_loop k (fun (z8 : List Int) (z9 : Int) (z10 : List (Int × Int)) => some ((z10, ()), ((z8, z9), ()))) m k t2 ([(0, 0)] ++ [(1, 0), (op, 0)]) (by omega) (by omega) ht2 (by simp; omega)
  exact ⟨op, cs, t', h1, hop.1, hop.2, by omega, h3, h4⟩
theorem opsFalse (k : Nat) (hk : 5 ≤ k) {t : List Int × Int} (ht : Tp t) : ∃ (cs : List (List (Int × Int))) (t' : List Int × Int), tilefarmgen_Tape_Ops k t false = some (([(0, 0)] ++ cs.flatten, ()), (t', ())) ∧ cs.length ≤ 3 ∧ (∀ c ∈ cs, isChunk c) ∧ Tp t' := by
  unfold tilefarmgen_Tape_Ops
  rw [cond_false]
  obtain ⟨n, t2, e2, b1, b2, ht2⟩ := next_ok k ht (n := 4) (by omega) (by omega)
  simp only [e2, Option.bind_some]
  obtain ⟨m, rfl⟩ : ∃ m : Nat, n = m := ⟨n.toNat, by omega⟩
  obtain ⟨cs, t', h1, h2, h3, h4⟩ := ops_loop k (fun (z8 : List Int) (z9 : Int) (z10 : List (Int × Int)) => some ((z10, ()), ((z8, z9), ()))) m k t2 [(0, 0)] (by omega) (by omega) ht2 (by simp; omega)
  exact ⟨cs, t', h1, by omega, h3, h4⟩
def cval (c : List (Int × Int)) (v : Int) : Int :=
  match c with
  | [o] => estep 0 0 o v 0
  | [o1, o2] => estep 0 0 o2 v o1.2
  | _ => v
def cvals (cs : List (List (Int × Int))) (v : Int) : Int := cs.foldl (fun v c => cval c v) v
theorem res_ab {op v x B : Int} (hv : ab v ≤ B) (hx1 : -100 ≤ x) (hx2 : x ≤ 199) (hB : B * 200 + 200 ≤ 17592186044416) : ab (res op v x) ≤ B * 200 + 200 := by
  have hB0 : 0 ≤ B := Int.le_trans (ab_nonneg v) hv
  have hv' := ab_le.1 hv
  have hmul : ab (v * x) ≤ B * 200 := by
    rw [ab_mul]
    have hx : ab x ≤ 200 := ab_le.2 (by omega)
    exact Int.mul_le_mul hv hx (ab_nonneg x) hB0
  unfold res
  split
  · exact ab_le.2 (by omega)
  split
  · exact ab_le.2 (by omega)
  split
  · unfold tms
    split
    · rename_i h
      exfalso
      have h0 : 0 < ab v := by have := ab_nonneg v; have := mt ab_zero.1 h.1; omega
      rw [ab_mul] at hmul
      have : ab x ≤ 17592186044416 / ab v := (Int.le_ediv_iff_mul_le h0).2 (by rw [Int.mul_comm]; omega)
      omega
    · omega
  split
  · unfold mm; simp only; exact ab_le.2 (by split <;> omega)
  split
  · unfold mm; simp only; exact ab_le.2 (by split <;> omega)
  split
  · exact ab_le.2 (by unfold ab; split <;> omega)
  · have := dvd_ab (x := v) (y := x); omega
theorem cval_ab {c : List (Int × Int)} (hc : isChunk c) {v B : Int} (hv : ab v ≤ B) (hB : B * 200 + 200 ≤ 17592186044416) : ab (cval c v) ≤ B * 200 + 200 := by
  have hB0 : 0 ≤ B := Int.le_trans (ab_nonneg v) hv
  rcases hc with ⟨x, op, rfl, x1, x2, o1, o2⟩ | ⟨s, rfl, s1, s2⟩ | rfl
  · have e : cval [(2, x), (op, 0)] v = res op v x := by
      show estep 0 0 (op, 0) v x = _
      unfold estep
      rw [if_neg (show ¬ op = 0 by omega), if_neg (show ¬ op = 1 by omega), if_neg (show ¬ op = 2 by omega), if_neg (show ¬ op = 10 by omega), if_neg (show ¬ op = 11 by omega)]
    rw [e]
    exact res_ab hv x1 x2 hB
  · have : ab (shf v s) ≤ ab v := shf_ab s1 (by omega)
    show ab (shf v s) ≤ _
    omega
  · show ab (ab v) ≤ _
    have := ab_nonneg v
    exact ab_le.2 (by omega)
theorem erun_chunk {R : Type} {c : List (Int × Int)} (hc : isChunk c) (a b : Int) (e0 : Option R) (e1 : List Int → Option R) (l : List (Int × Int)) {v : Int} (h : inM (cval c v)) : erun a b e0 e1 (c ++ l) [v] = erun a b e0 e1 l [cval c v] := by
  rcases hc with ⟨x, op, rfl, x1, x2, o1, o2⟩ | ⟨s, rfl, s1, s2⟩ | rfl
  · have ht : tk op = 2 := by unfold tk; rw [if_neg (by omega), if_neg (by omega)]
    have e : ∀ a b, estep a b (op, 0) v x = estep 0 0 (op, 0) v x := fun a b => by
      unfold estep
      rw [if_neg (show ¬ op = 0 by omega), if_neg (show ¬ op = 1 by omega), if_neg (show ¬ op = 0 by omega), if_neg (show ¬ op = 1 by omega)]
    have h1 : eone a b (2, x) [v] = x := rfl
    have h2 : eone a b (op, 0) [v, x] = cval [(2, x), (op, 0)] v := by
      unfold eone
      show estep a b (op, 0) ([v, x].getD (2 - tk op) 0) ([v, x].getD (2 - tk op + 1) 0) = _
      rw [ht]
      exact e a b
    show (if inM (eone a b (2, x) [v]) then erun a b e0 e1 ((op, 0) :: l) ([v].take ([v].length - tk 2) ++ [eone a b (2, x) [v]]) else e0) = _
    rw [h1, if_pos (show inM x from ⟨by omega, by omega⟩)]
    show (if inM (eone a b (op, 0) [v, x]) then erun a b e0 e1 l ([v, x].take ([v, x].length - tk op) ++ [eone a b (op, 0) [v, x]]) else e0) = _
    rw [h2, if_pos h, ht]
    rfl
  · show (if inM (eone a b (10, s) [v]) then _ else e0) = _
    rw [show eone a b (10, s) [v] = cval [(10, s)] v from rfl, if_pos h]
    rfl
  · show (if inM (eone a b (11, 0) [v]) then _ else e0) = _
    rw [show eone a b (11, 0) [v] = cval [(11, 0)] v from rfl, if_pos h]
    rfl
def bnd : Nat → Int → Int
  | 0, B => B
  | n + 1, B => bnd n (B * 200 + 200)
theorem bnd_le : ∀ (n : Nat) {B : Int}, 0 ≤ B → B ≤ bnd n B
  | 0, B, _ => Int.le_refl _
  | n + 1, B, h => by
    have := bnd_le n (B := B * 200 + 200) (by omega)
    show B ≤ bnd n (B * 200 + 200)
    omega
theorem bnd_mono : ∀ {n m : Nat} {B : Int}, n ≤ m → 0 ≤ B → bnd n B ≤ bnd m B
  | 0, m, B, _, h => bnd_le m h
  | n + 1, m + 1, B, h, hB => bnd_mono (n := n) (m := m) (by omega) (by omega)
  | n + 1, 0, B, h, _ => by omega
theorem erun_chunks {R : Type} (a b : Int) (e0 : Option R) (e1 : List Int → Option R) (l : List (Int × Int)) : ∀ (cs : List (List (Int × Int))) {v B : Int}, (∀ c ∈ cs, isChunk c) → ab v ≤ B → bnd cs.length B ≤ 17592186044416 →
    erun a b e0 e1 (cs.flatten ++ l) [v] = erun a b e0 e1 l [cvals cs v] ∧ ab (cvals cs v) ≤ bnd cs.length B
  | [], v, B, _, hv, _ => ⟨rfl, hv⟩
  | c :: cs, v, B, hc, hv, hB => by
    have hB0 : 0 ≤ B := Int.le_trans (ab_nonneg v) hv
    have hB' : bnd cs.length (B * 200 + 200) ≤ 17592186044416 := hB
    have hle := bnd_le cs.length (B := B * 200 + 200) (by omega)
    have h1 := cval_ab (hc c (by simp)) hv (by omega)
    obtain ⟨h2, h3⟩ := erun_chunks a b e0 e1 l cs (v := cval c v) (fun x hx => hc x (by simp [hx])) h1 hB'
    refine ⟨?_, h3⟩
    rw [List.flatten_cons, List.append_assoc, erun_chunk (hc c (by simp)) a b e0 e1 _ (inM_ab.2 (by omega))]
    exact h2
theorem vgo_cons {R : Type} (two : Bool) (e0 e1 : Int → Option R) (o : Int × Int) (l : List (Int × Int)) (h : Int) : vgo two e0 e1 (o :: l) h =
    if ¬ (0 ≤ o.1 ∧ o.1 ≤ 11) ∨ (o.1 = 1 ∧ two = false) ∨ h < tk o.1 then e0 1 else if argB o = false then e0 10 else vgo two e0 e1 l (h + (1 - tk o.1)) := rfl
theorem vgo_chunk {R : Type} {c : List (Int × Int)} (hc : isChunk c) (two : Bool) (e0 e1 : Int → Option R) (l : List (Int × Int)) : vgo two e0 e1 (c ++ l) 1 = vgo two e0 e1 l 1 := by
  rcases hc with ⟨x, op, rfl, x1, x2, o1, o2⟩ | ⟨s, rfl, s1, s2⟩ | rfl
  · have ht : tk op = 2 := by unfold tk; rw [if_neg (by omega), if_neg (by omega)]
    have ha : argB (op, 0) = true := by unfold argB; rw [if_neg (show ¬ op = 2 by omega), if_neg (show ¬ op = 10 by omega)]; rfl
    have hx : argB (2, x) = true := by unfold argB; rw [if_pos rfl]; exact decide_eq_true (show -4294967296 ≤ x ∧ x ≤ 4294967296 by omega)
    show vgo two e0 e1 ((2, x) :: (op, 0) :: l) 1 = _
    rw [vgo_cons, if_neg (by show ¬ (¬ ((0 : Int) ≤ 2 ∧ (2 : Int) ≤ 11) ∨ ((2 : Int) = 1 ∧ two = false) ∨ (1 : Int) < ((0 : Nat) : Int)); omega), hx, if_neg (by simp)]
    rw [vgo_cons, ht, if_neg (by show ¬ (¬ (0 ≤ op ∧ op ≤ 11) ∨ (op = 1 ∧ two = false) ∨ (1 + (1 - ((0 : Nat) : Int))) < ((2 : Nat) : Int)); omega), ha, if_neg (by simp)]
    rfl
  · have ha : argB (10, s) = true := by unfold argB; rw [if_neg (show ¬ (10 : Int) = 2 by omega), if_pos rfl]; exact decide_eq_true (show 0 ≤ s ∧ s ≤ 24 by omega)
    show vgo two e0 e1 ((10, s) :: l) 1 = _
    rw [vgo_cons, if_neg (by show ¬ (¬ ((0 : Int) ≤ 10 ∧ (10 : Int) ≤ 11) ∨ ((10 : Int) = 1 ∧ two = false) ∨ (1 : Int) < ((1 : Nat) : Int)); omega), ha, if_neg (by simp)]
    rfl
  · show vgo two e0 e1 ((11, 0) :: l) 1 = _
    rw [vgo_cons, if_neg (by show ¬ (¬ ((0 : Int) ≤ 11 ∧ (11 : Int) ≤ 11) ∨ ((11 : Int) = 1 ∧ two = false) ∨ (1 : Int) < ((1 : Nat) : Int)); omega), show argB (11, 0) = true from rfl, if_neg (by simp)]
    rfl
theorem vgo_chunks {R : Type} (two : Bool) (e0 e1 : Int → Option R) (l : List (Int × Int)) : ∀ (cs : List (List (Int × Int))), (∀ c ∈ cs, isChunk c) → vgo two e0 e1 (cs.flatten ++ l) 1 = vgo two e0 e1 l 1
  | [], _ => rfl
  | c :: cs, hc => by
    rw [List.flatten_cons, List.append_assoc, vgo_chunk (hc c (by simp))]
    exact vgo_chunks two e0 e1 l cs fun x hx => hc x (by simp [hx])
theorem flatten_length : ∀ (cs : List (List (Int × Int))), (∀ c ∈ cs, isChunk c) → cs.flatten.length ≤ 2 * cs.length
  | [], _ => by simp
  | c :: cs, hc => by
    have h1 := isChunk_length (hc c (by simp))
    have h2 := flatten_length cs fun x hx => hc x (by simp [hx])
    rw [List.flatten_cons, List.length_append, List.length_cons]
    omega
/-- Made programs for two sources, and with more behind them. -/
theorem made2 {op a b : Int} {cs : List (List (Int × Int))} (o1 : 3 ≤ op) (o2 : op ≤ 9) (hc : ∀ c ∈ cs, isChunk c) (hl : cs.length ≤ 10) (ha : 0 ≤ a ∧ a ≤ 255) (hb : 0 ≤ b ∧ b ≤ 255) (hv : inM (res op a b)) {B : Int} (hB : ab (res op a b) ≤ B) (hB2 : bnd cs.length B ≤ 17592186044416) :
    ev ([(0, 0), (1, 0), (op, 0)] ++ cs.flatten) a b = (cvals cs (res op a b), 0) := by
  have ht : tk op = 2 := by unfold tk; rw [if_neg (by omega), if_neg (by omega)]
  have harg : argB (op, 0) = true := by unfold argB; rw [if_neg (show ¬ op = 2 by omega), if_neg (show ¬ op = 10 by omega)]; rfl
  have hlen := flatten_length cs hc
  have hcode : vcode ([(0, 0), (1, 0), (op, 0)] ++ cs.flatten) true = 0 := by
    unfold vcode
    rw [if_pos (by rw [List.length_append]; show 1 ≤ 3 + _ ∧ 3 + _ ≤ 32; omega)]
    have : vgo (R := Int) true some (fun h => some (if h ≠ 1 then 1 else 0)) ([(0, 0), (1, 0), (op, 0)] ++ cs.flatten) 0 = vgo (R := Int) true some (fun h => some (if h ≠ 1 then 1 else 0)) ((op, 0) :: cs.flatten) 2 := rfl
    rw [this, vgo_cons, ht, if_neg (by show ¬ (¬ (0 ≤ op ∧ op ≤ 11) ∨ (op = 1 ∧ true = false) ∨ (2 : Int) < ((2 : Nat) : Int)); simp; omega), harg, if_neg (by simp)]
    have := vgo_chunks (R := Int) true some (fun h => some (if h ≠ 1 then 1 else 0)) [] cs hc
    rw [List.append_nil] at this
    show (vgo (R := Int) true some (fun h => some (if h ≠ 1 then 1 else 0)) cs.flatten (2 + (1 - ((2 : Nat) : Int)))).getD 0 = 0
    rw [show (2 : Int) + (1 - ((2 : Nat) : Int)) = 1 from rfl, this]
    rfl
  unfold ev
  rw [hcode, if_neg (by simp), if_pos (by omega)]
  unfold rv
  have e1 : erun (R := Int × Int) a b (some (0, 11)) (fun st => some (st.getD 0 0, 0)) ([(0, 0), (1, 0), (op, 0)] ++ cs.flatten) [] = erun (R := Int × Int) a b (some (0, 11)) (fun st => some (st.getD 0 0, 0)) ((op, 0) :: cs.flatten) [a, b] := by
    show (if inM a then (if inM b then _ else _) else _) = _
    rw [if_pos (show inM a from ⟨by omega, by omega⟩), if_pos (show inM b from ⟨by omega, by omega⟩)]
    rfl
  have h2 : eone a b (op, 0) [a, b] = res op a b := by
    unfold eone
    show estep a b (op, 0) ([a, b].getD (2 - tk op) 0) ([a, b].getD (2 - tk op + 1) 0) = _
    rw [ht]
    unfold estep
    rw [if_neg (show ¬ op = 0 by omega), if_neg (show ¬ op = 1 by omega), if_neg (show ¬ op = 2 by omega), if_neg (show ¬ op = 10 by omega), if_neg (show ¬ op = 11 by omega)]
    rfl
  have e2 : erun (R := Int × Int) a b (some (0, 11)) (fun st => some (st.getD 0 0, 0)) ((op, 0) :: cs.flatten) [a, b] = erun (R := Int × Int) a b (some (0, 11)) (fun st => some (st.getD 0 0, 0)) cs.flatten [res op a b] := by
    show (if inM (eone a b (op, 0) [a, b]) then erun a b _ _ cs.flatten ([a, b].take ([a, b].length - tk op) ++ [eone a b (op, 0) [a, b]]) else _) = _
    rw [h2, if_pos hv, ht]
    rfl
  obtain ⟨h3, _⟩ := erun_chunks (R := Int × Int) a b (some (0, 11)) (fun st => some (st.getD 0 0, 0)) [] cs hc hB hB2
  rw [List.append_nil] at h3
  rw [e1, e2, h3]
  rfl
theorem made1 {a b : Int} {cs : List (List (Int × Int))} (hc : ∀ c ∈ cs, isChunk c) (hl : cs.length ≤ 10) (ha : 0 ≤ a ∧ a ≤ 1000) (hb : 0 ≤ b ∧ b ≤ 1000) {B : Int} (hB : a ≤ B) (hB2 : bnd cs.length B ≤ 17592186044416) :
    ev ([(0, 0)] ++ cs.flatten) a b = (cvals cs a, 0) := by
  have hlen := flatten_length cs hc
  have hcode : vcode ([(0, 0)] ++ cs.flatten) true = 0 := by
    unfold vcode
    rw [if_pos (by rw [List.length_append]; show 1 ≤ 1 + _ ∧ 1 + _ ≤ 32; omega)]
    have : vgo (R := Int) true some (fun h => some (if h ≠ 1 then 1 else 0)) ([(0, 0)] ++ cs.flatten) 0 = vgo (R := Int) true some (fun h => some (if h ≠ 1 then 1 else 0)) cs.flatten 1 := rfl
    rw [this]
    have := vgo_chunks (R := Int) true some (fun h => some (if h ≠ 1 then 1 else 0)) [] cs hc
    rw [List.append_nil] at this
    rw [this]
    rfl
  unfold ev
  rw [hcode, if_neg (by simp), if_pos (by omega)]
  unfold rv
  have e1 : erun (R := Int × Int) a b (some (0, 11)) (fun st => some (st.getD 0 0, 0)) ([(0, 0)] ++ cs.flatten) [] = erun (R := Int × Int) a b (some (0, 11)) (fun st => some (st.getD 0 0, 0)) cs.flatten [a] := by
    show (if inM a then _ else _) = _
    rw [if_pos (show inM a from ⟨by omega, by omega⟩)]
    rfl
  obtain ⟨h3, _⟩ := erun_chunks (R := Int × Int) a b (some (0, 11)) (fun st => some (st.getD 0 0, 0)) [] cs hc (v := a) (B := B) (ab_le.2 (by omega)) hB2
  rw [List.append_nil] at h3
  rw [e1, h3]
  rfl
def comb (c : Int) (x y : Int × Int) : Int × Int :=
  if c = 3 then (x.1 + y.1, x.2 + y.2) else if c = 4 then (x.1 - y.2, x.2 - y.1)
  else if c = 5 then (mm false (mm false (mm false (tms x.1 y.1) (tms x.1 y.2)) (tms x.2 y.1)) (tms x.2 y.2), mm true (mm true (mm true (tms x.1 y.1) (tms x.1 y.2)) (tms x.2 y.1)) (tms x.2 y.2))
  else if c = 6 then (mm false x.1 y.1, mm false x.2 y.2) else if c = 7 then (mm true x.1 y.1, mm true x.2 y.2)
  else if c = 8 then (0, mm true (x.2 - y.1) (y.2 - x.1)) else (0 - mm true (ab x.1) (ab x.2), mm true (ab x.1) (ab x.2))
def istep (a b : Int) (o : Int × Int) (x y : Int × Int) : Int × Int :=
  if o.1 = 0 then (0, a) else if o.1 = 1 then (0, b) else if o.1 = 2 then (o.2, o.2) else if o.1 = 10 then (shf x.1 o.2, shf x.2 o.2) else if o.1 = 11 then (0, mm true (ab x.1) (ab x.2)) else comb o.1 x y
def inP (x : Int × Int) : Prop := inM x.1 ∧ inM x.2
instance (x : Int × Int) : Decidable (inP x) := inferInstanceAs (Decidable (_ ∧ _))
theorem mm_true (x y : Int) : mm true x y = if x < y then y else x := rfl
theorem mm_false (x y : Int) : mm false x y = if y < x then y else x := rfl
theorem combined_eq (k : Nat) (c : Int) {x y : Int × Int} (hx : inP x) (hy : inP y) : pointwise_combined k c x y = some ((comb c x y, ()), ()) := by
  obtain ⟨x1, x2⟩ := hx
  obtain ⟨y1, y2⟩ := hy
  have a1 := x1; have a2 := x2; have b1 := y1; have b2 := y2
  unfold inM at a1 a2 b1 b2
  unfold pointwise_combined comb
  have n1 := inM_ab.1 x1
  have n2 := inM_ab.1 x2
  have m1 := ab_nonneg x.1
  have m2 := ab_nonneg x.2
  have hn : 0 ≤ mm true (ab x.1) (ab x.2) ∧ mm true (ab x.1) (ab x.2) ≤ 17592186044416 := by rw [mm_true]; split <;> omega
  rw [times_eq k x1 y1, times_eq k x1 y2, times_eq k x2 y1, times_eq k x2 y2, abs_eq k (n := x.1) (by omega) (by omega), abs_eq k (n := x.2) (by omega) (by omega)]
  rw [w64_id (n := x.1 + y.1) (by omega) (by omega), w64_id (n := x.2 + y.2) (by omega) (by omega), w64_id (n := x.1 - y.2) (by omega) (by omega), w64_id (n := x.2 - y.1) (by omega) (by omega), w64_id (n := y.2 - x.1) (by omega) (by omega)]
  simp only [Option.bind_some]
  rw [w64_id (n := 0 - mm true (ab x.1) (ab x.2)) (by omega) (by omega)]
  by_cases h3 : c = 3
  · subst h3; rfl
  by_cases h4 : c = 4
  · subst h4; rfl
  by_cases h5 : c = 5
  · subst h5; rfl
  by_cases h6 : c = 6
  · subst h6; rfl
  by_cases h7 : c = 7
  · subst h7; rfl
  by_cases h8 : c = 8
  · subst h8; rfl
  have e3 : (c == 3) = false := by simpa using h3
  have e4 : (c == 4) = false := by simpa using h4
  have e5 : (c == 5) = false := by simpa using h5
  have e6 : (c == 6) = false := by simpa using h6
  have e7 : (c == 7) = false := by simpa using h7
  have e8 : (c == 8) = false := by simpa using h8
  simp [e3, e4, e5, e6, e7, e8, h3, h4, h5, h6, h7, h8]
def ione (a b : Int) (o : Int × Int) (st : List (Int × Int)) : Int × Int := istep a b o (st.getD (st.length - tk o.1) (0, 0)) (st.getD (st.length - tk o.1 + 1) (0, 0))
def irun {R : Type} (a b : Int) (e0 : Option R) (e1 : List (Int × Int) → Option R) : List (Int × Int) → List (Int × Int) → Option R
  | [], st => e1 st
  | o :: l, st => if inP (ione a b o st) then irun a b e0 e1 l (st.take (st.length - tk o.1) ++ [ione a b o st]) else e0
theorem getP_of {st : List (Int × Int)} {n : Nat} (h : n < st.length) : st[n]? = some (st.getD n (0, 0)) := by
  rw [List.getElem?_eq_getElem h, List.getD_eq_getElem?_getD, List.getElem?_eq_getElem h]; rfl
theorem span_eq (k : Nat) {x y s : Int} (hx : inM x) (hy : inM y) (h0 : 0 ≤ s) (h1 : s ≤ 24) : fixed_Span k x y s = some ((shf x s, shf y s, ()), ()) := by
  unfold fixed_Span
  rw [shift_eq k hx h0 h1, shift_eq k hy h0 h1]
  rfl
theorem interval_loop {R : Type} (k : Nat) (l : List (Int × Int)) (a b : Int) (e0 : Int → Int → Int → Option R) (e1 : List (Int × Int) → Option R) (hl : l.length ≤ 32) : ∀ (n i j : Nat) (st : List (Int × Int)), l.length - i = n → i ≤ l.length → n < j → st.length ≤ i → hOk (l.drop i) st.length → (∀ x ∈ st, inP x) →
    pointwise_Interval.loop0 k j a b l l.length i st e0 e1 = irun a b (e0 0 0 11) e1 (l.drop i) st := by
  intro n
  induction n with
  | zero =>
    intro i j st hn hi hj hst hok hin
    have e : i = l.length := by omega
    obtain ⟨j, rfl⟩ : ∃ j', j = j' + 1 := ⟨j - 1, by omega⟩
    rw [pointwise_Interval.loop0_s, e, decide_eq_false (by omega), List.drop_length]
    rfl
  | succ n ih =>
    intro i j st hn hi hj hst hok hin
    obtain ⟨j, rfl⟩ : ∃ j', j = j' + 1 := ⟨j - 1, by omega⟩
    have hlt : i < l.length := by omega
    rw [List.drop_eq_getElem_cons hlt] at hok ⊢
    rw [pointwise_Interval.loop0_s, decide_eq_true (by omega)]
    simp only [cond_true]
    rw [if_pos (by omega), Int.toNat_natCast, List.getElem?_eq_getElem hlt]
    generalize hgo : l[i] = o at *
    obtain ⟨c1, c2, htk, harg, hrest⟩ := hok
    have htk2 := tk_le o.1
    have hw : w64 (((st.length : Nat) : Int) - ((tk o.1 : Nat) : Int)) = ((st.length - tk o.1 : Nat) : Int) := by rw [w64_id (by omega) (by omega)]; omega
    simp only [Option.bind_some, takes_ok, hw, Int.toNat_natCast]
    rw [if_pos (by omega), if_pos (by omega)]
    have fin : ∀ v, ione a b o st = v → ((pointwise_sum k v.1).bind fun (y3 : (Bool × Unit) × (Unit)) => bif !y3.1.1 then (e0 0 0 11) else ((pointwise_sum k v.2).bind fun (y3 : (Bool × Unit) × (Unit)) => bif !y3.1.1 then (e0 0 0 11) else (if ((st.take (st.length - tk o.1)) ++ [v]).length * 16 ≤ 140737488355328 then pointwise_Interval.loop0 k j a b l l.length (w64 ((i : Int) + 1)) ((st.take (st.length - tk o.1)) ++ [v]) e0 e1 else none))) =
        irun a b (e0 0 0 11) e1 (o :: l.drop (i + 1)) st := by
      intro v hv
      unfold irun
      rw [hv, sum_eq, sum_eq]
      simp only [Option.bind_some]
      by_cases h1 : inM v.1
      · rw [decide_eq_true h1]
        simp only [Bool.not_true, cond_false]
        by_cases h2 : inM v.2
        · have hlen : ((st.take (st.length - tk o.1)) ++ [v]).length = st.length - tk o.1 + 1 := by rw [List.length_append, List.length_take]; simp
          rw [decide_eq_true h2, if_pos (show inP v from ⟨h1, h2⟩)]
          simp only [Bool.not_true, cond_false]
          rw [if_pos (by rw [hlen]; omega), w64_succ i (by omega)]
          refine ih (i + 1) j _ (by omega) (by omega) (by omega) (by rw [hlen]; omega) (by rw [hlen]; rw [show st.length - tk o.1 + 1 = st.length + 1 - tk o.1 by omega]; exact hrest) fun x hx => ?_
          rcases List.mem_append.1 hx with hx | hx
          · exact hin x (List.mem_of_mem_take hx)
          · rw [List.mem_singleton.1 hx]; exact ⟨h1, h2⟩
        · rw [decide_eq_false h2, if_neg (fun h : inP v => h2 h.2)]
          rfl
      · rw [decide_eq_false h1, if_neg (fun h : inP v => h1 h.1)]
        rfl
    have mem : ∀ p, p < st.length → inP (st.getD p (0, 0)) := fun p hp => by
      have := getP_of hp
      exact hin _ (List.mem_of_getElem? this)
    by_cases h0 : o.1 = 0
    · have e : (o.1 == 0) = true := by simpa using h0
      rw [e, cond_true]
      exact fin (0, a) (by unfold ione istep; rw [if_pos h0])
    have e0' : (o.1 == 0) = false := by simpa using h0
    rw [e0', cond_false]
    by_cases h1 : o.1 = 1
    · have e : (o.1 == 1) = true := by simpa using h1
      rw [e, cond_true]
      exact fin (0, b) (by unfold ione istep; rw [if_neg h0, if_pos h1])
    have e1' : (o.1 == 1) = false := by simpa using h1
    rw [e1', cond_false]
    by_cases h2 : o.1 = 2
    · have e : (o.1 == 2) = true := by simpa using h2
      rw [e, cond_true]
      exact fin (o.2, o.2) (by unfold ione istep; rw [if_neg h0, if_neg h1, if_pos h2])
    have e2' : (o.1 == 2) = false := by simpa using h2
    rw [e2', cond_false]
    by_cases h10 : o.1 = 10
    · have e : (o.1 == 10) = true := by simpa using h10
      have ht : tk o.1 = 1 := by rw [h10]; rfl
      have hs : 0 ≤ o.2 ∧ o.2 ≤ 24 := by unfold argB at harg; rw [if_neg h2, if_pos h10] at harg; simpa using harg
      have hm := mem (st.length - tk o.1) (by omega)
      rw [e, cond_true, if_pos (by omega), Nat.zero_add, getP_of (by omega), Option.bind_some, if_pos (by omega), Option.bind_some, span_eq k hm.1 hm.2 hs.1 hs.2, Option.bind_some]
      exact fin _ (by unfold ione istep; rw [if_neg h0, if_neg h1, if_neg h2, if_pos h10])
    have e10' : (o.1 == 10) = false := by simpa using h10
    rw [e10', cond_false]
    by_cases h11 : o.1 = 11
    · have e : (o.1 == 11) = true := by simpa using h11
      have ht : tk o.1 = 1 := by rw [h11]; rfl
      have hb := mem (st.length - tk o.1) (by omega)
      have hb1 := hb.1; have hb2 := hb.2
      unfold inM at hb1 hb2
      rw [e, cond_true, if_pos (by omega), Nat.zero_add, getP_of (by omega), Option.bind_some, abs_eq k (by omega) (by omega), Option.bind_some, if_pos (by omega), Option.bind_some, abs_eq k (by omega) (by omega), Option.bind_some]
      exact fin (0, mm true (ab (st.getD (st.length - tk o.1) (0, 0)).1) (ab (st.getD (st.length - tk o.1) (0, 0)).2)) (by unfold ione istep; rw [if_neg h0, if_neg h1, if_neg h2, if_neg h10, if_pos h11])
    have e11' : (o.1 == 11) = false := by simpa using h11
    have ht : tk o.1 = 2 := by unfold tk; rw [if_neg (by omega), if_neg (by omega)]
    rw [e11', cond_false, if_pos (by omega), Nat.zero_add, getP_of (by omega), Option.bind_some, if_pos (by omega), Nat.add_comm 1, getP_of (by omega), Option.bind_some, combined_eq k _ (mem _ (by omega)) (mem _ (by omega)), Option.bind_some]
    exact fin _ (by unfold ione istep; rw [if_neg h0, if_neg h1, if_neg h2, if_neg h10, if_neg h11])
/-- The interval of a valid program: its ends and the error. -/
def irv (l : List (Int × Int)) (a b : Int) : Int × Int × Int := (irun (R := Int × Int × Int) a b (some (0, 0, 11)) (fun st => some ((st.getD 0 (0, 0)).1, (st.getD 0 (0, 0)).2, 0)) l []).getD (0, 0, 0)
def iv (l : List (Int × Int)) (a b : Int) : Int × Int × Int :=
  if vcode l true ≠ 0 then (0, 0, vcode l true) else if 1 ≤ a ∧ a ≤ 4294967296 ∧ 1 ≤ b ∧ b ≤ 4294967296 then irv l a b else (0, 0, 2)
theorem irun_map {R R' : Type} (a b : Int) (f : R → Option R') (e0 : Option R) (e1 : List (Int × Int) → Option R) : ∀ (l : List (Int × Int)) (st : List (Int × Int)), (irun a b e0 e1 l st).bind f = irun a b (e0.bind f) (fun st => (e1 st).bind f) l st
  | [], st => rfl
  | o :: l, st => by
    unfold irun
    split
    · exact irun_map a b f e0 e1 l _
    · rfl
theorem irun_some (a b : Int) : ∀ (l : List (Int × Int)) (st : List (Int × Int)), ∃ c, irun (R := Int × Int × Int) a b (some (0, 0, 11)) (fun st => some ((st.getD 0 (0, 0)).1, (st.getD 0 (0, 0)).2, 0)) l st = some c
  | [], st => ⟨_, rfl⟩
  | o :: l, st => by
    unfold irun
    split
    · exact irun_some a b l _
    · exact ⟨_, rfl⟩
theorem irun_congr {R : Type} (a b : Int) (e0 : Option R) (e1 e2 : List (Int × Int) → Option R) (h : ∀ st, st.length = 1 → e1 st = e2 st) : ∀ (l : List (Int × Int)) (st : List (Int × Int)), hOk l st.length → irun a b e0 e1 l st = irun a b e0 e2 l st
  | [], st, hok => h st hok
  | o :: l, st, hok => by
    obtain ⟨c1, c2, htk, harg, hrest⟩ := hok
    unfold irun
    split
    · refine irun_congr a b e0 e1 e2 h l _ ?_
      have hlen : ((st.take (st.length - tk o.1)) ++ [ione a b o st]).length = st.length - tk o.1 + 1 := by rw [List.length_append, List.length_take]; simp
      rw [hlen, show st.length - tk o.1 + 1 = st.length + 1 - tk o.1 by omega]
      exact hrest
    · rfl
theorem interval_ok (k : Nat) (l : List (Int × Int)) (a b : Int) (hk : 33 ≤ k) : pointwise_Interval k l a b = some (((iv l a b).1, (iv l a b).2.1, (iv l a b).2.2, ()), ()) := by
  unfold pointwise_Interval iv
  rw [valid_ok k l true hk]
  simp only [Option.bind_some]
  by_cases hv : vcode l true = 0
  · have e : (vcode l true != 0) = false := by simpa using hv
    rw [e, cond_false, if_neg (fun h => h hv), bt_ok, bt_ok]
    simp only [Option.bind_some]
    by_cases ha : 1 ≤ a ∧ a ≤ 4294967296
    · rw [decide_eq_true ha]
      simp only [Bool.not_true, cond_false]
      by_cases hb : 1 ≤ b ∧ b ≤ 4294967296
      · obtain ⟨h1, h2, h3⟩ := vcode_hOk hv
        rw [decide_eq_true hb, if_pos ⟨ha.1, ha.2, hb⟩]
        simp only [Bool.not_true, cond_false]
        have := interval_loop (R := (Int × Int × Int × Unit) × Unit) k l a b (fun (z28 : Int) (z29 : Int) (z30 : Int) => (some ((z28, z29, z30, ()), ()))) (fun (z31 : List (Int × Int)) => (if 0 ≤ (0 : Int) ∧ (0 : Int) < ((z31.length : Nat) : Int) then (z31[0]?).bind fun (x32 : Int × Int) => if 0 ≤ (0 : Int) ∧ (0 : Int) < ((z31.length : Nat) : Int) then (z31[0]?).bind fun (x33 : Int × Int) => some ((x32.1, x33.2, 0, ()), ()) else none else none)) h2 l.length 0 k [] rfl (by omega) (by omega) (by simp) h3 (fun x hx => by cases hx)
        refine Eq.trans this ?_
        rw [List.drop_zero]
        have hc := irun_congr (R := (Int × Int × Int × Unit) × Unit) a b (some ((0, 0, 11, ()), ())) (fun (z31 : List (Int × Int)) => (if 0 ≤ (0 : Int) ∧ (0 : Int) < ((z31.length : Nat) : Int) then (z31[0]?).bind fun (x32 : Int × Int) => if 0 ≤ (0 : Int) ∧ (0 : Int) < ((z31.length : Nat) : Int) then (z31[0]?).bind fun (x33 : Int × Int) => some ((x32.1, x33.2, 0, ()), ()) else none else none)) (fun st => some (((st.getD 0 (0, 0)).1, (st.getD 0 (0, 0)).2, 0, ()), ())) (fun st hst => by
          rw [if_pos (by omega), getP_of (by omega), Option.bind_some, if_pos (by omega)]; rfl) l [] h3
        rw [hc]
        obtain ⟨c, hc⟩ := irun_some a b l []
        have hm := irun_map a b (fun c : Int × Int × Int => some ((c.1, c.2.1, c.2.2, ()), ())) (some (0, 0, 11)) (fun st => some ((st.getD 0 (0, 0)).1, (st.getD 0 (0, 0)).2, 0)) l []
        rw [hc] at hm
        unfold irv
        rw [hc]
        exact hm.symm
      · rw [decide_eq_false hb, if_neg (fun h => hb h.2.2)]; rfl
    · rw [decide_eq_false ha, if_neg (fun h => ha ⟨h.1, h.2.1⟩)]; rfl
  · have e : (vcode l true != 0) = true := by simpa using hv
    rw [e, cond_true, if_pos hv]
theorem tms_of {u v : Int} (h : ab (u * v) ≤ 17592186044416) : tms u v = u * v := by
  unfold tms
  rw [if_neg]
  rintro ⟨h0, h1⟩
  have hp : 0 < ab u := by have := ab_nonneg u; have := mt ab_zero.1 h0; omega
  rw [ab_mul] at h
  have := (Int.le_ediv_iff_mul_le hp (a := ab v) (b := 17592186044416)).2 (by rw [Int.mul_comm]; exact h)
  omega
theorem tms_small {u v : Int} (h : tms u v ≤ 17592186044416) : tms u v = u * v := by
  unfold tms at h ⊢
  split
  · rename_i hc; rw [if_pos hc] at h; omega
  · rfl
theorem line_le {t y1 y2 v H : Int} (h1 : y1 ≤ v) (h2 : v ≤ y2) (k1 : t * y1 ≤ H) (k2 : t * y2 ≤ H) : t * v ≤ H := by
  by_cases ht : 0 ≤ t
  · exact Int.le_trans (Int.mul_le_mul_of_nonneg_left h2 ht) k2
  · exact Int.le_trans (Int.mul_le_mul_of_nonpos_left (by omega) h1) k1
theorem line_ge {t y1 y2 v L : Int} (h1 : y1 ≤ v) (h2 : v ≤ y2) (k1 : L ≤ t * y1) (k2 : L ≤ t * y2) : L ≤ t * v := by
  by_cases ht : 0 ≤ t
  · exact Int.le_trans k1 (Int.mul_le_mul_of_nonneg_left h1 ht)
  · exact Int.le_trans k2 (Int.mul_le_mul_of_nonpos_left (by omega) h2)
theorem shf_mono {x y s : Int} (h : x ≤ y) : shf x s ≤ shf y s := by
  unfold shf
  split
  · exact h
  · have hp : (0 : Int) < 2 ^ s.toNat := Int.pow_pos (by omega)
    rw [Int.fdiv_eq_ediv_of_nonneg _ (by omega), Int.fdiv_eq_ediv_of_nonneg _ (by omega)]
    exact Int.ediv_le_ediv hp (by omega)
theorem mm_t_ge (x y : Int) : x ≤ mm true x y ∧ y ≤ mm true x y := by rw [mm_true]; split <;> omega
theorem mm_f_le (x y : Int) : mm false x y ≤ x ∧ mm false x y ≤ y := by rw [mm_false]; split <;> omega
theorem mm_t_le {x y H : Int} (h1 : x ≤ H) (h2 : y ≤ H) : mm true x y ≤ H := by rw [mm_true]; split <;> omega
theorem mm_f_ge {x y L : Int} (h1 : L ≤ x) (h2 : L ≤ y) : L ≤ mm false x y := by rw [mm_false]; split <;> omega
theorem ab_range {x1 x2 u : Int} (h1 : x1 ≤ u) (h2 : u ≤ x2) : ab u ≤ mm true (ab x1) (ab x2) := by
  have := mm_t_ge (ab x1) (ab x2)
  have a1 : -x1 ≤ ab x1 := by unfold ab; split <;> omega
  have a2 : x2 ≤ ab x2 := by unfold ab; split <;> omega
  exact ab_le.2 (by omega)
/-- One operation keeps within. -/
theorem step_in {a a' b b' : Int} {o : Int × Int} {x y : Int × Int} {u v : Int} (ha : 0 ≤ a' ∧ a' ≤ a) (hb : 0 ≤ b' ∧ b' ≤ b) (hx : x.1 ≤ u ∧ u ≤ x.2) (hy : y.1 ≤ v ∧ v ≤ y.2) (hP : inP (istep a b o x y)) :
    (istep a b o x y).1 ≤ estep a' b' o u v ∧ estep a' b' o u v ≤ (istep a b o x y).2 := by
  unfold istep at hP ⊢
  unfold estep
  by_cases h0 : o.1 = 0
  · simp only [if_pos h0]; exact ha
  simp only [if_neg h0] at hP ⊢
  by_cases h1 : o.1 = 1
  · simp only [if_pos h1]; exact hb
  simp only [if_neg h1] at hP ⊢
  by_cases h2 : o.1 = 2
  · simp only [if_pos h2]; exact ⟨Int.le_refl _, Int.le_refl _⟩
  simp only [if_neg h2] at hP ⊢
  by_cases h10 : o.1 = 10
  · simp only [if_pos h10]; exact ⟨shf_mono hx.1, shf_mono hx.2⟩
  simp only [if_neg h10] at hP ⊢
  by_cases h11 : o.1 = 11
  · simp only [if_pos h11]; exact ⟨ab_nonneg u, ab_range hx.1 hx.2⟩
  simp only [if_neg h11] at hP ⊢
  unfold comb at hP ⊢
  unfold res
  by_cases h3 : o.1 = 3
  · simp only [if_pos h3]; omega
  simp only [if_neg h3] at hP ⊢
  by_cases h4 : o.1 = 4
  · simp only [if_pos h4]; omega
  simp only [if_neg h4] at hP ⊢
  by_cases h5 : o.1 = 5
  · simp only [if_pos h5] at hP ⊢
    obtain ⟨p1, p2⟩ := hP
    unfold inM at p1 p2
    simp only at p1 p2
    have t1 := mm_t_ge (tms x.1 y.1) (tms x.1 y.2)
    have t2 := mm_t_ge (mm true (tms x.1 y.1) (tms x.1 y.2)) (tms x.2 y.1)
    have t3 := mm_t_ge (mm true (mm true (tms x.1 y.1) (tms x.1 y.2)) (tms x.2 y.1)) (tms x.2 y.2)
    have s1 := mm_f_le (tms x.1 y.1) (tms x.1 y.2)
    have s2 := mm_f_le (mm false (tms x.1 y.1) (tms x.1 y.2)) (tms x.2 y.1)
    have s3 := mm_f_le (mm false (mm false (tms x.1 y.1) (tms x.1 y.2)) (tms x.2 y.1)) (tms x.2 y.2)
    generalize mm true (mm true (mm true (tms x.1 y.1) (tms x.1 y.2)) (tms x.2 y.1)) (tms x.2 y.2) = H at *
    generalize mm false (mm false (mm false (tms x.1 y.1) (tms x.1 y.2)) (tms x.2 y.1)) (tms x.2 y.2) = L at *
    have e1 := tms_small (u := x.1) (v := y.1) (by omega)
    have e2 := tms_small (u := x.1) (v := y.2) (by omega)
    have e3 := tms_small (u := x.2) (v := y.1) (by omega)
    have e4 := tms_small (u := x.2) (v := y.2) (by omega)
    rw [e1, e2] at t1 s1
    rw [e3] at t2 s2
    rw [e4] at t3 s3
    rw [e1, e2] at t2 s2 t3 s3
    rw [e3] at t3 s3
    have q1 : x.1 * v ≤ H := line_le hy.1 hy.2 (by omega) (by omega)
    have q2 : x.2 * v ≤ H := line_le hy.1 hy.2 (by omega) (by omega)
    have q3 : L ≤ x.1 * v := line_ge hy.1 hy.2 (by omega) (by omega)
    have q4 : L ≤ x.2 * v := line_ge hy.1 hy.2 (by omega) (by omega)
    rw [Int.mul_comm] at q1 q2 q3 q4
    have r1 : v * u ≤ H := line_le hx.1 hx.2 q1 q2
    have r2 : L ≤ v * u := line_ge hx.1 hx.2 q3 q4
    rw [Int.mul_comm] at r1 r2
    rw [tms_of (u := u) (v := v) (ab_le.2 (by omega))]
    exact ⟨r2, r1⟩
  simp only [if_neg h5] at hP ⊢
  by_cases h6 : o.1 = 6
  · simp only [if_pos h6]
    rw [mm_false, mm_false, mm_false]
    refine ⟨?_, ?_⟩
    · split <;> split <;> omega
    · split <;> split <;> omega
  simp only [if_neg h6] at hP ⊢
  by_cases h7 : o.1 = 7
  · simp only [if_pos h7]
    rw [mm_true, mm_true, mm_true]
    refine ⟨?_, ?_⟩
    · split <;> split <;> omega
    · split <;> split <;> omega
  simp only [if_neg h7] at hP ⊢
  by_cases h8 : o.1 = 8
  · simp only [if_pos h8]
    have := mm_t_ge (x.2 - y.1) (y.2 - x.1)
    refine ⟨ab_nonneg _, ab_le.2 (by omega)⟩
  simp only [if_neg h8]
  have h1 := ab_range hx.1 hx.2
  have h2 := dvd_ab (x := u) (y := v)
  have := ab_le.1 (Int.le_trans h2 h1)
  omega
def Rel (ist : List (Int × Int)) (st : List Int) : Prop := ist.length = st.length ∧ ∀ p, (ist.getD p (0, 0)).1 ≤ st.getD p 0 ∧ st.getD p 0 ≤ (ist.getD p (0, 0)).2
theorem getD_snoc {α : Type} (l : List α) (x d : α) (n p : Nat) (hn : n ≤ l.length) : (l.take n ++ [x]).getD p d = if p < n then l.getD p d else if p = n then x else d := by
  have hlen : (l.take n).length = n := by rw [List.length_take]; omega
  rw [List.getD_eq_getElem?_getD, List.getD_eq_getElem?_getD]
  by_cases h1 : p < n
  · rw [if_pos h1, List.getElem?_append_left (by omega), List.getElem?_take, if_pos h1]
  · rw [if_neg h1, List.getElem?_append_right (by omega), hlen]
    by_cases h2 : p = n
    · rw [if_pos h2, h2, Nat.sub_self]; rfl
    · rw [if_neg h2]
      obtain ⟨q, hq⟩ : ∃ q, p - n = q + 1 := ⟨p - n - 1, by omega⟩
      rw [hq]; rfl
theorem runs_in {a a' b b' : Int} (ha : 0 ≤ a' ∧ a' ≤ a) (hb : 0 ≤ b' ∧ b' ≤ b) : ∀ (l : List (Int × Int)) (ist : List (Int × Int)) (st : List Int) (lo hi : Int), Rel ist st → hOk l st.length →
    irun (R := Int × Int × Int) a b (some (0, 0, 11)) (fun st => some ((st.getD 0 (0, 0)).1, (st.getD 0 (0, 0)).2, 0)) l ist = some (lo, hi, 0) →
    ∃ v, erun (R := Int × Int) a' b' (some (0, 11)) (fun st => some (st.getD 0 0, 0)) l st = some (v, 0) ∧ lo ≤ v ∧ v ≤ hi
  | [], ist, st, lo, hi, hr, hok, h => by
    have h' : some ((ist.getD 0 (0, 0)).1, (ist.getD 0 (0, 0)).2, (0 : Int)) = some (lo, hi, 0) := h
    injection h' with h'; injection h' with e1 h'; injection h' with e2 _
    exact ⟨st.getD 0 0, rfl, by rw [← e1]; exact (hr.2 0).1, by rw [← e2]; exact (hr.2 0).2⟩
  | o :: l, ist, st, lo, hi, hr, hok, h => by
    obtain ⟨c1, c2, htk, harg, hrest⟩ := hok
    unfold irun at h
    split at h
    · rename_i hP
      have hin := step_in (a := a) (a' := a') (b := b) (b' := b') (o := o) ha hb (hr.2 (st.length - tk o.1)) (hr.2 (st.length - tk o.1 + 1)) (by unfold ione at hP; rw [hr.1] at hP; exact hP)
      have e1 : ione a b o ist = istep a b o (ist.getD (st.length - tk o.1) (0, 0)) (ist.getD (st.length - tk o.1 + 1) (0, 0)) := by unfold ione; rw [hr.1]
      have hM : inM (eone a' b' o st) := by
        rw [e1] at hP
        obtain ⟨p1, p2⟩ := hP
        unfold inM at p1 p2 ⊢
        unfold eone
        omega
      have hlen1 : ((st.take (st.length - tk o.1)) ++ [eone a' b' o st]).length = st.length - tk o.1 + 1 := by rw [List.length_append, List.length_take]; simp
      have hlen2 : ((ist.take (ist.length - tk o.1)) ++ [ione a b o ist]).length = st.length - tk o.1 + 1 := by rw [List.length_append, List.length_take, hr.1]; simp
      obtain ⟨v, h1, h2⟩ := runs_in ha hb l _ ((st.take (st.length - tk o.1)) ++ [eone a' b' o st]) lo hi ⟨by rw [hlen1, hlen2], fun p => by
          rw [getD_snoc _ _ _ _ _ (by rw [hr.1]; omega), getD_snoc _ _ _ _ _ (by omega), hr.1]
          by_cases q1 : p < st.length - tk o.1
          · rw [if_pos q1, if_pos q1]; exact hr.2 p
          · rw [if_neg q1, if_neg q1]
            by_cases q2 : p = st.length - tk o.1
            · rw [if_pos q2, if_pos q2, e1]; exact hin
            · rw [if_neg q2, if_neg q2]; exact ⟨Int.le_refl _, Int.le_refl _⟩⟩ (by rw [hlen1, show st.length - tk o.1 + 1 = st.length + 1 - tk o.1 by omega]; exact hrest) h
      refine ⟨v, ?_, h2⟩
      unfold erun
      rw [if_pos hM]
      exact h1
    · injection h with h; injection h with _ h; injection h with _ h; cases h
theorem irun_code (a b : Int) : ∀ (l : List (Int × Int)) (st : List (Int × Int)) (c : Int × Int × Int), irun (R := Int × Int × Int) a b (some (0, 0, 11)) (fun st => some ((st.getD 0 (0, 0)).1, (st.getD 0 (0, 0)).2, 0)) l st = some c → c.2.2 = 0 ∨ c = (0, 0, 11)
  | [], st, c, h => by
    have h' : some ((st.getD 0 (0, 0)).1, (st.getD 0 (0, 0)).2, (0 : Int)) = some c := h
    injection h' with h'; subst h'; exact .inl rfl
  | o :: l, st, c, h => by
    unfold irun at h
    split at h
    · exact irun_code a b l _ c h
    · injection h with h; exact .inr h.symm
/-- Values are within the interval, or there is none. -/
theorem within {l : List (Int × Int)} {a a' b b' : Int} (ha : 0 ≤ a' ∧ a' ≤ a) (hb : 0 ≤ b' ∧ b' ≤ b) :
    ((iv l a b).2.2 = 0 ∧ (ev l a' b').2 = 0 ∧ (iv l a b).1 ≤ (ev l a' b').1 ∧ (ev l a' b').1 ≤ (iv l a b).2.1) ∨ ((iv l a b).2.2 ≠ 0 ∧ (iv l a b).1 = 0 ∧ (iv l a b).2.1 = 0) := by
  unfold iv ev
  by_cases hv : vcode l true = 0
  · have hv' : ¬ vcode l true ≠ 0 := fun h => h hv
    rw [if_neg hv', if_neg hv']
    by_cases hr : 1 ≤ a ∧ a ≤ 4294967296 ∧ 1 ≤ b ∧ b ≤ 4294967296
    · rw [if_pos hr, if_pos (by omega)]
      obtain ⟨h1, h2, h3⟩ := vcode_hOk hv
      obtain ⟨c, hc⟩ := irun_some a b l []
      unfold irv rv
      rw [hc]
      rcases irun_code a b l [] c hc with h0 | h0
      · obtain ⟨lo, hi, z⟩ := c
        have : z = 0 := h0
        subst this
        obtain ⟨v, e1, e2, e3⟩ := runs_in ha hb l [] [] lo hi ⟨rfl, fun p => ⟨Int.le_refl _, Int.le_refl _⟩⟩ h3 hc
        rw [e1]
        exact .inl ⟨rfl, rfl, e2, e3⟩
      · subst h0
        exact .inr ⟨by show (11 : Int) ≠ 0; omega, rfl, rfl⟩
    · rw [if_neg hr]
      exact .inr ⟨by show (2 : Int) ≠ 0; omega, rfl, rfl⟩
  · have hv' : vcode l true ≠ 0 := hv
    rw [if_pos hv']
    exact .inr ⟨hv, rfl, rfl⟩
theorem u64_id {n : Int} (h1 : 0 ≤ n) (h2 : n < 18446744073709551616) : IntKind.u64.wrap n = n := by
  unfold IntKind.wrap
  simp [IntKind.bits, IntKind.signed]
  omega
theorem rtakes_ok (k : Nat) {c : Int} (h1 : 0 ≤ c) (h2 : c ≤ 11) : tilefarmref14_takes k c = some ((((tk c : Nat) : Int), ()), ()) := by
  unfold tilefarmref14_takes tk
  by_cases h : c ≤ 2
  · rw [decide_eq_true h, if_pos (by omega)]; rfl
  · rw [decide_eq_false h, if_neg (by omega)]
    by_cases h' : c ≥ 10
    · rw [decide_eq_true h', if_pos (by omega)]; rfl
    · rw [decide_eq_false h', if_neg (by omega)]; rfl
theorem rarg_ok (k : Nat) (o : Int × Int) : tilefarmref14_argument k o = some ((argB o, ()), ()) := by
  unfold tilefarmref14_argument argB tilefarmref7_IsShift
  by_cases h2 : o.1 = 2
  · have e : (o.1 == 2) = true := by simpa using h2
    rw [e, if_pos h2, cond_true]
    by_cases h : -4294967296 ≤ o.2 <;> simp [h]
  · have e : (o.1 == 2) = false := by simpa using h2
    rw [e, if_neg h2, cond_false]
    by_cases h10 : o.1 = 10
    · have e : (o.1 == 10) = true := by simpa using h10
      rw [e, if_pos h10, cond_true]
      by_cases h : 0 ≤ o.2 <;> simp [h]
    · have e : (o.1 == 10) = false := by simpa using h10
      rw [e, if_neg h10, cond_false]
      by_cases h : o.2 = 0 <;> simp [h]
theorem rvalid_loop {R : Type} (k : Nat) (two : Bool) (l : List (Int × Int)) (e0 e1 : Int → Option R) (hl : l.length ≤ 4294967296) : ∀ (n i j : Nat) (h : Int), l.length - i = n → i ≤ l.length → n < j → -4294967296 * 2 ≤ h → h ≤ i →
    tilefarmref14_Valid.loop0 k j l two h i e0 e1 = vgo two e0 e1 (l.drop i) h := by
  intro n
  induction n with
  | zero =>
    intro i j h hn hi hj h1 h2
    have e : i = l.length := by omega
    obtain ⟨j, rfl⟩ : ∃ j', j = j' + 1 := ⟨j - 1, by omega⟩
    rw [tilefarmref14_Valid.loop0_s, e, decide_eq_false (by omega), List.drop_length]
    rfl
  | succ n ih =>
    intro i j h hn hi hj h1 h2
    obtain ⟨j, rfl⟩ : ∃ j', j = j' + 1 := ⟨j - 1, by omega⟩
    have hlt : i < l.length := by omega
    rw [tilefarmref14_Valid.loop0_s, decide_eq_true (by omega), List.drop_eq_getElem_cons hlt]
    simp only [cond_true]
    rw [if_pos (by omega), Int.toNat_natCast, List.getElem?_eq_getElem hlt]
    generalize hgo : l[i] = o
    simp only [Option.bind_some, rarg_ok]
    have htk := tk_le o.1
    rw [vgo_cons]
    by_cases hb1 : o.1 < 0
    · rw [decide_eq_true hb1, if_pos (.inl (by omega))]; rfl
    rw [decide_eq_false hb1, cond_false]
    by_cases hb2 : o.1 > 11
    · rw [decide_eq_true hb2, if_pos (.inl (by omega))]; rfl
    rw [decide_eq_false hb2, cond_false, rtakes_ok k (by omega) (by omega)]
    simp only [Option.bind_some]
    have next : argB o = true → ¬ h < tk o.1 → tilefarmref14_Valid.loop0 k j l two (w64 (h + (w64 (1 - ((tk o.1 : Nat) : Int))))) (w64 ((i : Int) + 1)) e0 e1 = vgo two e0 e1 (l.drop (i + 1)) (h + (1 - tk o.1)) := by
      intro _ hh
      rw [w64_succ i (by omega), w64_id (n := 1 - ((tk o.1 : Nat) : Int)) (by omega) (by omega), w64_id (n := h + (1 - ((tk o.1 : Nat) : Int))) (by omega) (by omega)]
      exact ih (i + 1) j _ (by omega) (by omega) (by omega) (by omega) (by omega)
    have hb : 0 ≤ o.1 ∧ o.1 ≤ 11 := by omega
    by_cases h11 : o.1 = 1
    · have e : (o.1 == 1) = true := by simpa using h11
      rw [e]
      cases two with
      | false => simp [h11]
      | true =>
        by_cases hh : h < tk o.1
        · simp [hb, hh]
        · cases ha : argB o with
          | false => simp [hb, hh]
          | true =>
            have := next ha hh
            simp [hb, hh, this]
    · have e : (o.1 == 1) = false := by simpa using h11
      rw [e]
      by_cases hh : h < tk o.1
      · simp [hb, hh]
      · cases ha : argB o with
        | false => simp [hb, hh, h11]
        | true =>
          have := next ha hh
          simp [hb, hh, h11, this]
theorem rvalid_ok (k : Nat) (l : List (Int × Int)) (two : Bool) (hk : 33 ≤ k) : tilefarmref14_Valid k l two = some ((vcode l two, ()), ()) := by
  unfold tilefarmref14_Valid vcode
  by_cases h0 : l.length = 0
  · have e : (((l.length : Nat) : Int) == 0) = true := by simp [h0]
    rw [e, if_neg (by omega)]; rfl
  have e : (((l.length : Nat) : Int) == 0) = false := by
    cases h : (((l.length : Nat) : Int) == 0) with
    | false => rfl
    | true => have := eq_of_beq h; omega
  rw [e, cond_false]
  by_cases h1 : l.length ≤ 32
  · rw [decide_eq_false (by omega), if_pos (by omega), cond_false]
    have := rvalid_loop (R := (Int × Unit) × Unit) k two l (fun z => some ((z, ()), ())) (fun z => (bif z != 1 then (some ((1, ()), ())) else (some ((0, ()), ())))) (by omega) l.length 0 k 0 rfl (by omega) (by omega) (by omega) (by omega)
    rw [show ((0 : Nat) : Int) = 0 from rfl] at this
    rw [this, List.drop_zero]
    obtain ⟨c, hc⟩ := vgo_some two l 0
    rw [hc]
    have hm := vgo_map two (fun c => some ((c, ()), ())) some (fun h => some (if h ≠ 1 then 1 else 0)) l 0
    rw [hc] at hm
    have e : (fun x : Int => (some (if x ≠ 1 then (1 : Int) else 0)).bind fun c => some ((c, ()), ())) = fun z => (bif z != 1 then (some ((1, ()), ())) else (some ((0, ()), ()))) := by
      funext z
      by_cases h : z = 1
      · subst h; rfl
      · have e : (z != 1) = true := by simpa using h
        rw [e, if_pos h]; rfl
    rw [e] at hm
    exact hm.symm
  · rw [decide_eq_true (by omega), if_neg (by omega)]; rfl
theorem acc_ok (k : Nat) (n : Int) : tilefarmref7_Acc k n = some ((decide (inM n), ()), ()) := by
  unfold tilefarmref7_Acc
  by_cases h : -17592186044416 ≤ n <;> simp [h, inM]
theorem rabs_ok (k : Nat) {n : Int} (h1 : -9223372036854775808 < n) (h2 : n < 9223372036854775808) : tilefarmref14_abs k n = some ((ab n, ()), ()) := by
  unfold tilefarmref14_abs ab
  by_cases h : n < 0
  · rw [decide_eq_true h, if_pos h, w64_id (by omega) (by omega)]
    simp
  · rw [decide_eq_false h, if_neg h]; rfl
theorem tms_eq (x y : Int) : tms x y = if ab (x * y) ≤ 17592186044416 then x * y else 17592186044417 := by
  split
  · rename_i h; exact tms_of h
  · rename_i h
    unfold tms
    rw [if_pos]
    refine Classical.byContradiction fun hc => h ?_
    exact inM_ab.1 (tms_in hc)
theorem rtimes_ok (k : Nat) {x y : Int} (hx : inM x) (hy : inM y) : tilefarmref14_times k x y = some ((if ab (x * y) ≤ 17592186044416 then x * y else 0, decide (ab (x * y) ≤ 17592186044416), ()), ()) := by
  have hx' := hx; have hy' := hy
  unfold inM at hx' hy'
  have hsmall : ab (x * y) ≤ 17592186044416 → w64 (x * y) = x * y := fun h => by
    have := ab_le.1 h
    exact w64_id (by omega) (by omega)
  -- the reference's test
  have test : ∀ u v : Int, 0 ≤ u → 0 < v → v ≤ 17592186044416 → (decide (u > w64 ((17592186044416 : Int).tdiv v))) = !decide (u * v ≤ 17592186044416) := by
    intro u v hu hv hv2
    have d1 : 0 ≤ 17592186044416 / v := Int.ediv_nonneg (by omega) (by omega)
    have d2 : 17592186044416 / v ≤ 17592186044416 := Int.ediv_le_self _ (by omega)
    rw [Int.tdiv_eq_ediv_of_nonneg (by omega), w64_id (by omega) (by omega)]
    by_cases h : u * v ≤ 17592186044416
    · have := (Int.le_ediv_iff_mul_le hv).2 h
      rw [decide_eq_true h, decide_eq_false (by omega)]; rfl
    · have : ¬ u ≤ 17592186044416 / v := fun h' => h ((Int.le_ediv_iff_mul_le hv).1 h')
      rw [decide_eq_false h, decide_eq_true (by omega)]; rfl
  have fin : ∀ (u v : Int) (b : Bool), ab x * ab y = u * v → 0 ≤ u → 0 < v → v ≤ 17592186044416 → b = decide (u > w64 ((17592186044416 : Int).tdiv v)) → (bif b then (some ((0, false, ()), ())) else (some ((w64 (x * y), true, ()), ())) : Option ((Int × Bool × Unit) × Unit)) = some ((if ab (x * y) ≤ 17592186044416 then x * y else 0, decide (ab (x * y) ≤ 17592186044416), ()), ()) := by
    intro u v b he hu hv hv2 hb
    rw [hb, test u v hu hv hv2, ab_mul, he]
    by_cases h : u * v ≤ 17592186044416
    · rw [decide_eq_true h, if_pos h, hsmall (by rw [ab_mul, he]; exact h)]; rfl
    · rw [decide_eq_false h, if_neg h]; rfl
  have zero : y = 0 → (some ((w64 (x * y), true, ()), ()) : Option ((Int × Bool × Unit) × Unit)) = some ((if ab (x * y) ≤ 17592186044416 then x * y else 0, decide (ab (x * y) ≤ 17592186044416), ()), ()) := by
    intro h
    subst h
    rw [Int.mul_zero]
    rfl
  unfold tilefarmref14_times
  rw [w64_id (n := 0 - x) (by omega) (by omega), w64_id (n := 0 - y) (by omega) (by omega)]
  by_cases hx0 : x < 0 <;> by_cases hy0 : y < 0
  · have ex : ab x = 0 - x := by unfold ab; rw [if_pos hx0]; omega
    have ey : ab y = 0 - y := by unfold ab; rw [if_pos hy0]; omega
    rw [decide_eq_true hx0, decide_eq_true hy0, cond_true, cond_true, decide_eq_true (by omega : 0 - y > 0), cond_true, if_neg (by omega)]
    exact fin (0 - x) (0 - y) _ (by rw [ex, ey]) (by omega) (by omega) (by omega) rfl
  · have ex : ab x = 0 - x := by unfold ab; rw [if_pos hx0]; omega
    have ey : ab y = y := by unfold ab; rw [if_neg hy0]
    rw [decide_eq_true hx0, decide_eq_false hy0, cond_true, cond_false]
    by_cases h0 : y = 0
    · rw [decide_eq_false (by omega), cond_false]; exact zero h0
    · rw [decide_eq_true (by omega : y > 0), cond_true, if_neg h0]
      exact fin (0 - x) y _ (by rw [ex, ey]) (by omega) (by omega) (by omega) rfl
  · have ex : ab x = x := by unfold ab; rw [if_neg hx0]
    have ey : ab y = 0 - y := by unfold ab; rw [if_pos hy0]; omega
    rw [decide_eq_false hx0, decide_eq_true hy0, cond_false, cond_true, decide_eq_true (by omega : 0 - y > 0), cond_true, if_neg (by omega)]
    exact fin x (0 - y) _ (by rw [ex, ey]) (by omega) (by omega) (by omega) rfl
  · have ex : ab x = x := by unfold ab; rw [if_neg hx0]
    have ey : ab y = y := by unfold ab; rw [if_neg hy0]
    rw [decide_eq_false hx0, decide_eq_false hy0, cond_false, cond_false]
    by_cases h0 : y = 0
    · rw [decide_eq_false (by omega), cond_false]; exact zero h0
    · rw [decide_eq_true (by omega : y > 0), cond_true, if_neg h0]
      exact fin x y _ (by rw [ex, ey]) (by omega) (by omega) (by omega) rfl
theorem floor_tdiv {t d : Int} (hd : 0 < d) : (if t.tdiv d * d > t then t.tdiv d - 1 else t.tdiv d) = t.fdiv d := by
  rw [Int.fdiv_eq_ediv_of_nonneg _ (by omega)]
  have h2 := Int.mul_ediv_add_emod t d
  have h3 := Int.emod_nonneg t (by omega : d ≠ 0)
  have h4 := Int.emod_lt_of_pos t hd
  rw [Int.mul_comm] at h2
  have hq : t.tdiv d = t / d ∨ (t.tdiv d = t / d + 1 ∧ t % d ≠ 0) := by
    rw [Int.tdiv_eq_ediv]
    by_cases h : 0 ≤ t ∨ d ∣ t
    · rw [if_pos h]; exact .inl (by omega)
    · rw [if_neg h, Int.sign_eq_one_of_pos hd]
      exact .inr ⟨rfl, fun h0 => h (.inr (Int.dvd_of_emod_eq_zero h0))⟩
  generalize t / d = q at *
  generalize t % d = m at *
  rcases hq with e | ⟨e, hm⟩
  · rw [e, if_neg (by omega)]
  · rw [e, Int.add_mul, Int.one_mul, if_pos (by omega)]; omega
theorem rshift_ok (k : Nat) {x s : Int} (hx : inM x) (h0 : 0 ≤ s) (h1 : s ≤ 24) : tilefarmref7_Shift k x s = some ((shf x s, ()), ()) := by
  have hx' := hx
  unfold inM at hx'
  unfold tilefarmref7_Shift tilefarmref7_IsShift shf
  rw [acc_ok, decide_eq_true hx, Option.bind_some]
  simp only [Bool.not_true, cond_false]
  rw [decide_eq_true (show s ≥ 0 from h0), decide_eq_true h1]
  simp only [cond_true, Option.bind_some, Bool.not_true, cond_false]
  by_cases hs : s = 0
  · subst hs; rfl
  · have e : (s == 0) = false := by simpa using hs
    have hm1 : min (s - 1).toNat IntKind.i64.bits = s.toNat - 1 := by
      show min (s - 1).toNat 64 = s.toNat - 1
      omega
    have hm2 : min s.toNat IntKind.i64.bits = s.toNat := by
      show min s.toNat 64 = s.toNat
      omega
    obtain ⟨n, hn⟩ : ∃ n, s.toNat = n + 1 := ⟨s.toNat - 1, by omega⟩
    have hp := pow_small (s := n) (by omega)
    rw [e, cond_false, if_neg hs, w64_id (n := s - 1) (by omega) (by omega), u64_id (n := s - 1) (by omega) (by omega), u64_id (n := s) (by omega) (by omega), if_neg (by omega), if_neg (by omega), hm1, hm2, hn, Nat.add_sub_cancel, Int.one_mul, Int.one_mul, Int.pow_succ]
    generalize (2 : Int) ^ n = p at *
    rw [w64_id (n := p * 2) (by omega) (by omega), w64_id (n := p) (by omega) (by omega), w64_id (n := x + p) (by omega) (by omega), if_neg (by omega)]
    have hd : 0 < p * 2 := by omega
    have hq := tdiv_ab (x := x + p) (y := p * 2) (by omega)
    have hx2 : ab (x + p) ≤ 17592194433024 := ab_le.2 (by omega)
    have hq2 := ab_le.1 (Int.le_trans hq hx2)
    have hqd : -17592211210240 ≤ (x + p).tdiv (p * 2) * (p * 2) ∧ (x + p).tdiv (p * 2) * (p * 2) ≤ 17592211210240 := by
      have h := Int.mul_tdiv_add_tmod (x + p) (p * 2)
      have h5 := Int.tmod_lt_of_pos (x + p) hd
      have h6 := tmod_gt (x + p) (p * 2) hd
      rw [Int.mul_comm] at h
      omega
    rw [w64_id (n := (x + p).tdiv (p * 2)) (by omega) (by omega), w64_id (n := (x + p).tdiv (p * 2) * (p * 2)) (by omega) (by omega), w64_id (n := (x + p).tdiv (p * 2) - 1) (by omega) (by omega), ← floor_tdiv hd]
    by_cases h : (x + p).tdiv (p * 2) * (p * 2) > x + p
    · rw [decide_eq_true h, if_pos h]; rfl
    · rw [decide_eq_false h, if_neg h]; rfl
theorem rspan_ok (k : Nat) {x y s : Int} (hx : inM x) (hy : inM y) (h0 : 0 ≤ s) (h1 : s ≤ 24) : tilefarmref7_Span k x y s = some ((shf x s, shf y s, ()), ()) := by
  unfold tilefarmref7_Span
  rw [rshift_ok k hx h0 h1, rshift_ok k hy h0 h1]
  rfl
theorem acc2 (k : Nat) (v : Int × Int) : (tilefarmref7_Acc k v.1).bind (fun (y : (Bool × Unit) × (Unit)) => bif y.1.1 then ((tilefarmref7_Acc k v.2).bind fun (y4 : (Bool × Unit) × (Unit)) => some ((v, y4.1.1, ()), ())) else (some ((v, false, ()), ()))) = some ((v, decide (inP v), ()), ()) := by
  rw [acc_ok, acc_ok]
  by_cases h1 : inM v.1 <;> simp [h1, inP]
/-- The reference's operation on intervals. -/
theorem rnext_ok (k : Nat) {o : Int × Int} {x y : Int × Int} {a b : Int} (hx : inP x) (hy : inP y) (c1 : 0 ≤ o.1) (c2 : o.1 ≤ 11) (ha : argB o = true) : ∃ v, tilefarmref14_next k o x y a b = some ((v, decide (inP (istep a b o x y)), ()), ()) ∧ (inP (istep a b o x y) → v = istep a b o x y) := by
  obtain ⟨x1, x2⟩ := hx
  obtain ⟨y1, y2⟩ := hy
  have a1 := x1; have a2 := x2; have b1 := y1; have b2 := y2
  unfold inM at a1 a2 b1 b2
  have n1 := inM_ab.1 x1
  have n2 := inM_ab.1 x2
  have m1 := ab_nonneg x.1
  have m2 := ab_nonneg x.2
  have hn : 0 ≤ mm true (ab x.1) (ab x.2) ∧ mm true (ab x.1) (ab x.2) ≤ 17592186044416 := by rw [mm_true]; split <;> omega
  unfold tilefarmref14_next istep comb
  rw [rabs_ok k (n := x.1) (by omega) (by omega), rabs_ok k (n := x.2) (by omega) (by omega)]
  simp only [Option.bind_some]
  rw [w64_id (n := x.1 + y.1) (by omega) (by omega), w64_id (n := x.2 + y.2) (by omega) (by omega), w64_id (n := x.1 - y.2) (by omega) (by omega), w64_id (n := x.2 - y.1) (by omega) (by omega), w64_id (n := y.2 - x.1) (by omega) (by omega), w64_id (n := 0 - mm true (ab x.1) (ab x.2)) (by omega) (by omega)]
  by_cases h0 : o.1 = 0
  · rw [show (o.1 == 0) = true by simpa using h0, if_pos h0]
    exact ⟨(0, a), acc2 k (0, a), fun _ => rfl⟩
  rw [show (o.1 == 0) = false by simpa using h0, if_neg h0, cond_false]
  by_cases h1 : o.1 = 1
  · rw [show (o.1 == 1) = true by simpa using h1, if_pos h1]
    exact ⟨(0, b), acc2 k (0, b), fun _ => rfl⟩
  rw [show (o.1 == 1) = false by simpa using h1, if_neg h1, cond_false]
  by_cases h2 : o.1 = 2
  · rw [show (o.1 == 2) = true by simpa using h2, if_pos h2]
    exact ⟨(o.2, o.2), acc2 k (o.2, o.2), fun _ => rfl⟩
  rw [show (o.1 == 2) = false by simpa using h2, if_neg h2, cond_false]
  by_cases h10 : o.1 = 10
  · have hs : 0 ≤ o.2 ∧ o.2 ≤ 24 := by unfold argB at ha; rw [if_neg h2, if_pos h10] at ha; simpa using ha
    rw [if_pos h10, show (o.1 == 3) = false by rw [h10]; rfl, show (o.1 == 4) = false by rw [h10]; rfl, show (o.1 == 5) = false by rw [h10]; rfl, show (o.1 == 6) = false by rw [h10]; rfl, show (o.1 == 7) = false by rw [h10]; rfl, show (o.1 == 8) = false by rw [h10]; rfl, show (o.1 == 9) = false by rw [h10]; rfl, show (o.1 == 10) = true by rw [h10]; rfl, rspan_ok k x1 x2 hs.1 hs.2]
    exact ⟨(shf x.1 o.2, shf x.2 o.2), acc2 k (shf x.1 o.2, shf x.2 o.2), fun _ => rfl⟩
  by_cases h11 : o.1 = 11
  · rw [if_neg h10, if_pos h11, show (o.1 == 3) = false by rw [h11]; rfl, show (o.1 == 4) = false by rw [h11]; rfl, show (o.1 == 5) = false by rw [h11]; rfl, show (o.1 == 6) = false by rw [h11]; rfl, show (o.1 == 7) = false by rw [h11]; rfl, show (o.1 == 8) = false by rw [h11]; rfl, show (o.1 == 9) = false by rw [h11]; rfl, show (o.1 == 10) = false by rw [h11]; rfl]
    exact ⟨(0, mm true (ab x.1) (ab x.2)), acc2 k (0, mm true (ab x.1) (ab x.2)), fun _ => rfl⟩
  rw [if_neg h10, if_neg h11]
  by_cases h3 : o.1 = 3
  · rw [show (o.1 == 3) = true by simpa using h3, if_pos h3]
    exact ⟨_, acc2 k (x.1 + y.1, x.2 + y.2), fun _ => rfl⟩
  rw [show (o.1 == 3) = false by simpa using h3, if_neg h3, cond_false]
  by_cases h4 : o.1 = 4
  · rw [show (o.1 == 4) = true by simpa using h4, if_pos h4]
    exact ⟨_, acc2 k (x.1 - y.2, x.2 - y.1), fun _ => rfl⟩
  rw [show (o.1 == 4) = false by simpa using h4, if_neg h4, cond_false]
  by_cases h5 : o.1 = 5
  · rw [show (o.1 == 5) = true by simpa using h5, if_pos h5, cond_true]
    unfold tilefarmref14_product
    rw [rtimes_ok k x1 y1, rtimes_ok k x1 y2, rtimes_ok k x2 y1, rtimes_ok k x2 y2]
    have big : ∀ u v : Int, ¬ ab (u * v) ≤ 17592186044416 → tms u v = 17592186044417 := fun u v h => by rw [tms_eq, if_neg h]
    have t1 := mm_t_ge (tms x.1 y.1) (tms x.1 y.2)
    have t2 := mm_t_ge (mm true (tms x.1 y.1) (tms x.1 y.2)) (tms x.2 y.1)
    have t3 := mm_t_ge (mm true (mm true (tms x.1 y.1) (tms x.1 y.2)) (tms x.2 y.1)) (tms x.2 y.2)
    have no : (tms x.1 y.1 = 17592186044417 ∨ tms x.1 y.2 = 17592186044417 ∨ tms x.2 y.1 = 17592186044417 ∨ tms x.2 y.2 = 17592186044417) → ¬ inP (mm false (mm false (mm false (tms x.1 y.1) (tms x.1 y.2)) (tms x.2 y.1)) (tms x.2 y.2), mm true (mm true (mm true (tms x.1 y.1) (tms x.1 y.2)) (tms x.2 y.1)) (tms x.2 y.2)) := by
      rintro h ⟨_, h2⟩
      unfold inM at h2
      simp only at h2
      omega
    by_cases q1 : ab (x.1 * y.1) ≤ 17592186044416
    · by_cases q2 : ab (x.1 * y.2) ≤ 17592186044416
      · by_cases q3 : ab (x.2 * y.1) ≤ 17592186044416
        · by_cases q4 : ab (x.2 * y.2) ≤ 17592186044416
          · rw [tms_of q1, tms_of q2, tms_of q3, tms_of q4]
            simp only [Option.bind_some, decide_eq_true q1, decide_eq_true q2, decide_eq_true q3, decide_eq_true q4, cond_true, if_pos q1, if_pos q2, if_pos q3, if_pos q4]
            exact ⟨_, acc2 k (_, _), fun _ => rfl⟩
          · have hno := no (.inr (.inr (.inr (big _ _ q4))))
            rw [decide_eq_false hno]
            simp only [Option.bind_some, decide_eq_true q1, decide_eq_true q2, decide_eq_true q3, decide_eq_false q4, cond_true, cond_false]
            exact ⟨_, rfl, fun h => absurd h hno⟩
        · have hno := no (.inr (.inr (.inl (big _ _ q3))))
          rw [decide_eq_false hno]
          simp only [Option.bind_some, decide_eq_true q1, decide_eq_true q2, decide_eq_false q3, cond_true, cond_false]
          exact ⟨_, rfl, fun h => absurd h hno⟩
      · have hno := no (.inr (.inl (big _ _ q2)))
        rw [decide_eq_false hno]
        simp only [Option.bind_some, decide_eq_true q1, decide_eq_false q2, cond_true, cond_false]
        exact ⟨_, rfl, fun h => absurd h hno⟩
    · have hno := no (.inl (big _ _ q1))
      rw [decide_eq_false hno]
      simp only [Option.bind_some, decide_eq_false q1, cond_false]
      exact ⟨_, rfl, fun h => absurd h hno⟩
  rw [show (o.1 == 5) = false by simpa using h5, if_neg h5, cond_false]
  by_cases h6 : o.1 = 6
  · rw [show (o.1 == 6) = true by simpa using h6, if_pos h6]
    exact ⟨_, acc2 k (mm false x.1 y.1, mm false x.2 y.2), fun _ => rfl⟩
  rw [show (o.1 == 6) = false by simpa using h6, if_neg h6, cond_false]
  by_cases h7 : o.1 = 7
  · rw [show (o.1 == 7) = true by simpa using h7, if_pos h7]
    exact ⟨_, acc2 k (mm true x.1 y.1, mm true x.2 y.2), fun _ => rfl⟩
  rw [show (o.1 == 7) = false by simpa using h7, if_neg h7, cond_false]
  by_cases h8 : o.1 = 8
  · rw [show (o.1 == 8) = true by simpa using h8, if_pos h8]
    exact ⟨_, acc2 k (0, mm true (x.2 - y.1) (y.2 - x.1)), fun _ => rfl⟩
  have h9 : o.1 = 9 := by omega
  rw [show (o.1 == 8) = false by simpa using h8, if_neg h8, cond_false, show (o.1 == 9) = true by simpa using h9]
  exact ⟨_, acc2 k (0 - mm true (ab x.1) (ab x.2), mm true (ab x.1) (ab x.2)), fun _ => rfl⟩
theorem rinterval_loop {R : Type} (k : Nat) (l : List (Int × Int)) (a b : Int) (e0 : Int → Int → Int → Option R) (e1 : List (Int × Int) → Option R) (hl : l.length ≤ 32) : ∀ (n i j : Nat) (st : List (Int × Int)), l.length - i = n → i ≤ l.length → n < j → st.length ≤ i → hOk (l.drop i) st.length → (∀ x ∈ st, inP x) →
    tilefarmref14_Interval.loop0 k j l a b i st e0 e1 = irun a b (e0 0 0 11) e1 (l.drop i) st := by
  intro n
  induction n with
  | zero =>
    intro i j st hn hi hj hst hok hin
    have e : i = l.length := by omega
    obtain ⟨j, rfl⟩ : ∃ j', j = j' + 1 := ⟨j - 1, by omega⟩
    rw [tilefarmref14_Interval.loop0_s, e, decide_eq_false (by omega), List.drop_length]
    rfl
  | succ n ih =>
    intro i j st hn hi hj hst hok hin
    obtain ⟨j, rfl⟩ : ∃ j', j = j' + 1 := ⟨j - 1, by omega⟩
    have hlt : i < l.length := by omega
    rw [List.drop_eq_getElem_cons hlt] at hok ⊢
    rw [tilefarmref14_Interval.loop0_s, decide_eq_true (by omega)]
    simp only [cond_true]
    rw [if_pos (by omega), Int.toNat_natCast, List.getElem?_eq_getElem hlt]
    generalize hgo : l[i] = o at *
    obtain ⟨c1, c2, htk, harg, hrest⟩ := hok
    have htk2 := tk_le o.1
    have hw : w64 (((st.length : Nat) : Int) - ((tk o.1 : Nat) : Int)) = ((st.length - tk o.1 : Nat) : Int) := by rw [w64_id (by omega) (by omega)]; omega
    simp only [Option.bind_some, rtakes_ok k c1 c2, hw, Int.toNat_natCast]
    have mem : ∀ p, p < st.length → inP (st.getD p (0, 0)) := fun p hp => by
      have := getP_of hp
      exact hin _ (List.mem_of_getElem? this)
    have zero : inP (0, 0) := by unfold inP inM; omega
    have fin : ∀ x y, inP x → inP y → istep a b o x y = ione a b o st → ((tilefarmref14_next k o x y a b).bind fun (y7 : ((Int × Int) × Bool × Unit) × (Unit)) => bif !y7.1.2.1 then (e0 0 0 11) else (if 0 ≤ ((st.length - tk o.1 : Nat) : Int) ∧ ((st.length - tk o.1 : Nat) : Int) ≤ ((st.length : Nat) : Int) then if ((st.take (st.length - tk o.1)) ++ [y7.1.1]).length * 16 ≤ 140737488355328 then tilefarmref14_Interval.loop0 k j l a b (w64 ((i : Int) + 1)) ((st.take (st.length - tk o.1)) ++ [y7.1.1]) e0 e1 else none else none)) =
        irun a b (e0 0 0 11) e1 (o :: l.drop (i + 1)) st := by
      intro x y hx hy he
      obtain ⟨v, h1, h2⟩ := rnext_ok k (a := a) (b := b) hx hy c1 c2 harg
      rw [he] at h1 h2
      rw [h1]
      unfold irun
      simp only [Option.bind_some]
      by_cases hm : inP (ione a b o st)
      · rw [decide_eq_true hm, if_pos hm, h2 hm]
        have hlen : ((st.take (st.length - tk o.1)) ++ [ione a b o st]).length = st.length - tk o.1 + 1 := by rw [List.length_append, List.length_take]; simp
        simp only [Bool.not_true, cond_false]
        rw [if_pos (by omega), if_pos (by rw [hlen]; omega), w64_succ i (by omega)]
        refine ih (i + 1) j _ (by omega) (by omega) (by omega) (by rw [hlen]; omega) (by rw [hlen]; rw [show st.length - tk o.1 + 1 = st.length + 1 - tk o.1 by omega]; exact hrest) fun x hx => ?_
        rcases List.mem_append.1 hx with hx | hx
        · exact hin x (List.mem_of_mem_take hx)
        · rw [List.mem_singleton.1 hx]; exact hm
      · rw [decide_eq_false hm, if_neg hm]; rfl
    have out : ∀ p, st.length ≤ p → st.getD p (0, 0) = (0, 0) := fun p hp => by rw [List.getD_eq_getElem?_getD, List.getElem?_eq_none hp]; rfl
    by_cases h2 : tk o.1 = 2
    · have e : ((((tk o.1 : Nat) : Int)) == 2) = true := by rw [h2]; rfl
      have hw1 : w64 (((st.length : Nat) : Int) - 1) = ((st.length - 1 : Nat) : Int) := by rw [w64_id (by omega) (by omega)]; omega
      rw [e, cond_true, hw1, if_pos (by omega), Int.toNat_natCast, getP_of (by omega), Option.bind_some, decide_eq_true (by omega : (((tk o.1 : Nat) : Int)) > 0), cond_true, if_pos (by omega), getP_of (by omega), Option.bind_some, if_pos (by omega)]
      exact fin _ _ (mem _ (by omega)) (mem _ (by omega)) (by unfold ione; rw [show st.length - 1 = st.length - tk o.1 + 1 by omega])
    · have e : ((((tk o.1 : Nat) : Int)) == 2) = false := by
        cases h : ((((tk o.1 : Nat) : Int)) == 2) with
        | false => rfl
        | true => have := eq_of_beq h; omega
      rw [e, cond_false]
      by_cases h1 : tk o.1 = 1
      · rw [decide_eq_true (by omega : (((tk o.1 : Nat) : Int)) > 0), cond_true, if_pos (by omega), getP_of (by omega), Option.bind_some, if_pos (by omega)]
        exact fin _ _ (mem _ (by omega)) zero (by unfold ione; rw [out (st.length - tk o.1 + 1) (by omega)])
      · rw [decide_eq_false (by omega), cond_false, if_pos (by omega)]
        exact fin _ _ zero zero (by unfold ione; rw [out (st.length - tk o.1) (by omega), out (st.length - tk o.1 + 1) (by omega)])
theorem rvalue_ok (k : Nat) (n : Int) : tilefarmref9_Value k n = some ((decide (1 ≤ n ∧ n ≤ 4294967296), ()), ()) := by
  unfold tilefarmref9_Value
  by_cases h : 1 ≤ n <;> simp [h]
theorem rinterval_ok (k : Nat) (l : List (Int × Int)) (a b : Int) (hk : 33 ≤ k) : tilefarmref14_Interval k l a b = some (((iv l a b).1, (iv l a b).2.1, (iv l a b).2.2, ()), ()) := by
  unfold tilefarmref14_Interval iv
  rw [rvalid_ok k l true hk]
  simp only [Option.bind_some]
  by_cases hv : vcode l true = 0
  · have hv' : ¬ vcode l true ≠ 0 := fun h => h hv
    rw [show (vcode l true != 0) = false by simpa using hv, cond_false, if_neg hv', rvalue_ok, rvalue_ok]
    simp only [Option.bind_some]
    by_cases ha : 1 ≤ a ∧ a ≤ 4294967296
    · rw [decide_eq_true ha]
      simp only [Bool.not_true, cond_false]
      by_cases hb : 1 ≤ b ∧ b ≤ 4294967296
      · obtain ⟨h1, h2, h3⟩ := vcode_hOk hv
        rw [decide_eq_true hb, if_pos ⟨ha.1, ha.2, hb⟩]
        simp only [Bool.not_true, cond_false]
        have := rinterval_loop (R := (Int × Int × Int × Unit) × Unit) k l a b (fun (z28 : Int) (z29 : Int) (z30 : Int) => (some ((z28, z29, z30, ()), ()))) (fun (z31 : List (Int × Int)) => (if 0 ≤ (0 : Int) ∧ (0 : Int) < ((z31.length : Nat) : Int) then (z31[0]?).bind fun (x32 : Int × Int) => if 0 ≤ (0 : Int) ∧ (0 : Int) < ((z31.length : Nat) : Int) then (z31[0]?).bind fun (x33 : Int × Int) => some ((x32.1, x33.2, 0, ()), ()) else none else none)) h2 l.length 0 k [] rfl (by omega) (by omega) (by simp) h3 (fun x hx => by cases hx)
        refine Eq.trans this ?_
        rw [List.drop_zero]
        have hc := irun_congr (R := (Int × Int × Int × Unit) × Unit) a b (some ((0, 0, 11, ()), ())) (fun (z31 : List (Int × Int)) => (if 0 ≤ (0 : Int) ∧ (0 : Int) < ((z31.length : Nat) : Int) then (z31[0]?).bind fun (x32 : Int × Int) => if 0 ≤ (0 : Int) ∧ (0 : Int) < ((z31.length : Nat) : Int) then (z31[0]?).bind fun (x33 : Int × Int) => some ((x32.1, x33.2, 0, ()), ()) else none else none)) (fun st => some (((st.getD 0 (0, 0)).1, (st.getD 0 (0, 0)).2, 0, ()), ())) (fun st hst => by
          rw [if_pos (by omega), getP_of (by omega), Option.bind_some, if_pos (by omega)]; rfl) l [] h3
        rw [hc]
        obtain ⟨c, hc⟩ := irun_some a b l []
        have hm := irun_map a b (fun c : Int × Int × Int => some ((c.1, c.2.1, c.2.2, ()), ())) (some (0, 0, 11)) (fun st => some ((st.getD 0 (0, 0)).1, (st.getD 0 (0, 0)).2, 0)) l []
        rw [hc] at hm
        unfold irv
        rw [hc]
        exact hm.symm
      · rw [decide_eq_false hb, if_neg (fun h => hb h.2.2)]; rfl
    · rw [decide_eq_false ha, if_neg (fun h => ha ⟨h.1, h.2.1⟩)]; rfl
  · have hv' : vcode l true ≠ 0 := hv
    rw [show (vcode l true != 0) = true by simpa using hv, cond_true, if_pos hv']
abbrev Pl := Int × Int × Int × List Int
abbrev Rc := Int × Int × Int × Int
def sizeP (w h m : Int) : Prop := 1 ≤ w ∧ w ≤ 128 ∧ 1 ≤ h ∧ h ≤ 128 ∧ w * h ≤ 4096 ∧ 1 ≤ m ∧ m ≤ 4294967296
instance (w h m : Int) : Decidable (sizeP w h m) := inferInstanceAs (Decidable (_ ∧ _))
def pixP (m : Int) (l : List Int) : Prop := ∀ x ∈ l, 0 ≤ x ∧ x ≤ m
instance (m : Int) (l : List Int) : Decidable (pixP m l) := inferInstanceAs (Decidable (∀ x ∈ l, _))
def planeP (p : Pl) : Prop := sizeP p.1 p.2.1 p.2.2.1 ∧ (p.2.2.2.length : Int) = p.1 * p.2.1 ∧ pixP p.2.2.1 p.2.2.2
instance (p : Pl) : Decidable (planeP p) := inferInstanceAs (Decidable (_ ∧ _))
theorem mul_le_of {a b c d : Int} (h1 : 0 ≤ a) (h2 : a ≤ c) (h3 : 0 ≤ b) (h4 : b ≤ d) : 0 ≤ a * b ∧ a * b ≤ c * d :=
  ⟨Int.mul_nonneg h1 h3, Int.mul_le_mul h2 h4 h3 (by omega)⟩
theorem mul_ok (k : Nat) {a b c : Int} (hc : 0 ≤ c) (hc2 : c ≤ 4611686018427387904) : ∃ v, extent_Mul k a b c = some ((v, decide (0 ≤ a ∧ 0 ≤ b ∧ a * b ≤ c), ()), ()) ∧ (0 ≤ a ∧ 0 ≤ b ∧ a * b ≤ c → v = a * b) := by
  unfold extent_Mul
  by_cases ha : a < 0
  · rw [decide_eq_true ha, cond_true, decide_eq_false (p := 0 ≤ a ∧ _) (fun h => by omega)]
    exact ⟨_, rfl, fun h => by omega⟩
  rw [decide_eq_false ha, cond_false]
  by_cases hb : b < 0
  · rw [decide_eq_true hb, cond_true, decide_eq_false (p := 0 ≤ a ∧ _) (fun h => by omega)]
    exact ⟨_, rfl, fun h => by omega⟩
  rw [decide_eq_false hb, cond_false, decide_eq_false (p := c < 0) (by omega), cond_false]
  by_cases h0 : a = 0
  · subst h0
    rw [show ((0 : Int) != 0) = false from rfl, cond_false, Int.zero_mul, decide_eq_true (p := (0 : Int) ≤ 0 ∧ _) (by omega)]
    exact ⟨_, rfl, fun _ => rfl⟩
  have e : (a != 0) = true := by simpa using h0
  have hd : c.tdiv a = c / a := Int.tdiv_eq_ediv_of_nonneg hc
  have hd1 : c / a ≤ c := Int.ediv_le_self a hc
  have hd2 : 0 ≤ c / a := Int.ediv_nonneg hc (by omega)
  rw [e, cond_true, if_neg h0, hd, w64_id (by omega) (by omega)]
  have key : b > c / a ↔ ¬ a * b ≤ c := by
    rw [Int.mul_comm, ← Int.le_ediv_iff_mul_le (by omega)]; omega
  by_cases hm : a * b ≤ c
  · rw [decide_eq_false (p := b > c / a) (fun h => key.1 h hm), cond_false, decide_eq_true (p := 0 ≤ a ∧ _) ⟨by omega, by omega, hm⟩]
    have := Int.mul_nonneg (a := a) (b := b) (by omega) (by omega)
    exact ⟨_, rfl, fun _ => w64_id (by omega) (by omega)⟩
  · rw [decide_eq_true (p := b > c / a) (key.2 hm), cond_true, decide_eq_false (p := 0 ≤ a ∧ _) (fun h => hm h.2.2)]
    exact ⟨_, rfl, fun h => (hm h.2.2).elim⟩
theorem rsize_ok (k : Nat) (w h m : Int) : tilefarmref4_Size k w h m = some ((decide (sizeP w h m), ()), ()) := by
  unfold tilefarmref4_Size sizeP
  by_cases h1 : 1 ≤ w
  by_cases h2 : w ≤ 128
  by_cases h3 : 1 ≤ h
  by_cases h4 : h ≤ 128
  · have := mul_le_of (show 0 ≤ w by omega) h2 (show 0 ≤ h by omega) h4
    rw [w64_id (n := w * h) (by omega) (by omega)]
    by_cases h5 : w * h ≤ 4096
    by_cases h6 : 1 ≤ m
    all_goals simp [*]
  all_goals simp [*]
theorem pixP_drop {m : Int} {l : List Int} {i : Nat} (hi : i < l.length) : pixP m (l.drop i) ↔ (0 ≤ l[i] ∧ l[i] ≤ m) ∧ pixP m (l.drop (i + 1)) := by
  unfold pixP
  constructor
  · intro h
    rw [List.drop_eq_getElem_cons hi] at h
    exact ⟨h _ (List.mem_cons_self), fun x hx => h x (List.mem_cons_of_mem _ hx)⟩
  · rintro ⟨h1, h2⟩ x hx
    rw [List.drop_eq_getElem_cons hi] at hx
    rcases List.mem_cons.1 hx with rfl | hx
    · exact h1
    · exact h2 x hx
theorem pixP_nil (m : Int) : pixP m [] := fun x h => by cases h
def coordP (n : Int) : Prop := -1048576 ≤ n ∧ n ≤ 1048576
instance (n : Int) : Decidable (coordP n) := inferInstanceAs (Decidable (_ ∧ _))
def noneP (r : Rc) : Prop := r.1 = 0 ∧ r.2.1 = 0 ∧ r.2.2.1 = 0 ∧ r.2.2.2 = 0
instance (r : Rc) : Decidable (noneP r) := inferInstanceAs (Decidable (_ ∧ _))
def rectP (r : Rc) : Prop := noneP r ∨ coordP r.1 ∧ coordP r.2.1 ∧ coordP r.2.2.1 ∧ coordP r.2.2.2 ∧ r.1 < r.2.2.1 ∧ r.2.1 < r.2.2.2
instance (r : Rc) : Decidable (rectP r) := inferInstanceAs (Decidable (_ ∨ _))
theorem none_ok (r : Rc) : (r.1 == 0 && (r.2.1 == 0 && (r.2.2.1 == 0 && (r.2.2.2 == 0 && true)))) = decide (noneP r) := by
  rw [Bool.eq_iff_iff, decide_eq_true_iff]
  unfold noneP
  simp
/-- A rectangle of points of a plane. -/
def goodP (r : Rc) (w h : Int) : Prop := 0 ≤ r.1 ∧ 0 ≤ r.2.1 ∧ r.2.2.1 ≤ w ∧ r.2.2.2 ≤ h ∧ r.1 < r.2.2.1 ∧ r.2.1 < r.2.2.2
instance (r : Rc) (w h : Int) : Decidable (goodP r w h) := inferInstanceAs (Decidable (_ ∧ _))
theorem cover_rect {w h : Int} (hw : 1 ≤ w ∧ w ≤ 128) (hh : 1 ≤ h ∧ h ≤ 128) : rectP (0, 0, w, h) := by
  refine .inr ⟨?_, ?_, ?_, ?_, show (0 : Int) < w by omega, show (0 : Int) < h by omega⟩ <;> (unfold coordP; simp only; omega)
theorem good_rect {r : Rc} {w h : Int} (hw : w ≤ 128) (hh : h ≤ 128) (g : goodP r w h) : rectP r ∧ ¬ noneP r := by
  obtain ⟨g1, g2, g3, g4, g5, g6⟩ := g
  refine ⟨.inr ⟨?_, ?_, ?_, ?_, g5, g6⟩, fun h => ?_⟩
  iterate 4 (unfold coordP; omega)
  obtain ⟨a, b, c, d⟩ := h; omega
theorem same_loop {R : Type} (k : Nat) (a b : List Int) (e0 : Bool → Option R) (e1 : Unit → Option R) (hl : a.length ≤ 4294967296) (hab : a.length = b.length) : ∀ (n i j : Nat), a.length - i = n → i ≤ a.length → n < j →
    tilefarmref4_Same.loop0 k j a b i e0 e1 = if a.drop i = b.drop i then e1 () else e0 false := by
  intro n
  induction n with
  | zero =>
    intro i j hn hi hj
    obtain ⟨j, rfl⟩ : ∃ j', j = j' + 1 := ⟨j - 1, by omega⟩
    rw [tilefarmref4_Same.loop0_s, decide_eq_false (by omega), cond_false, List.drop_eq_nil_of_le (by omega), List.drop_eq_nil_of_le (by omega), if_pos rfl]
  | succ n ih =>
    intro i j hn hi hj
    obtain ⟨j, rfl⟩ : ∃ j', j = j' + 1 := ⟨j - 1, by omega⟩
    have hlt : i < a.length := by omega
    have hlt2 : i < b.length := by omega
    rw [tilefarmref4_Same.loop0_s, decide_eq_true (by omega), cond_true, if_pos (Int.natCast_nonneg i), Int.toNat_natCast, List.getElem?_eq_getElem hlt, Option.bind_some, if_pos (Int.natCast_nonneg i), List.getElem?_eq_getElem hlt2, Option.bind_some, w64_succ i (by omega), ih (i + 1) j (by omega) (by omega) (by omega), List.drop_eq_getElem_cons hlt, List.drop_eq_getElem_cons hlt2]
    by_cases h1 : a[i] = b[i]
    · rw [h1, bne_self_eq_false, cond_false]
      by_cases h2 : a.drop (i + 1) = b.drop (i + 1)
      · rw [if_pos h2, if_pos (by rw [h2])]
      · rw [if_neg h2, if_neg (fun h => h2 (by injection h))]
    · have e : (a[i] != b[i]) = true := by simpa using h1
      rw [e, cond_true, if_neg (fun h => h1 (by injection h))]
theorem same_ok (k : Nat) {a b : List Int} (hl : a.length ≤ 4294967296) (hk : a.length < k) : tilefarmref4_Same k a b = some ((decide (a = b), ()), ()) := by
  unfold tilefarmref4_Same
  by_cases hab : a.length = b.length
  · rw [hab, bne_self_eq_false, cond_false]
    refine (same_loop k a b _ _ hl hab a.length 0 k rfl (by omega) hk).trans ?_
    rw [List.drop_zero, List.drop_zero]
    by_cases h : a = b
    · rw [if_pos h, decide_eq_true h]
    · rw [if_neg h, decide_eq_false h]
  · have e : ((a.length : Int) != (b.length : Int)) = true := by simp; omega
    rw [e, cond_true, decide_eq_false (fun h => hab (by rw [h]))]
def clampv (n m : Int) : Int := mm true (mm false n m) 0
/-- What a tile needs. -/
structure TileOk (p q : Pl) (two : Bool) (l : List (Int × Int)) (out : Int) (r : Rc) : Prop where
  hp : planeP p
  hq : two = true → planeP q ∧ p.1 = q.1 ∧ p.2.1 = q.2.1
  hv : vcode l true = 0
  hi : (iv l p.2.2.1 (if two = true then q.2.2.1 else 1)).2.2 = 0
  ho : 1 ≤ out ∧ out ≤ 4294967296
  hg : goodP r p.1 p.2.1
def wdt (r : Rc) : Nat := (r.2.2.1 - r.1).toNat
def hgt (r : Rc) : Nat := (r.2.2.2 - r.2.1).toNat
def spot (p : Pl) (r : Rc) (m : Nat) : Nat := ((r.2.1 + ((m / wdt r : Nat) : Int)) * p.1 + (r.1 + ((m % wdt r : Nat) : Int))).toNat
def tval (p q : Pl) (two : Bool) (l : List (Int × Int)) (out : Int) (r : Rc) (m : Nat) : Int :=
  clampv (rv l (p.2.2.2.getD (spot p r m) 0) (if two = true then q.2.2.2.getD (spot p r m) 0 else 0)).1 out
theorem spot_at {p : Pl} {r : Rc} {d c : Nat} (hc : c < wdt r) : spot p r (d * wdt r + c) = ((r.2.1 + (d : Int)) * p.1 + (r.1 + (c : Int))).toNat := by
  unfold spot
  rw [Nat.mul_comm, Nat.mul_add_div (by omega), Nat.div_eq_of_lt hc, Nat.mul_add_mod, Nat.mod_eq_of_lt hc, Nat.add_zero]
section
variable {p q : Pl} {two : Bool} {l : List (Int × Int)} {out : Int} {r : Rc}
theorem TileOk.dims (h : TileOk p q two l out r) : (wdt r : Int) = r.2.2.1 - r.1 ∧ (hgt r : Int) = r.2.2.2 - r.2.1 ∧ 1 ≤ wdt r ∧ 1 ≤ hgt r ∧ wdt r ≤ 128 ∧ hgt r ≤ 128 ∧ 0 ≤ r.1 ∧ 0 ≤ r.2.1 ∧ r.2.2.1 ≤ p.1 ∧ r.2.2.2 ≤ p.2.1 ∧ p.1 ≤ 128 ∧ p.2.1 ≤ 128 := by
  obtain ⟨g1, g2, g3, g4, g5, g6⟩ := h.hg
  obtain ⟨⟨s1, s2, s3, s4, s5, s6, s7⟩, _, _⟩ := h.hp
  unfold wdt hgt
  refine ⟨?_, ?_, ?_, ?_, ?_, ?_, g1, g2, g3, g4, s2, s4⟩ <;> omega
/-- The place of a point. -/
theorem TileOk.at (h : TileOk p q two l out r) {d c : Nat} (hd : d < hgt r) (hc : c < wdt r) : 0 ≤ (r.2.1 + (d : Int)) * p.1 ∧ (r.2.1 + (d : Int)) * p.1 ≤ 16384 ∧ 0 ≤ (r.2.1 + (d : Int)) * p.1 + (r.1 + (c : Int)) ∧ (r.2.1 + (d : Int)) * p.1 + (r.1 + (c : Int)) < p.2.2.2.length := by
  obtain ⟨w1, w2, w3, w4, w5, w6, g1, g2, g3, g4, s2, s4⟩ := h.dims
  obtain ⟨⟨s1, _, _, _, _, _, _⟩, hl, _⟩ := h.hp
  have k0 : 0 ≤ (r.2.1 + (d : Int)) * p.1 := Int.mul_nonneg (by omega) (by omega)
  have k1 : (r.2.1 + (d : Int) + 1) * p.1 ≤ p.2.1 * p.1 := Int.mul_le_mul_of_nonneg_right (by omega) (by omega)
  rw [Int.add_mul, Int.one_mul, Int.mul_comm p.2.1] at k1
  have k2 := mul_le_of (show 0 ≤ p.1 by omega) s2 (show 0 ≤ p.2.1 by omega) s4
  omega
theorem TileOk.get (h : TileOk p q two l out r) {d c : Nat} (hd : d < hgt r) (hc : c < wdt r) : p.2.2.2[((r.2.1 + (d : Int)) * p.1 + (r.1 + (c : Int))).toNat]? = some (p.2.2.2.getD (spot p r (d * wdt r + c)) 0) ∧ 0 ≤ p.2.2.2.getD (spot p r (d * wdt r + c)) 0 ∧ p.2.2.2.getD (spot p r (d * wdt r + c)) 0 ≤ p.2.2.1 := by
  obtain ⟨a1, a2, a3, a4⟩ := h.at hd hc
  rw [spot_at hc]
  have hlt : ((r.2.1 + (d : Int)) * p.1 + (r.1 + (c : Int))).toNat < p.2.2.2.length := by omega
  refine ⟨getD_of hlt, ?_⟩
  rw [List.getD_eq_getElem?_getD, List.getElem?_eq_getElem hlt]
  exact h.hp.2.2 _ (List.getElem_mem _)
theorem TileOk.get2 (h : TileOk p q two l out r) (ht : two = true) {d c : Nat} (hd : d < hgt r) (hc : c < wdt r) : q.2.2.2[((r.2.1 + (d : Int)) * p.1 + (r.1 + (c : Int))).toNat]? = some (q.2.2.2.getD (spot p r (d * wdt r + c)) 0) ∧ 0 ≤ q.2.2.2.getD (spot p r (d * wdt r + c)) 0 ∧ q.2.2.2.getD (spot p r (d * wdt r + c)) 0 ≤ q.2.2.1 := by
  obtain ⟨a1, a2, a3, a4⟩ := h.at hd hc
  obtain ⟨q1, q2, q3⟩ := h.hq ht
  have e : (q.2.2.2.length : Int) = p.2.2.2.length := by rw [q1.2.1, h.hp.2.1, q2, q3]
  rw [spot_at hc]
  have hlt : ((r.2.1 + (d : Int)) * p.1 + (r.1 + (c : Int))).toNat < q.2.2.2.length := by omega
  refine ⟨getD_of hlt, ?_⟩
  rw [List.getD_eq_getElem?_getD, List.getElem?_eq_getElem hlt]
  exact q1.2.2 _ (List.getElem_mem _)
/-- No value is too great. -/
theorem TileOk.run (h : TileOk p q two l out r) {a b : Int} (ha : 0 ≤ a ∧ a ≤ p.2.2.1) (hb : 0 ≤ b ∧ b ≤ (if two = true then q.2.2.1 else 1)) : (rv l a b).2 = 0 ∧ ev l a b = rv l a b := by
  have hm := h.hp.1.2.2.2.2.2.2
  have hm2 : (if two = true then q.2.2.1 else 1) ≤ 4294967296 := by
    split
    · rename_i ht; exact (h.hq ht).1.1.2.2.2.2.2.2
    · omega
  have he : ev l a b = rv l a b := by
    unfold ev
    rw [if_neg (fun hh => hh h.hv), if_pos (by omega)]
  refine ⟨?_, he⟩
  rcases within (l := l) ha hb with ⟨_, h2, _⟩ | ⟨h1, _⟩
  · rw [← he]; exact h2
  · exact (h1 h.hi).elim
theorem TileOk.two0 (h : TileOk p q two l out r) (m : Nat) (hm : two = true → 0 ≤ q.2.2.2.getD (spot p r m) 0 ∧ q.2.2.2.getD (spot p r m) 0 ≤ q.2.2.1) : 0 ≤ (if two = true then q.2.2.2.getD (spot p r m) 0 else 0) ∧ (if two = true then q.2.2.2.getD (spot p r m) 0 else 0) ≤ (if two = true then q.2.2.1 else 1) := by
  cases two with
  | false => simp
  | true => simpa using hm rfl
/-- The reference's list after some of the values. -/
def part (N : Nat) (f : Nat → Int) (m : Nat) : List Int := (List.range N).map fun i => if i < m then f i else 0
theorem part_length {N : Nat} {f : Nat → Int} {m : Nat} : (part N f m).length = N := by unfold part; rw [List.length_map, List.length_range]
theorem part_zero (N : Nat) (f : Nat → Int) : List.replicate N (0 : Int) = part N f 0 := by
  apply List.ext_getElem
  · rw [part_length, List.length_replicate]
  · intro i h1 h2; simp [part]
theorem part_all (N : Nat) (f : Nat → Int) : part N f N = (List.range N).map f := by
  unfold part
  apply List.map_congr_left
  intro i hi
  rw [if_pos (List.mem_range.1 hi)]
theorem part_set {N : Nat} {f : Nat → Int} {m : Nat} (hm : m < N) : (part N f m).set m (f m) = part N f (m + 1) := by
  apply List.ext_getElem
  · rw [List.length_set, part_length, part_length]
  · intro i h1 h2
    rw [List.getElem_set]
    by_cases e : m = i
    · subst e; rw [if_pos rfl]; simp [part]
    · rw [if_neg e]
      simp only [part, List.getElem_map, List.getElem_range]
      by_cases e2 : i < m
      · rw [if_pos e2, if_pos (by omega)]
      · rw [if_neg e2, if_neg (by omega)]
end
/-- The result of a tile. -/
def tspec (p q : Pl) (two : Bool) (l : List (Int × Int)) (out : Int) (r : Rc) : Pl × Int :=
  if planeP p ∧ (two = true → planeP q) then
    if vcode l two ≠ 0 then ((0, 0, 0, []), vcode l two)
    else if 1 ≤ out ∧ out ≤ 4294967296 then
      if (iv l p.2.2.1 (if two = true then q.2.2.1 else 1)).2.2 ≠ 0 then ((0, 0, 0, []), (iv l p.2.2.1 (if two = true then q.2.2.1 else 1)).2.2)
      else if (two = true → p.1 = q.1 ∧ p.2.1 = q.2.1) ∧ goodP r p.1 p.2.1 then
        ((r.2.2.1 - r.1, r.2.2.2 - r.2.1, out, (List.range (hgt r * wdt r)).map (tval p q two l out r)), 0)
      else ((0, 0, 0, []), 8)
    else ((0, 0, 0, []), 2)
  else ((0, 0, 0, []), 1)
theorem iv_valid {l : List (Int × Int)} {a b : Int} (h : (iv l a b).2.2 = 0) : vcode l true = 0 := by
  unfold iv at h
  by_cases hv : vcode l true = 0
  · exact hv
  · rw [if_pos hv] at h; exact (hv h).elim
theorem bne_t {a b : Int} (h : a ≠ b) : (a != b) = true := by simpa using h
theorem bne_f {a b : Int} (h : a = b) : (a != b) = false := by simpa using h
theorem check_ok (k : Nat) (hk : 33 ≤ k) (l : List (Int × Int)) (two : Bool) (a b out : Int) : tilefarmref14_Check k l two a b out =
    some ((if vcode l two ≠ 0 then vcode l two else if 1 ≤ out ∧ out ≤ 4294967296 then (iv l a (if two = true then b else 1)).2.2 else 2, ()), ()) := by
  unfold tilefarmref14_Check
  rw [rvalid_ok k l two hk, Option.bind_some]
  by_cases hv : vcode l two = 0
  rotate_left
  · simp only [bne_t hv]; rw [cond_true, if_pos hv]
  simp only [bne_f hv]
  rw [cond_false, if_neg (fun h => h hv), rvalue_ok, Option.bind_some]
  by_cases ho : 1 ≤ out ∧ out ≤ 4294967296
  rotate_left
  · rw [decide_eq_false ho, Bool.not_false, cond_true, if_neg ho]
  rw [decide_eq_true ho, Bool.not_true, cond_false, if_pos ho]
  cases two with
  | true => rw [Bool.not_true, cond_false, rinterval_ok k _ _ _ hk]; rfl
  | false => rw [Bool.not_false, cond_true, rinterval_ok k _ _ _ hk]; rfl
theorem tspec_length (p q : Pl) (two : Bool) (l : List (Int × Int)) (out : Int) (r : Rc) : (tspec p q two l out r).1.2.2.2.length ≤ 4096 := by
  unfold tspec
  have z : ∀ c : Int, (((0, 0, 0, []), c) : Pl × Int).1.2.2.2.length ≤ 4096 := fun c => Nat.zero_le _
  by_cases h1 : planeP p ∧ (two = true → planeP q)
  rotate_left
  · rw [if_neg h1]; exact z _
  rw [if_pos h1]
  by_cases h2 : vcode l two ≠ 0
  · rw [if_pos h2]; exact z _
  rw [if_neg h2]
  by_cases h3 : 1 ≤ out ∧ out ≤ 4294967296
  rotate_left
  · rw [if_neg h3]; exact z _
  rw [if_pos h3]
  by_cases h4 : (iv l p.2.2.1 (if two = true then q.2.2.1 else 1)).2.2 ≠ 0
  · rw [if_pos h4]; exact z _
  rw [if_neg h4]
  by_cases h5 : (two = true → p.1 = q.1 ∧ p.2.1 = q.2.1) ∧ goodP r p.1 p.2.1
  rotate_left
  · rw [if_neg h5]; exact z _
  rw [if_pos h5]
  have hp := h1.1
  obtain ⟨g1, g2, g3, g4, g5, g6⟩ := h5.2
  show ((List.range (hgt r * wdt r)).map _).length ≤ _
  rw [List.length_map, List.length_range]
  have h5 := hp.1.2.2.2.2.1
  have := (mul_le_of (show 0 ≤ r.2.2.1 - r.1 by omega) (show r.2.2.1 - r.1 ≤ p.1 by omega) (show 0 ≤ r.2.2.2 - r.2.1 by omega) (show r.2.2.2 - r.2.1 ≤ p.2.1 by omega)).2
  have e : ((hgt r * wdt r : Nat) : Int) = (r.2.2.1 - r.1) * (r.2.2.2 - r.2.1) := by
    rw [Int.mul_comm]
    unfold hgt wdt
    rw [Int.natCast_mul, Int.toNat_of_nonneg (by omega), Int.toNat_of_nonneg (by omega)]
  omega
end Go.Lf.T

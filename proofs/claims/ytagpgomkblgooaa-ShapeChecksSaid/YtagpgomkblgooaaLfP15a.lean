import Derived.Test.YtagpgomkblgooaaLfQ15
/-! Lf: weights and their bounds, in plain words. -/
set_option linter.unusedVariables false
set_option maxRecDepth 100000
namespace Go.Lf.T
open Go Go.Lf

theorem bne_tt {a b : Int} (h : a ≠ b) : (a != b) = true := by simpa using h
theorem bne_ff {a b : Int} (h : a = b) : (a != b) = false := by simpa using h

def wP (l : List Int) : Prop := ∀ x ∈ l, -32767 ≤ x ∧ x ≤ 32767
instance (l : List Int) : Decidable (wP l) := inferInstanceAs (Decidable (∀ x ∈ l, _))
theorem wP_nil : wP [] := fun x h => by cases h
theorem wP_drop {l : List Int} {i : Nat} (hi : i < l.length) : wP (l.drop i) ↔ (-32767 ≤ l[i] ∧ l[i] ≤ 32767) ∧ wP (l.drop (i + 1)) := by
  unfold wP
  constructor
  · intro h
    rw [List.drop_eq_getElem_cons hi] at h
    exact ⟨h _ (List.mem_cons_self), fun x hx => h x (List.mem_cons_of_mem _ hx)⟩
  · rintro ⟨h1, h2⟩ x hx
    rw [List.drop_eq_getElem_cons hi] at hx
    rcases List.mem_cons.1 hx with rfl | hx
    · exact h1
    · exact h2 x hx

theorem fw_loop {R : Type} (k : Nat) (l : List Int) (e0 : Int → Option R) (e1 : Unit → Option R) (hl : l.length ≤ 4294967296) : ∀ (n i j : Nat), l.length - i = n → i ≤ l.length → n < j →
    fixed_Weights.loop0 k j l l.length i e0 e1 = if wP (l.drop i) then e1 () else e0 10 := by
  intro n
  induction n with
  | zero =>
    intro i j hn hi hj
    obtain ⟨j, rfl⟩ : ∃ j', j = j' + 1 := ⟨j - 1, by omega⟩
    rw [fixed_Weights.loop0_s, decide_eq_false (by omega), cond_false, show i = l.length by omega, List.drop_length, if_pos wP_nil]
  | succ n ih =>
    intro i j hn hi hj
    obtain ⟨j, rfl⟩ : ∃ j', j = j' + 1 := ⟨j - 1, by omega⟩
    have hlt : i < l.length := by omega
    rw [fixed_Weights.loop0_s, decide_eq_true (by omega), cond_true, if_pos (by omega), Int.toNat_natCast, List.getElem?_eq_getElem hlt, Option.bind_some, w64_succ i (by omega), ih (i + 1) j (by omega) (by omega) (by omega)]
    by_cases h1 : l[i] < -32767
    · rw [decide_eq_true h1, cond_true, if_neg (fun h => by have := ((wP_drop hlt).1 h).1; omega)]
    rw [decide_eq_false h1, cond_false]
    by_cases h2 : l[i] > 32767
    · rw [decide_eq_true h2, cond_true, if_neg (fun h => by have := ((wP_drop hlt).1 h).1; omega)]
    rw [decide_eq_false h2, cond_false]
    by_cases h3 : wP (l.drop (i + 1))
    · rw [if_pos h3, if_pos ((wP_drop hlt).2 ⟨by omega, h3⟩)]
    · rw [if_neg h3, if_neg (fun h => h3 ((wP_drop hlt).1 h).2)]

theorem isw_ok (k : Nat) (n : Int) : tilefarmref7_IsWeight k n = some ((decide (-32767 ≤ n ∧ n ≤ 32767), ()), ()) := by
  unfold tilefarmref7_IsWeight
  by_cases h : -32767 ≤ n <;> simp [h]

theorem aw_loop {R : Type} (k : Nat) (l : List Int) (e0 : Bool → Option R) (e1 : Unit → Option R) (hl : l.length ≤ 4294967296) : ∀ (n i j : Nat), l.length - i = n → i ≤ l.length → n < j →
    tilefarmref7_AreWeights.loop0 k j l i e0 e1 = if wP (l.drop i) then e1 () else e0 false := by
  intro n
  induction n with
  | zero =>
    intro i j hn hi hj
    obtain ⟨j, rfl⟩ : ∃ j', j = j' + 1 := ⟨j - 1, by omega⟩
    rw [tilefarmref7_AreWeights.loop0_s, decide_eq_false (by omega), cond_false, show i = l.length by omega, List.drop_length, if_pos wP_nil]
  | succ n ih =>
    intro i j hn hi hj
    obtain ⟨j, rfl⟩ : ∃ j', j = j' + 1 := ⟨j - 1, by omega⟩
    have hlt : i < l.length := by omega
    rw [tilefarmref7_AreWeights.loop0_s, decide_eq_true (by omega), cond_true, if_pos (by omega), Int.toNat_natCast, List.getElem?_eq_getElem hlt, Option.bind_some, w64_succ i (by omega), ih (i + 1) j (by omega) (by omega) (by omega), isw_ok, Option.bind_some]
    by_cases h1 : -32767 ≤ l[i] ∧ l[i] ≤ 32767
    · rw [decide_eq_true h1, Bool.not_true, cond_false]
      by_cases h3 : wP (l.drop (i + 1))
      · rw [if_pos h3, if_pos ((wP_drop hlt).2 ⟨h1, h3⟩)]
      · rw [if_neg h3, if_neg (fun h => h3 ((wP_drop hlt).1 h).2)]
    · rw [decide_eq_false h1, Bool.not_false, cond_true, if_neg (fun h => h1 ((wP_drop hlt).1 h).1)]

theorem aw_ok (k : Nat) {l : List Int} (hk : l.length < k) (hl : l.length ≤ 4294967296) : tilefarmref7_AreWeights k l = some ((decide (wP l), ()), ()) := by
  unfold tilefarmref7_AreWeights
  refine (aw_loop k l _ _ hl l.length 0 k rfl (by omega) hk).trans ?_
  rw [List.drop_zero]
  by_cases h : wP l
  · rw [if_pos h, decide_eq_true h]
  · rw [if_neg h, decide_eq_false h]

def wcode (l : List Int) : Int := if l.length = 0 ∨ 81 < l.length then 9 else if wP l then 0 else 10

theorem fw_ok (k : Nat) (hk : 82 ≤ k) (l : List Int) : fixed_Weights k l = some ((wcode l, ()), ()) := by
  unfold fixed_Weights wcode
  by_cases h0 : l.length = 0
  · simp [h0]
  by_cases h1 : 81 < l.length
  · have e : ((l.length : Int) == 0) = false := beq_eq_false_iff_ne.2 (by omega)
    rw [e, cond_false, decide_eq_true (p := (l.length : Int) > 81) (by omega), cond_true, if_pos (.inr h1)]
  have e : ((l.length : Int) == 0) = false := beq_eq_false_iff_ne.2 (by omega)
  rw [e, cond_false, decide_eq_false (p := (l.length : Int) > 81) (by omega), cond_false, if_neg (by omega)]
  refine (fw_loop k l _ _ (by omega) l.length 0 k rfl (by omega) (by omega)).trans ?_
  rw [List.drop_zero]
  by_cases h : wP l
  · rw [if_pos h, if_pos h]
  · rw [if_neg h, if_neg h]

theorem rw_ok (k : Nat) (hk : 82 ≤ k) (l : List Int) : tilefarmref7_Weights k l = some ((wcode l, ()), ()) := by
  unfold tilefarmref7_Weights wcode
  by_cases h0 : l.length = 0
  · simp [h0]
  by_cases h1 : 81 < l.length
  · have e : ((l.length : Int) == 0) = false := beq_eq_false_iff_ne.2 (by omega)
    rw [e, cond_false, decide_eq_true (p := (l.length : Int) > 81) (by omega), cond_true, if_pos (.inr h1)]
  have e : ((l.length : Int) == 0) = false := beq_eq_false_iff_ne.2 (by omega)
  rw [e, cond_false, decide_eq_false (p := (l.length : Int) > 81) (by omega), cond_false, if_neg (by omega), aw_ok k (by omega) (by omega), Option.bind_some]
  by_cases h : wP l
  · rw [decide_eq_true h, if_pos h]; rfl
  · rw [decide_eq_false h, if_neg h]; rfl

/-! ### Bounds -/
def lsum (f : Int → Int) : List Int → Int
  | [] => 0
  | x :: l => f x + lsum f l
theorem lsum_cons (f : Int → Int) (x : Int) (l : List Int) : lsum f (x :: l) = f x + lsum f l := rfl
theorem lsum_drop {f : Int → Int} {l : List Int} {i : Nat} (hi : i < l.length) : lsum f (l.drop i) = f l[i] + lsum f (l.drop (i + 1)) := by
  rw [List.drop_eq_getElem_cons hi, lsum_cons]

def inB (n : Int) : Prop := -2251799813685248 ≤ n ∧ n ≤ 2251799813685248

theorem prod_in {w n : Int} (h1 : -32767 ≤ w ∧ w ≤ 32767) (h2 : -68719476736 ≤ n ∧ n ≤ 68719476736) : inB (w * n) := by
  have e : ab (w * n) = ab w * ab n := ab_mul w n
  have h3 : ab w ≤ 32767 := ab_le.2 h1
  have h4 : ab n ≤ 68719476736 := ab_le.2 h2
  have := Int.mul_le_mul h3 h4 (ab_nonneg n) (by omega)
  have h5 : ab (w * n) ≤ 2251799813685248 := by omega
  have := ab_le.1 h5
  exact this

theorem mm_in {x y : Int} (b : Bool) (hx : inB x) (hy : inB y) : inB (mm b x y) := by
  unfold inB at *
  cases b with
  | true => rw [mm_true]; split <;> omega
  | false => rw [mm_false]; split <;> omega

/-- The sum of the products on one side. -/
def side (b : Bool) (lo hi : Int) (w : Int) : Int := mm b (w * lo) (w * hi)

theorem side_in {b : Bool} {lo hi w : Int} (h1 : -32767 ≤ w ∧ w ≤ 32767) (h2 : -68719476736 ≤ lo ∧ lo ≤ 68719476736) (h3 : -68719476736 ≤ hi ∧ hi ≤ 68719476736) : inB (side b lo hi w) := mm_in b (prod_in h1 h2) (prod_in h1 h3)

theorem w64_prod {w n : Int} (h1 : -32767 ≤ w ∧ w ≤ 32767) (h2 : -68719476736 ≤ n ∧ n ≤ 68719476736) : w64 (w * n) = w * n := by
  have := prod_in h1 h2
  unfold inB at this
  exact w64_id (by omega) (by omega)

theorem rb_loop {R : Type} (k : Nat) (l : List Int) {lo hi : Int} (h2 : -68719476736 ≤ lo ∧ lo ≤ 68719476736) (h3 : -68719476736 ≤ hi ∧ hi ≤ 68719476736) (e0 : Int → Int → Option R) (hl : l.length ≤ 81) (hw : wP l) : ∀ (n i j : Nat) (a b : Int), l.length - i = n → i ≤ l.length → n < j →
    -2251799813685248 * i ≤ a → a ≤ 2251799813685248 * i → -2251799813685248 * i ≤ b → b ≤ 2251799813685248 * i →
    tilefarmref7_Bounds.loop0 k j l lo hi a b i e0 = e0 (a + lsum (side false lo hi) (l.drop i)) (b + lsum (side true lo hi) (l.drop i)) := by
  intro n
  induction n with
  | zero =>
    intro i j a b hn hi' hj _ _ _ _
    obtain ⟨j, rfl⟩ : ∃ j', j = j' + 1 := ⟨j - 1, by omega⟩
    rw [tilefarmref7_Bounds.loop0_s, decide_eq_false (by omega), cond_false, show i = l.length by omega, List.drop_length]
    show e0 a b = e0 (a + 0) (b + 0)
    rw [Int.add_zero, Int.add_zero]
  | succ n ih =>
    intro i j a b hn hi' hj a1 a2 b1 b2
    obtain ⟨j, rfl⟩ : ∃ j', j = j' + 1 := ⟨j - 1, by omega⟩
    have hlt : i < l.length := by omega
    have hwi := hw l[i] (List.getElem_mem _)
    have s1 := side_in (b := false) hwi h2 h3
    have s2 := side_in (b := true) hwi h2 h3
    unfold inB at s1 s2
    rw [tilefarmref7_Bounds.loop0_s, decide_eq_true (by omega), cond_true, if_pos (by omega), Int.toNat_natCast, List.getElem?_eq_getElem hlt]
    simp only [Option.bind_some]
    rw [if_pos (by omega), w64_prod hwi h2, w64_prod hwi h3, show mm false (l[i] * lo) (l[i] * hi) = side false lo hi l[i] from rfl, show mm true (l[i] * lo) (l[i] * hi) = side true lo hi l[i] from rfl,
      w64_id (n := a + side false lo hi l[i]) (by omega) (by omega), w64_id (n := b + side true lo hi l[i]) (by omega) (by omega), w64_succ i (by omega), ih (i + 1) j _ _ (by omega) (by omega) (by omega) (by omega) (by omega) (by omega) (by omega), lsum_drop hlt, lsum_drop hlt, Int.add_assoc, Int.add_assoc]

theorem and_low (n : Int) : ((BitVec.ofInt IntKind.i64.bits n &&& BitVec.ofInt IntKind.i64.bits 4294967295).toNat : Int) = n % 4294967296 := by
  show ((BitVec.ofInt 64 n &&& BitVec.ofInt 64 4294967295).toNat : Int) = _
  rw [BitVec.toNat_and, BitVec.toNat_ofInt, BitVec.toNat_ofInt]
  have e : ((4294967295 : Int) % ((2 ^ 64 : Nat) : Int)).toNat = 2 ^ 32 - 1 := by decide
  rw [e, Nat.and_two_pow_sub_one_eq_mod]
  omega

theorem fadd_ok (k : Nat) {h o n : Int} {i : Nat} (hi : i ≤ 81) (hn : inB n) (h1 : -1000000 * i ≤ h) (h2 : h ≤ 1000000 * i) (o1 : 0 ≤ o) (o2 : o ≤ 4294967295 * i) :
    fixed_wide_add k (h, o) n = some ((), ((h + n.fdiv 4294967296, o + n % 4294967296), ())) := by
  unfold fixed_wide_add
  unfold inB at hn
  have e2 : (2 : Int) ^ (min 32 IntKind.i64.bits) = 4294967296 := by decide
  have e3 : n.fdiv 4294967296 = n / 4294967296 := Int.fdiv_eq_ediv_of_nonneg _ (by omega)
  simp only []
  rw [and_low, e2, e3, w64_id (n := n % 4294967296) (by omega) (by omega), w64_id (n := h + n / 4294967296) (by omega) (by omega), w64_id (n := o + n % 4294967296) (by omega) (by omega)]

theorem fb_loop {R : Type} (k : Nat) (l : List Int) {lo hi : Int} (h2 : -68719476736 ≤ lo ∧ lo ≤ 68719476736) (h3 : -68719476736 ≤ hi ∧ hi ≤ 68719476736) (e0 : Int → Int → Int → Int → Option R) (hl : l.length ≤ 81) (hw : wP l) : ∀ (n i j : Nat) (a b c d : Int), l.length - i = n → i ≤ l.length → n < j →
    -1000000 * i ≤ a → a ≤ 1000000 * i → 0 ≤ b → b ≤ 4294967295 * i → -1000000 * i ≤ c → c ≤ 1000000 * i → 0 ≤ d → d ≤ 4294967295 * i →
    ∃ a' b' c' d', fixed_Bounds.loop0 k j lo hi l l.length i a b c d e0 = e0 a' b' c' d' ∧ a' * 4294967296 + b' = a * 4294967296 + b + lsum (side false lo hi) (l.drop i) ∧ c' * 4294967296 + d' = c * 4294967296 + d + lsum (side true lo hi) (l.drop i) ∧
      -81000000 ≤ a' ∧ a' ≤ 81000000 ∧ 0 ≤ b' ∧ b' ≤ 347892350895 ∧ -81000000 ≤ c' ∧ c' ≤ 81000000 ∧ 0 ≤ d' ∧ d' ≤ 347892350895 := by
  intro n
  induction n with
  | zero =>
    intro i j a b c d hn hi' hj _ _ _ _ _ _ _ _
    obtain ⟨j, rfl⟩ : ∃ j', j = j' + 1 := ⟨j - 1, by omega⟩
    rw [fixed_Bounds.loop0_s, decide_eq_false (by omega), cond_false, show i = l.length by omega, List.drop_length]
    exact ⟨a, b, c, d, rfl, (Int.add_zero _).symm, (Int.add_zero _).symm, by omega, by omega, by omega, by omega, by omega, by omega, by omega, by omega⟩
  | succ n ih =>
    intro i j a b c d hn hi' hj a1 a2 b1 b2 c1 c2 d1 d2
    obtain ⟨j, rfl⟩ : ∃ j', j = j' + 1 := ⟨j - 1, by omega⟩
    have hlt : i < l.length := by omega
    have hwi := hw l[i] (List.getElem_mem _)
    have s1 := side_in (b := false) hwi h2 h3
    have s2 := side_in (b := true) hwi h2 h3
    rw [fixed_Bounds.loop0_s, decide_eq_true (by omega), cond_true, if_pos (by omega), Int.toNat_natCast, List.getElem?_eq_getElem hlt]
    simp only [Option.bind_some]
    rw [w64_prod hwi h2, w64_prod hwi h3, show mm false (l[i] * lo) (l[i] * hi) = side false lo hi l[i] from rfl, show mm true (l[i] * lo) (l[i] * hi) = side true lo hi l[i] from rfl,
      fadd_ok k (i := i) (by omega) s1 a1 a2 b1 b2, fadd_ok k (i := i) (by omega) s2 c1 c2 d1 d2]
    simp only [Option.bind_some]
    rw [w64_succ i (by omega)]
    have e3 : ∀ n : Int, n.fdiv 4294967296 = n / 4294967296 := fun n => Int.fdiv_eq_ediv_of_nonneg _ (by omega)
    unfold inB at s1 s2
    rw [e3, e3]
    obtain ⟨a', b', c', d', h, g1, g2, g3⟩ := ih (i + 1) j (a + side false lo hi l[i] / 4294967296) (b + side false lo hi l[i] % 4294967296) (c + side true lo hi l[i] / 4294967296) (d + side true lo hi l[i] % 4294967296) (by omega) (by omega) (by omega) (by omega) (by omega) (by omega) (by omega) (by omega) (by omega) (by omega) (by omega)
    refine ⟨a', b', c', d', h, ?_, ?_, g3⟩
    · rw [g1, lsum_drop hlt]; omega
    · rw [g2, lsum_drop hlt]; omega

theorem fval_ok (k : Nat) {h o s : Int} (hs : h * 4294967296 + o = s) (h1 : -81000000 ≤ h) (h2 : h ≤ 81000000) (o1 : 0 ≤ o) (o2 : o ≤ 347892350895) :
    ∃ v, fixed_wide_value k (h, o) = some ((v, decide (inM s), ()), ((h, o), ())) ∧ (inM s → v = s) := by
  unfold fixed_wide_value
  have hM : inM s ↔ -17592186044416 ≤ s ∧ s ≤ 17592186044416 := Iff.rfl
  by_cases c1 : h < -1048576
  · rw [decide_eq_true c1, cond_true, decide_eq_false (fun g => by have := hM.1 g; omega)]
    exact ⟨0, rfl, fun g => by have := hM.1 g; omega⟩
  rw [decide_eq_false c1, cond_false]
  by_cases c2 : h > 1048576
  · rw [decide_eq_true c2, cond_true, decide_eq_false (fun g => by have := hM.1 g; omega)]
    exact ⟨0, rfl, fun g => by have := hM.1 g; omega⟩
  rw [decide_eq_false c2, cond_false]
  have e2 : (2 : Int) ^ (min 32 IntKind.i64.bits) = 4294967296 := by decide
  rw [e2, w64_id (n := h * 4294967296) (by omega) (by omega), hs, w64_id (n := s) (by omega) (by omega), fsum_eq]
  exact ⟨s, rfl, fun _ => rfl⟩

def bspec (l : List Int) (lo hi : Int) : Int × Int × Bool :=
  if wcode l = 0 ∧ lo ≤ hi ∧ -68719476736 ≤ lo ∧ hi ≤ 68719476736 ∧ inM (lsum (side false lo hi) l) ∧ inM (lsum (side true lo hi) l) then (lsum (side false lo hi) l, lsum (side true lo hi) l, true) else (0, 0, false)

theorem wcode0 {l : List Int} (h : wcode l = 0) : l.length ≤ 81 ∧ 1 ≤ l.length ∧ wP l := by
  unfold wcode at h
  by_cases h0 : l.length = 0 ∨ 81 < l.length
  · rw [if_pos h0] at h; omega
  rw [if_neg h0] at h
  by_cases h1 : wP l
  · exact ⟨by omega, by omega, h1⟩
  · rw [if_neg h1] at h; omega

theorem rb_ok (k : Nat) (hk : 82 ≤ k) (l : List Int) (lo hi : Int) : tilefarmref7_Bounds k l lo hi = some (((bspec l lo hi).1, (bspec l lo hi).2.1, (bspec l lo hi).2.2, ()), ()) := by
  unfold tilefarmref7_Bounds bspec
  rw [rw_ok k hk, Option.bind_some]
  by_cases h0 : wcode l = 0
  rotate_left
  · simp only [bne_tt h0]; rw [cond_true, if_neg (fun h => h0 h.1)]
  simp only [bne_ff h0]
  rw [cond_false]
  by_cases h1 : lo ≤ hi
  rotate_left
  · rw [decide_eq_true (p := lo > hi) (by omega), cond_true, if_neg (fun h => h1 h.2.1)]
  rw [decide_eq_false (p := lo > hi) (by omega), cond_false]
  by_cases h2 : -68719476736 ≤ lo
  rotate_left
  · rw [decide_eq_true (p := lo < -68719476736) (by omega), cond_true, if_neg (fun h => h2 h.2.2.1)]
  rw [decide_eq_false (p := lo < -68719476736) (by omega), cond_false]
  by_cases h3 : hi ≤ 68719476736
  rotate_left
  · rw [decide_eq_true (p := hi > 68719476736) (by omega), cond_true, if_neg (fun h => h3 h.2.2.2.1)]
  rw [decide_eq_false (p := hi > 68719476736) (by omega), cond_false]
  obtain ⟨w1, _, w2⟩ := wcode0 h0
  refine (rb_loop k l (lo := lo) (hi := hi) (by omega) (by omega) _ w1 w2 l.length 0 k 0 0 rfl (by omega) (by omega) (by omega) (by omega) (by omega) (by omega)).trans ?_
  rw [List.drop_zero, Int.zero_add, Int.zero_add, acc_ok, Option.bind_some, acc_ok, Option.bind_some]
  by_cases m1 : inM (lsum (side false lo hi) l)
  rotate_left
  · rw [decide_eq_false m1, Bool.not_false, cond_true, if_neg (fun h => m1 h.2.2.2.2.1)]
  rw [decide_eq_true m1, Bool.not_true, cond_false]
  by_cases m2 : inM (lsum (side true lo hi) l)
  rotate_left
  · rw [decide_eq_false m2, Bool.not_false, cond_true, if_neg (fun h => m2 h.2.2.2.2.2)]
  rw [decide_eq_true m2, Bool.not_true, cond_false, if_pos ⟨h0, h1, h2, h3, m1, m2⟩]

theorem fb_ok (k : Nat) (hk : 82 ≤ k) (l : List Int) (lo hi : Int) : fixed_Bounds k l lo hi = some (((bspec l lo hi).1, (bspec l lo hi).2.1, (bspec l lo hi).2.2, ()), ()) := by
  unfold fixed_Bounds bspec
  rw [fw_ok k hk, Option.bind_some]
  by_cases h0 : wcode l = 0
  rotate_left
  · simp only [bne_tt h0]; rw [cond_true, if_neg (fun h => h0 h.1)]
  simp only [bne_ff h0]
  rw [cond_false]
  by_cases h1 : lo ≤ hi
  rotate_left
  · rw [decide_eq_true (p := lo > hi) (by omega), cond_true, if_neg (fun h => h1 h.2.1)]
  rw [decide_eq_false (p := lo > hi) (by omega), cond_false]
  by_cases h2 : -68719476736 ≤ lo
  rotate_left
  · rw [decide_eq_true (p := lo < -68719476736) (by omega), cond_true, if_neg (fun h => h2 h.2.2.1)]
  rw [decide_eq_false (p := lo < -68719476736) (by omega), cond_false]
  by_cases h3 : hi ≤ 68719476736
  rotate_left
  · rw [decide_eq_true (p := hi > 68719476736) (by omega), cond_true, if_neg (fun h => h3 h.2.2.2.1)]
  rw [decide_eq_false (p := hi > 68719476736) (by omega), cond_false]
  obtain ⟨w1, _, w2⟩ := wcode0 h0
  obtain ⟨a, b, c, d, h, g1, g2, a1, a2, b1, b2, c1, c2, d1, d2⟩ := fb_loop (R := (Int × Int × Bool × Unit) × Unit) k l (lo := lo) (hi := hi) (by omega) (by omega) (fun (z5 : Int) (z6 : Int) (z7 : Int) (z8 : Int) => ((fixed_wide_value k (z5, z6)).bind fun (y9 : (Int × Bool × Unit) × ((Int × Int) × Unit)) => (fixed_wide_value k (z7, z8)).bind fun (y10 : (Int × Bool × Unit) × ((Int × Int) × Unit)) => bif !y9.1.2.1 then (some ((0, 0, false, ()), ())) else (bif !y10.1.2.1 then (some ((0, 0, false, ()), ())) else (some ((y9.1.1, y10.1.1, true, ()), ()))))) w1 w2 l.length 0 k 0 0 0 0 rfl (by omega) (by omega) (by omega) (by omega) (by omega) (by omega) (by omega) (by omega) (by omega) (by omega)
  refine Eq.trans h ?_
  rw [List.drop_zero] at g1 g2
  obtain ⟨v1, e1, f1⟩ := fval_ok k (s := lsum (side false lo hi) l) (by rw [g1]; omega) a1 a2 b1 b2
  obtain ⟨v2, e2, f2⟩ := fval_ok k (s := lsum (side true lo hi) l) (by rw [g2]; omega) c1 c2 d1 d2
  simp only [e1, e2, Option.bind_some]
  by_cases m1 : inM (lsum (side false lo hi) l)
  rotate_left
  · rw [decide_eq_false m1, Bool.not_false, cond_true, if_neg (fun h => m1 h.2.2.2.2.1)]
  rw [decide_eq_true m1, Bool.not_true, cond_false]
  by_cases m2 : inM (lsum (side true lo hi) l)
  rotate_left
  · rw [decide_eq_false m2, Bool.not_false, cond_true, if_neg (fun h => m2 h.2.2.2.2.2)]
  rw [decide_eq_true m2, Bool.not_true, cond_false, if_pos ⟨h0, h1, h2, h3, m1, m2⟩, f1 m1, f2 m2]

theorem bspec_in {l : List Int} {lo hi : Int} (h : (bspec l lo hi).2.2 = true) : inM (bspec l lo hi).1 ∧ inM (bspec l lo hi).2.1 := by
  unfold bspec at h ⊢
  split
  · rename_i hh; exact ⟨hh.2.2.2.2.1, hh.2.2.2.2.2⟩
  · rename_i hh; rw [if_neg hh] at h; cases h
end Go.Lf.T

import Derived.Test.YtagpgomkblgooaaLfP15a
/-! Lf: the arguments of stages, in plain words. -/
set_option linter.unusedVariables false
set_option maxRecDepth 100000
namespace Go.Lf.T
open Go Go.Lf

/-! ### Ranges -/
theorem rng_ok {a b n : Int} : (bif decide (n ≥ a) then (some ((decide (n ≤ b), ()), ())) else (some ((false, ()), ()))) = some ((decide (a ≤ n ∧ n ≤ b), ()), ()) := by
  by_cases h : a ≤ n
  · rw [decide_eq_true (p := n ≥ a) h, cond_true]; simp [h]
  · rw [decide_eq_false (p := n ≥ a) h, cond_false]; simp [h]
theorem sbt_ok (k : Nat) (n a b : Int) : shape_between k n a b = some ((decide (a ≤ n ∧ n ≤ b), ()), ()) := rng_ok
theorem ckern_ok (k : Nat) (n : Int) : convolve_kernel k n = some ((decide (1 ≤ n ∧ n ≤ 9), ()), ()) := rng_ok
theorem cval_ok (k : Nat) (n : Int) : convolve_value k n = some ((decide (1 ≤ n ∧ n ≤ 4294967296), ()), ()) := rng_ok
theorem sval_ok (k : Nat) (n : Int) : separable_value k n = some ((decide (1 ≤ n ∧ n ≤ 4294967296), ()), ()) := rng_ok
theorem sshf_ok (k : Nat) (n : Int) : separable_shiftable k n = some ((decide (0 ≤ n ∧ n ≤ 24), ()), ()) := rng_ok
theorem zval_ok (k : Nat) (n : Int) : resize_value k n = some ((decide (1 ≤ n ∧ n ≤ 4294967296), ()), ()) := rng_ok
theorem zshf_ok (k : Nat) (n : Int) : resize_shiftable k n = some ((decide (0 ≤ n ∧ n ≤ 24), ()), ()) := rng_ok
theorem tside_ok (k : Nat) (n : Int) : tables_side k n = some ((decide (1 ≤ n ∧ n ≤ 128), ()), ()) := rng_ok
theorem tfirst_ok (k : Nat) (n : Int) : tables_first k n = some ((decide (-128 ≤ n ∧ n ≤ 256), ()), ()) := rng_ok
theorem r9side_ok (k : Nat) (n : Int) : tilefarmref9_Side k n = some ((decide (1 ≤ n ∧ n ≤ 9), ()), ()) := rng_ok
theorem r9val_ok (k : Nat) (n : Int) : tilefarmref9_Value k n = some ((decide (1 ≤ n ∧ n ≤ 4294967296), ()), ()) := rng_ok
theorem r7shf_ok (k : Nat) (n : Int) : tilefarmref7_IsShift k n = some ((decide (0 ≤ n ∧ n ≤ 24), ()), ()) := rng_ok
theorem r8side_ok (k : Nat) (n : Int) : tilefarmref8_side k n = some ((decide (1 ≤ n ∧ n ≤ 128), ()), ()) := rng_ok
theorem r8first_ok (k : Nat) (n : Int) : tilefarmref8_first k n = some ((decide (-128 ≤ n ∧ n ≤ 256), ()), ()) := rng_ok
theorem r12_ok (k : Nat) (n : Int) : tilefarmref12_Bins k n = some ((decide (1 ≤ n ∧ n ≤ 128), ()), ()) := rng_ok

/-! ### Dense kernels -/
def kP (n : Int) : Prop := 1 ≤ n ∧ n ≤ 9
instance (n : Int) : Decidable (kP n) := inferInstanceAs (Decidable (_ ∧ _))
def vP (n : Int) : Prop := 1 ≤ n ∧ n ≤ 4294967296
instance (n : Int) : Decidable (vP n) := inferInstanceAs (Decidable (_ ∧ _))
def sP (n : Int) : Prop := 0 ≤ n ∧ n ≤ 24
instance (n : Int) : Decidable (sP n) := inferInstanceAs (Decidable (_ ∧ _))

def ccode (m kw kh : Int) (ws : List Int) (s o : Int) : Int :=
  if ¬ kP kw ∨ ¬ kP kh ∨ (ws.length : Int) ≠ kw * kh then 9 else if ¬ wP ws ∨ ¬ sP s then 10 else if ¬ vP m ∨ ¬ vP o then 2 else if (bspec ws 0 m).2.2 = true then 0 else 11

theorem conv_ok (k : Nat) (hk : 82 ≤ k) (m kw kh : Int) (ws : List Int) (s o : Int) : convolve_Check k m kw kh ws s o = some ((ccode m kw kh ws s o, ()), ()) := by
  unfold convolve_Check ccode
  simp only [ckern_ok, cval_ok, fw_ok k hk, fb_ok k hk, Option.bind_some]
  by_cases h1 : kP kw
  rotate_left
  · rw [decide_eq_false (show ¬ (1 ≤ kw ∧ kw ≤ 9) from h1), Bool.not_false, cond_true, if_pos (.inl h1)]
  rw [decide_eq_true (show 1 ≤ kw ∧ kw ≤ 9 from h1), Bool.not_true, cond_false]
  by_cases h2 : kP kh
  rotate_left
  · rw [decide_eq_false (show ¬ (1 ≤ kh ∧ kh ≤ 9) from h2), Bool.not_false, cond_true, if_pos (.inr (.inl h2))]
  rw [decide_eq_true (show 1 ≤ kh ∧ kh ≤ 9 from h2), Bool.not_true, cond_false]
  have hm := mul_le_of (show 0 ≤ kw by have := h1.1; omega) h1.2 (show 0 ≤ kh by have := h2.1; omega) h2.2
  have hm1 : 1 * 1 ≤ kw * kh := Int.mul_le_mul h1.1 h2.1 (by omega) (by have := h1.1; omega)
  rw [w64_id (n := kw * kh) (by omega) (by omega)]
  by_cases h3 : (ws.length : Int) = kw * kh
  rotate_left
  · rw [bne_tt h3, cond_true, if_pos (.inr (.inr h3))]
  rw [bne_ff h3, cond_false, if_neg (fun h => h.elim (fun h => h h1) (fun h => h.elim (fun h => h h2) (fun h => h h3)))]
  have hw : wcode ws = if wP ws then 0 else 10 := by unfold wcode; rw [if_neg (by omega)]
  rw [hw]
  by_cases h4 : wP ws
  rotate_left
  · rw [if_neg h4, if_pos (.inl h4)]; rfl
  rw [if_pos h4, bne_self_eq_false, cond_false]
  by_cases h5 : sP s
  rotate_left
  · rw [if_pos (.inr h5)]
    by_cases h6 : s < 0
    · rw [decide_eq_true h6, cond_true]
    · rw [decide_eq_false h6, cond_false, decide_eq_true (p := s > 24) (by unfold sP at h5; omega), cond_true]
  rw [decide_eq_false (p := s < 0) (by have := h5.1; omega), cond_false, decide_eq_false (p := s > 24) (by have := h5.2; omega), cond_false, if_neg (fun h => h.elim (fun h => h h4) (fun h => h h5))]
  by_cases h7 : vP m
  rotate_left
  · rw [decide_eq_false (show ¬ (1 ≤ m ∧ m ≤ 4294967296) from h7), Bool.not_false, cond_true, if_pos (.inl h7)]
  rw [decide_eq_true (show 1 ≤ m ∧ m ≤ 4294967296 from h7), Bool.not_true, cond_false]
  by_cases h8 : vP o
  rotate_left
  · rw [decide_eq_false (show ¬ (1 ≤ o ∧ o ≤ 4294967296) from h8), Bool.not_false, cond_true, if_pos (.inr h8)]
  rw [decide_eq_true (show 1 ≤ o ∧ o ≤ 4294967296 from h8), Bool.not_true, cond_false, if_neg (fun h => h.elim (fun h => h h7) (fun h => h h8))]
  cases (bspec ws 0 m).2.2 <;> rfl

theorem rconv_ok (k : Nat) (hk : 82 ≤ k) (m kw kh : Int) (ws : List Int) (s o : Int) : tilefarmref9_Check k m kw kh ws s o = some ((ccode m kw kh ws s o, ()), ()) := by
  unfold tilefarmref9_Check ccode
  simp only [r9side_ok, r9val_ok, r7shf_ok, rb_ok k hk, Option.bind_some]
  by_cases h1 : kP kw
  rotate_left
  · rw [decide_eq_false (show ¬ (1 ≤ kw ∧ kw ≤ 9) from h1), Bool.not_false, cond_true, if_pos (.inl h1)]
  rw [decide_eq_true (show 1 ≤ kw ∧ kw ≤ 9 from h1), Bool.not_true, cond_false]
  by_cases h2 : kP kh
  rotate_left
  · rw [decide_eq_false (show ¬ (1 ≤ kh ∧ kh ≤ 9) from h2), Bool.not_false, cond_true, if_pos (.inr (.inl h2))]
  rw [decide_eq_true (show 1 ≤ kh ∧ kh ≤ 9 from h2), Bool.not_true, cond_false]
  have hm := mul_le_of (show 0 ≤ kw by have := h1.1; omega) h1.2 (show 0 ≤ kh by have := h2.1; omega) h2.2
  rw [w64_id (n := kw * kh) (by omega) (by omega)]
  by_cases h3 : (ws.length : Int) = kw * kh
  rotate_left
  · rw [bne_tt h3, cond_true, if_pos (.inr (.inr h3))]
  rw [bne_ff h3, cond_false, if_neg (fun h => h.elim (fun h => h h1) (fun h => h.elim (fun h => h h2) (fun h => h h3))), aw_ok k (by omega) (by omega), Option.bind_some]
  by_cases h4 : wP ws
  rotate_left
  · rw [decide_eq_false h4, Bool.not_false, cond_true, if_pos (.inl h4)]
  rw [decide_eq_true h4, Bool.not_true, cond_false]
  by_cases h5 : sP s
  rotate_left
  · rw [decide_eq_false (show ¬ (0 ≤ s ∧ s ≤ 24) from h5), Bool.not_false, cond_true, if_pos (.inr h5)]
  rw [decide_eq_true (show 0 ≤ s ∧ s ≤ 24 from h5), Bool.not_true, cond_false, if_neg (fun h => h.elim (fun h => h h4) (fun h => h h5))]
  by_cases h7 : vP m
  rotate_left
  · rw [decide_eq_false (show ¬ (1 ≤ m ∧ m ≤ 4294967296) from h7), Bool.not_false, cond_true, if_pos (.inl h7)]
  rw [decide_eq_true (show 1 ≤ m ∧ m ≤ 4294967296 from h7), Bool.not_true, cond_false]
  by_cases h8 : vP o
  rotate_left
  · rw [decide_eq_false (show ¬ (1 ≤ o ∧ o ≤ 4294967296) from h8), Bool.not_false, cond_true, if_pos (.inr h8)]
  rw [decide_eq_true (show 1 ≤ o ∧ o ≤ 4294967296 from h8), Bool.not_true, cond_false, if_neg (fun h => h.elim (fun h => h h7) (fun h => h h8))]
  cases (bspec ws 0 m).2.2 <;> rfl

/-! ### Separable kernels -/
def b2code (row col : List Int) (m s : Int) : Int :=
  if (bspec row 0 m).2.2 = true then if (bspec col (shf (bspec row 0 m).1 s) (shf (bspec row 0 m).2.1 s)).2.2 = true then 0 else 11 else 11
def scode (m : Int) (row col : List Int) (s s2 o : Int) : Int :=
  if ¬ kP row.length ∨ ¬ kP col.length then 9 else if ¬ wP row ∨ ¬ wP col ∨ ¬ sP s ∨ ¬ sP s2 then 10 else if ¬ vP m ∨ ¬ vP o then 2 else b2code row col m s

theorem sep_ok (k : Nat) (hk : 82 ≤ k) (m : Int) (row col : List Int) (s s2 o : Int) : separable_Check k m row col s s2 o = some ((scode m row col s s2 o, ()), ()) := by
  unfold separable_Check scode
  by_cases h1 : kP row.length
  rotate_left
  · rw [if_pos (.inl h1)]
    by_cases h : (row.length : Int) < 1
    · rw [decide_eq_true h, cond_true]
    · rw [decide_eq_false h, cond_false, decide_eq_true (p := (row.length : Int) > 9) (by unfold kP at h1; omega), cond_true]
  rw [decide_eq_false (p := (row.length : Int) < 1) (by have := h1.1; omega), cond_false, decide_eq_false (p := (row.length : Int) > 9) (by have := h1.2; omega), cond_false]
  by_cases h2 : kP col.length
  rotate_left
  · rw [if_pos (.inr h2)]
    by_cases h : (col.length : Int) < 1
    · rw [decide_eq_true h, cond_true]
    · rw [decide_eq_false h, cond_false, decide_eq_true (p := (col.length : Int) > 9) (by unfold kP at h2; omega), cond_true]
  rw [decide_eq_false (p := (col.length : Int) < 1) (by have := h2.1; omega), cond_false, decide_eq_false (p := (col.length : Int) > 9) (by have := h2.2; omega), cond_false, if_neg (fun h => h.elim (fun h => h h1) (fun h => h h2))]
  unfold separable_Check.join3
  simp only [fw_ok k hk, fb_ok k hk, sshf_ok, sval_ok, Option.bind_some]
  have e1 := h1.1
  have e2 := h1.2
  have e3 := h2.1
  have e4 := h2.2
  have hw1 : wcode row = if wP row then 0 else 10 := by unfold wcode; rw [if_neg (by omega)]
  have hw2 : wcode col = if wP col then 0 else 10 := by unfold wcode; rw [if_neg (by omega)]
  rw [hw1, hw2]
  by_cases h4 : wP row
  rotate_left
  · rw [if_neg h4, if_pos (show ¬wP row ∨ ¬wP col ∨ ¬sP s ∨ ¬sP s2 from .inl h4)]; rfl
  rw [if_pos h4, bne_self_eq_false, cond_false]
  by_cases h5 : wP col
  rotate_left
  · rw [if_neg h5, if_pos (show ¬wP row ∨ ¬wP col ∨ ¬sP s ∨ ¬sP s2 from .inr (.inl h5))]; rfl
  rw [if_pos h5, bne_self_eq_false, cond_false]
  by_cases h6 : sP s
  rotate_left
  · rw [decide_eq_false (show ¬ (0 ≤ s ∧ s ≤ 24) from h6), Bool.not_false, cond_true, if_pos (.inr (.inr (.inl h6)))]
  rw [decide_eq_true (show 0 ≤ s ∧ s ≤ 24 from h6), Bool.not_true, cond_false]
  by_cases h9 : sP s2
  rotate_left
  · rw [decide_eq_false (show ¬ (0 ≤ s2 ∧ s2 ≤ 24) from h9), Bool.not_false, cond_true, if_pos (.inr (.inr (.inr h9)))]
  rw [decide_eq_true (show 0 ≤ s2 ∧ s2 ≤ 24 from h9), Bool.not_true, cond_false, if_neg (fun h => h.elim (fun h => h h4) (fun h => h.elim (fun h => h h5) (fun h => h.elim (fun h => h h6) (fun h => h h9))))]
  by_cases h7 : vP m
  rotate_left
  · rw [decide_eq_false (show ¬ (1 ≤ m ∧ m ≤ 4294967296) from h7), Bool.not_false, cond_true, if_pos (.inl h7)]
  rw [decide_eq_true (show 1 ≤ m ∧ m ≤ 4294967296 from h7), Bool.not_true, cond_false]
  by_cases h8 : vP o
  rotate_left
  · rw [decide_eq_false (show ¬ (1 ≤ o ∧ o ≤ 4294967296) from h8), Bool.not_false, cond_true, if_pos (.inr h8)]
  rw [decide_eq_true (show 1 ≤ o ∧ o ≤ 4294967296 from h8), Bool.not_true, cond_false, if_neg (fun h => h.elim (fun h => h h7) (fun h => h h8))]
  unfold b2code
  cases hb : (bspec row 0 m).2.2 with
  | false => rfl
  | true =>
    obtain ⟨i1, i2⟩ := bspec_in hb
    rw [cond_true, span_eq k i1 i2 h6.1 h6.2, Option.bind_some, if_pos rfl]
    cases (bspec col (shf (bspec row 0 m).1 s) (shf (bspec row 0 m).2.1 s)).2.2 <;> rfl

theorem rsep_ok (k : Nat) (hk : 82 ≤ k) (m : Int) (row col : List Int) (s s2 o : Int) : tilefarmref10_Check k m row col s s2 o = some ((scode m row col s s2 o, ()), ()) := by
  unfold tilefarmref10_Check scode
  simp only [r9side_ok, r9val_ok, r7shf_ok, Option.bind_some]
  by_cases h1 : kP row.length
  rotate_left
  · rw [decide_eq_false (show ¬ (1 ≤ (row.length : Int) ∧ (row.length : Int) ≤ 9) from h1), Bool.not_false, cond_true, if_pos (.inl h1)]
  rw [decide_eq_true (show 1 ≤ (row.length : Int) ∧ (row.length : Int) ≤ 9 from h1), Bool.not_true, cond_false]
  by_cases h2 : kP col.length
  rotate_left
  · rw [decide_eq_false (show ¬ (1 ≤ (col.length : Int) ∧ (col.length : Int) ≤ 9) from h2), Bool.not_false, cond_true, if_pos (.inr h2)]
  rw [decide_eq_true (show 1 ≤ (col.length : Int) ∧ (col.length : Int) ≤ 9 from h2), Bool.not_true, cond_false, if_neg (fun h => h.elim (fun h => h h1) (fun h => h h2))]
  have e2 := h1.2
  have e4 := h2.2
  rw [aw_ok k (l := row) (by omega) (by omega), Option.bind_some, aw_ok k (l := col) (by omega) (by omega), Option.bind_some]
  by_cases h4 : wP row
  rotate_left
  · rw [decide_eq_false h4, Bool.not_false, cond_true, if_pos (.inl h4)]
  rw [decide_eq_true h4, Bool.not_true, cond_false]
  by_cases h5 : wP col
  rotate_left
  · rw [decide_eq_false h5, Bool.not_false, cond_true, if_pos (.inr (.inl h5))]
  rw [decide_eq_true h5, Bool.not_true, cond_false]
  by_cases h6 : sP s
  rotate_left
  · rw [decide_eq_false (show ¬ (0 ≤ s ∧ s ≤ 24) from h6), Bool.not_false, cond_true, if_pos (.inr (.inr (.inl h6)))]
  rw [decide_eq_true (show 0 ≤ s ∧ s ≤ 24 from h6), Bool.not_true, cond_false]
  by_cases h9 : sP s2
  rotate_left
  · rw [decide_eq_false (show ¬ (0 ≤ s2 ∧ s2 ≤ 24) from h9), Bool.not_false, cond_true, if_pos (.inr (.inr (.inr h9)))]
  rw [decide_eq_true (show 0 ≤ s2 ∧ s2 ≤ 24 from h9), Bool.not_true, cond_false, if_neg (fun h => h.elim (fun h => h h4) (fun h => h.elim (fun h => h h5) (fun h => h.elim (fun h => h h6) (fun h => h h9))))]
  by_cases h7 : vP m
  rotate_left
  · rw [decide_eq_false (show ¬ (1 ≤ m ∧ m ≤ 4294967296) from h7), Bool.not_false, cond_true, if_pos (.inl h7)]
  rw [decide_eq_true (show 1 ≤ m ∧ m ≤ 4294967296 from h7), Bool.not_true, cond_false]
  by_cases h8 : vP o
  rotate_left
  · rw [decide_eq_false (show ¬ (1 ≤ o ∧ o ≤ 4294967296) from h8), Bool.not_false, cond_true, if_pos (.inr h8)]
  rw [decide_eq_true (show 1 ≤ o ∧ o ≤ 4294967296 from h8), Bool.not_true, cond_false, if_neg (fun h => h.elim (fun h => h h7) (fun h => h h8))]
  unfold tilefarmref10_Check.join7 b2code
  simp only [rb_ok k hk, Option.bind_some]
  cases hb : (bspec row 0 m).2.2 with
  | false => rfl
  | true =>
    obtain ⟨i1, i2⟩ := bspec_in hb
    rw [Bool.not_true, cond_false, rspan_ok k i1 i2 h6.1 h6.2, Option.bind_some, if_pos rfl]
    cases (bspec col (shf (bspec row 0 m).1 s) (shf (bspec row 0 m).2.1 s)).2.2 <;> rfl

/-! ### Tables -/
abbrev Tp' := Int × List Int
def tcode (t : Tp') : Int := if t.2.length = 0 ∨ 8 < t.2.length then 9 else if ¬ wP t.2 then 10 else if -128 ≤ t.1 ∧ t.1 ≤ 256 then 0 else 2
def tgo : List Tp' → Int
  | [] => 0
  | t :: l => if tcode t = 0 then tgo l else tcode t
theorem tgo_drop {l : List Tp'} {i : Nat} (hi : i < l.length) : tgo (l.drop i) = if tcode l[i] = 0 then tgo (l.drop (i + 1)) else tcode l[i] := by
  rw [List.drop_eq_getElem_cons hi]; rfl

theorem tv1_loop {R : Type} (k : Nat) (l : List Int) (e0 : Int → Option R) (e1 : Unit → Option R) (hl : l.length ≤ 4294967296) : ∀ (n i j : Nat), l.length - i = n → i ≤ l.length → n < j →
    tables_Valid.loop1 k j l l.length i e0 e1 = if wP (l.drop i) then e1 () else e0 10 := by
  intro n
  induction n with
  | zero =>
    intro i j hn hi hj
    obtain ⟨j, rfl⟩ : ∃ j', j = j' + 1 := ⟨j - 1, by omega⟩
    rw [tables_Valid.loop1_s, decide_eq_false (by omega), cond_false, show i = l.length by omega, List.drop_length, if_pos wP_nil]
  | succ n ih =>
    intro i j hn hi hj
    obtain ⟨j, rfl⟩ : ∃ j', j = j' + 1 := ⟨j - 1, by omega⟩
    have hlt : i < l.length := by omega
    rw [tables_Valid.loop1_s, decide_eq_true (by omega), cond_true, if_pos (by omega), Int.toNat_natCast, List.getElem?_eq_getElem hlt, Option.bind_some, w64_succ i (by omega), ih (i + 1) j (by omega) (by omega) (by omega)]
    by_cases h1 : l[i] < -32767
    · rw [decide_eq_true h1, cond_true, if_neg (fun h => by have := ((wP_drop hlt).1 h).1; omega)]
    rw [decide_eq_false h1, cond_false]
    by_cases h2 : l[i] > 32767
    · rw [decide_eq_true h2, cond_true, if_neg (fun h => by have := ((wP_drop hlt).1 h).1; omega)]
    rw [decide_eq_false h2, cond_false]
    by_cases h3 : wP (l.drop (i + 1))
    · rw [if_pos h3, if_pos ((wP_drop hlt).2 ⟨by omega, h3⟩)]
    · rw [if_neg h3, if_neg (fun h => h3 ((wP_drop hlt).1 h).2)]

theorem tv0_loop {R : Type} (k : Nat) (hk : 9 ≤ k) (l : List Tp') (e0 : Int → Option R) (e1 : Unit → Option R) (hl : l.length ≤ 4294967296) : ∀ (n i j : Nat), l.length - i = n → i ≤ l.length → n < j →
    tables_Valid.loop0 k j l l.length i e0 e1 = if tgo (l.drop i) = 0 then e1 () else e0 (tgo (l.drop i)) := by
  intro n
  induction n with
  | zero =>
    intro i j hn hi hj
    obtain ⟨j, rfl⟩ : ∃ j', j = j' + 1 := ⟨j - 1, by omega⟩
    rw [tables_Valid.loop0_s, decide_eq_false (by omega), cond_false, show i = l.length by omega, List.drop_length, if_pos (show tgo [] = 0 from rfl)]
  | succ n ih =>
    intro i j hn hi hj
    obtain ⟨j, rfl⟩ : ∃ j', j = j' + 1 := ⟨j - 1, by omega⟩
    have hlt : i < l.length := by omega
    rw [tables_Valid.loop0_s, decide_eq_true (by omega), cond_true, if_pos (by omega), Int.toNat_natCast, List.getElem?_eq_getElem hlt, Option.bind_some, w64_succ i (by omega), ih (i + 1) j (by omega) (by omega) (by omega), tgo_drop hlt]
    generalize l[i] = t
    have put : ∀ c, tcode t = c → c ≠ 0 → e0 c = if (if tcode t = 0 then tgo (l.drop (i + 1)) else tcode t) = 0 then e1 () else e0 (if tcode t = 0 then tgo (l.drop (i + 1)) else tcode t) := by
      intro c hc h0
      rw [hc, if_neg h0, if_neg h0]
    by_cases h0 : t.2.length = 0
    · have e : ((t.2.length : Int) == 0) = true := beq_iff_eq.2 (by omega)
      rw [e, cond_true]
      exact put 9 (by unfold tcode; rw [if_pos (.inl h0)]) (by omega)
    have e : ((t.2.length : Int) == 0) = false := beq_eq_false_iff_ne.2 (by omega)
    rw [e, cond_false]
    by_cases h8 : 8 < t.2.length
    · rw [decide_eq_true (p := (t.2.length : Int) > 8) (by omega), cond_true]
      exact put 9 (by unfold tcode; rw [if_pos (.inr h8)]) (by omega)
    rw [decide_eq_false (p := (t.2.length : Int) > 8) (by omega), cond_false]
    have t1 := tv1_loop k t.2 e0 (fun (_ : Unit) => ((tables_first k t.1).bind fun (y5 : (Bool × Unit) × Unit) => bif !y5.1.1 then (e0 2) else (if tgo (l.drop (i + 1)) = 0 then e1 () else e0 (tgo (l.drop (i + 1)))))) (by omega) t.2.length 0 k rfl (by omega) (by omega)
    refine Eq.trans t1 ?_
    rw [List.drop_zero]
    have hd : ¬ (t.2.length = 0 ∨ 8 < t.2.length) := by omega
    by_cases hw : wP t.2
    · rw [if_pos hw, tfirst_ok, Option.bind_some]
      by_cases hf : -128 ≤ t.1 ∧ t.1 ≤ 256
      · have : tcode t = 0 := by unfold tcode; rw [if_neg hd, if_neg (fun h => h hw), if_pos hf]
        rw [decide_eq_true hf, Bool.not_true, cond_false, if_pos this]
      · rw [decide_eq_false hf, Bool.not_false, cond_true]
        exact put 2 (by unfold tcode; rw [if_neg hd, if_neg (fun h => h hw), if_neg hf]) (by omega)
    · rw [if_neg hw]
      exact put 10 (by unfold tcode; rw [if_neg hd, if_pos hw]) (by omega)

theorem rtv_loop {R : Type} (k : Nat) (hk : 9 ≤ k) (l : List Tp') (e0 : Int → Option R) (e1 : Unit → Option R) (hl : l.length ≤ 4294967296) : ∀ (n i j : Nat), l.length - i = n → i ≤ l.length → n < j →
    tilefarmref8_Valid.loop0 k j l i e0 e1 = if tgo (l.drop i) = 0 then e1 () else e0 (tgo (l.drop i)) := by
  intro n
  induction n with
  | zero =>
    intro i j hn hi hj
    obtain ⟨j, rfl⟩ : ∃ j', j = j' + 1 := ⟨j - 1, by omega⟩
    rw [tilefarmref8_Valid.loop0_s, decide_eq_false (by omega), cond_false, show i = l.length by omega, List.drop_length, if_pos (show tgo [] = 0 from rfl)]
  | succ n ih =>
    intro i j hn hi hj
    obtain ⟨j, rfl⟩ : ∃ j', j = j' + 1 := ⟨j - 1, by omega⟩
    have hlt : i < l.length := by omega
    rw [tilefarmref8_Valid.loop0_s, decide_eq_true (by omega), cond_true, if_pos (by omega), Int.toNat_natCast, List.getElem?_eq_getElem hlt, Option.bind_some, w64_succ i (by omega), ih (i + 1) j (by omega) (by omega) (by omega), tgo_drop hlt]
    generalize l[i] = t
    have put : ∀ c, tcode t = c → c ≠ 0 → e0 c = if (if tcode t = 0 then tgo (l.drop (i + 1)) else tcode t) = 0 then e1 () else e0 (if tcode t = 0 then tgo (l.drop (i + 1)) else tcode t) := by
      intro c hc h0
      rw [hc, if_neg h0, if_neg h0]
    by_cases h0 : t.2.length = 0
    · have e : ((t.2.length : Int) == 0) = true := beq_iff_eq.2 (by omega)
      rw [e, cond_true]
      exact put 9 (by unfold tcode; rw [if_pos (.inl h0)]) (by omega)
    have e : ((t.2.length : Int) == 0) = false := beq_eq_false_iff_ne.2 (by omega)
    rw [e, cond_false]
    by_cases h8 : 8 < t.2.length
    · rw [decide_eq_true (p := (t.2.length : Int) > 8) (by omega), cond_true]
      exact put 9 (by unfold tcode; rw [if_pos (.inr h8)]) (by omega)
    rw [decide_eq_false (p := (t.2.length : Int) > 8) (by omega), cond_false, aw_ok k (by omega) (by omega), Option.bind_some]
    have hd : ¬ (t.2.length = 0 ∨ 8 < t.2.length) := by omega
    by_cases hw : wP t.2
    · rw [decide_eq_true hw, Bool.not_true, cond_false, r8first_ok, Option.bind_some]
      by_cases hf : -128 ≤ t.1 ∧ t.1 ≤ 256
      · have : tcode t = 0 := by unfold tcode; rw [if_neg hd, if_neg (fun h => h hw), if_pos hf]
        rw [decide_eq_true hf, Bool.not_true, cond_false, if_pos this]
      · rw [decide_eq_false hf, Bool.not_false, cond_true]
        exact put 2 (by unfold tcode; rw [if_neg hd, if_neg (fun h => h hw), if_neg hf]) (by omega)
    · rw [decide_eq_false hw, Bool.not_false, cond_true]
      exact put 10 (by unfold tcode; rw [if_neg hd, if_pos hw]) (by omega)

def lP (n : Int) : Prop := 1 ≤ n ∧ n ≤ 128
instance (n : Int) : Decidable (lP n) := inferInstanceAs (Decidable (_ ∧ _))
def tvcode (l : List Tp') (n : Int) : Int := if ¬ lP n ∨ ¬ lP l.length then 8 else tgo l

theorem tv_ok (k : Nat) (hk : 129 ≤ k) (l : List Tp') (n : Int) : tables_Valid k l n = some ((tvcode l n, ()), ()) := by
  unfold tables_Valid tvcode
  rw [tside_ok, tside_ok, Option.bind_some, Option.bind_some]
  by_cases h1 : lP n
  rotate_left
  · rw [decide_eq_false (show ¬ (1 ≤ n ∧ n ≤ 128) from h1), Bool.not_false, cond_true, if_pos (.inl h1)]
  rw [decide_eq_true (show 1 ≤ n ∧ n ≤ 128 from h1), Bool.not_true, cond_false]
  by_cases h2 : lP l.length
  rotate_left
  · rw [decide_eq_false (show ¬ (1 ≤ (l.length : Int) ∧ (l.length : Int) ≤ 128) from h2), Bool.not_false, cond_true, if_pos (.inr h2)]
  rw [decide_eq_true (show 1 ≤ (l.length : Int) ∧ (l.length : Int) ≤ 128 from h2), Bool.not_true, cond_false, if_neg (fun h => h.elim (fun h => h h1) (fun h => h h2))]
  have e2 := h2.2
  refine (tv0_loop k (by omega) l _ _ (by omega) l.length 0 k rfl (by omega) (by omega)).trans ?_
  rw [List.drop_zero]
  by_cases h : tgo l = 0
  · rw [if_pos h, h]
  · rw [if_neg h]

theorem rtv_ok (k : Nat) (hk : 129 ≤ k) (l : List Tp') (n : Int) : tilefarmref8_Valid k l n = some ((tvcode l n, ()), ()) := by
  unfold tilefarmref8_Valid tvcode
  rw [r8side_ok, r8side_ok, Option.bind_some, Option.bind_some]
  by_cases h1 : lP n
  rotate_left
  · rw [decide_eq_false (show ¬ (1 ≤ n ∧ n ≤ 128) from h1), Bool.not_false, cond_true, if_pos (.inl h1)]
  rw [decide_eq_true (show 1 ≤ n ∧ n ≤ 128 from h1), Bool.not_true, cond_false]
  by_cases h2 : lP l.length
  rotate_left
  · rw [decide_eq_false (show ¬ (1 ≤ (l.length : Int) ∧ (l.length : Int) ≤ 128) from h2), Bool.not_false, cond_true, if_pos (.inr h2)]
  rw [decide_eq_true (show 1 ≤ (l.length : Int) ∧ (l.length : Int) ≤ 128 from h2), Bool.not_true, cond_false, if_neg (fun h => h.elim (fun h => h h1) (fun h => h h2))]
  have e2 := h2.2
  refine (rtv_loop k (by omega) l _ _ (by omega) l.length 0 k rfl (by omega) (by omega)).trans ?_
  rw [List.drop_zero]
  by_cases h : tgo l = 0
  · rw [if_pos h, h]
  · rw [if_neg h]

/-! ### Resizing -/
def rx (m s : Int) : List Tp' → Bool → Int → Int → Option (Int × Int)
  | [], _, lo, hi => some (lo, hi)
  | t :: l, f, lo, hi => if (bspec t.2 0 m).2.2 = true then
      if f = true then rx m s l false (mm false (shf (bspec t.2 0 m).1 s) (shf (bspec t.2 0 m).1 s)) (mm true (shf (bspec t.2 0 m).2.1 s) (shf (bspec t.2 0 m).2.1 s))
      else rx m s l false (mm false lo (shf (bspec t.2 0 m).1 s)) (mm true hi (shf (bspec t.2 0 m).2.1 s))
    else none
theorem rx_cons (m s : Int) (t : Tp') (l : List Tp') (f : Bool) (lo hi : Int) : rx m s (t :: l) f lo hi = if (bspec t.2 0 m).2.2 = true then
      if f = true then rx m s l false (mm false (shf (bspec t.2 0 m).1 s) (shf (bspec t.2 0 m).1 s)) (mm true (shf (bspec t.2 0 m).2.1 s) (shf (bspec t.2 0 m).2.1 s))
      else rx m s l false (mm false lo (shf (bspec t.2 0 m).1 s)) (mm true hi (shf (bspec t.2 0 m).2.1 s))
    else none := rfl
def ry (lo hi : Int) (l : List Tp') : Prop := ∀ t ∈ l, (bspec t.2 lo hi).2.2 = true
instance (lo hi : Int) (l : List Tp') : Decidable (ry lo hi l) := inferInstanceAs (Decidable (∀ t ∈ l, _))
theorem ry_nil (lo hi : Int) : ry lo hi [] := fun x h => by cases h
theorem ry_drop {lo hi : Int} {l : List Tp'} {i : Nat} (hi' : i < l.length) : ry lo hi (l.drop i) ↔ (bspec l[i].2 lo hi).2.2 = true ∧ ry lo hi (l.drop (i + 1)) := by
  unfold ry
  constructor
  · intro h
    rw [List.drop_eq_getElem_cons hi'] at h
    exact ⟨h _ (List.mem_cons_self), fun x hx => h x (List.mem_cons_of_mem _ hx)⟩
  · rintro ⟨h1, h2⟩ x hx
    rw [List.drop_eq_getElem_cons hi'] at hx
    rcases List.mem_cons.1 hx with rfl | hx
    · exact h1
    · exact h2 x hx

def outc {R : Type} (e0 : Int → Option R) (e1 : Int → Int → Option R) : Option (Int × Int) → Option R
  | some (a, b) => e1 a b
  | none => e0 11

theorem z0_loop {R : Type} (k : Nat) (hk : 82 ≤ k) (l : List Tp') {s : Int} (hs : sP s) (b0 b1 m : Int) (e0 : Int → Option R) (e1 : Int → Int → Option R) (hl : l.length ≤ 4294967296) : ∀ (n i j : Nat) (lo hi : Int), l.length - i = n → i ≤ l.length → n < j →
    resize_Check.loop0 k j s lo hi l l.length i b0 b1 m e0 e1 = outc e0 e1 (rx m s (l.drop i) (decide (i = 0)) lo hi) := by
  intro n
  induction n with
  | zero =>
    intro i j lo hi hn hi' hj
    obtain ⟨j, rfl⟩ : ∃ j', j = j' + 1 := ⟨j - 1, by omega⟩
    rw [resize_Check.loop0_s, decide_eq_false (p := (i : Int) < _) (by omega), cond_false, List.drop_eq_nil_of_le (by omega)]
    rfl
  | succ n ih =>
    intro i j lo hi hn hi' hj
    obtain ⟨j, rfl⟩ : ∃ j', j = j' + 1 := ⟨j - 1, by omega⟩
    have hlt : i < l.length := by omega
    rw [resize_Check.loop0_s, decide_eq_true (p := (i : Int) < _) (by omega), cond_true, if_pos (by omega), Int.toNat_natCast, List.getElem?_eq_getElem hlt, Option.bind_some, w64_succ i (by omega), fb_ok k hk, Option.bind_some, List.drop_eq_getElem_cons hlt]
    simp only [ih (i + 1) j _ _ (by omega) (by omega) (by omega)]
    have h1 : decide (i + 1 = 0) = false := decide_eq_false (by omega)
    rw [h1, rx_cons]
    cases hb : (bspec l[i].2 0 m).2.2 with
    | false => rw [if_neg (by simp)]; rfl
    | true =>
      obtain ⟨i1, i2⟩ := bspec_in hb
      rw [Bool.not_true, cond_false, span_eq k i1 i2 hs.1 hs.2, Option.bind_some, if_pos rfl]
      by_cases h0 : i = 0
      · have e : ((i : Int) == 0) = true := beq_iff_eq.2 (by omega)
        rw [e, cond_true, if_pos (decide_eq_true h0)]
      · have e : ((i : Int) == 0) = false := beq_eq_false_iff_ne.2 (by omega)
        rw [e, cond_false, if_neg (by rw [decide_eq_false h0]; simp)]

theorem rz0_loop {R : Type} (k : Nat) (hk : 82 ≤ k) (l : List Tp') {s : Int} (hs : sP s) (b0 b1 m : Int) (e0 : Int → Option R) (e1 : Int → Int → Option R) (hl : l.length ≤ 4294967296) : ∀ (n i j : Nat) (lo hi : Int), l.length - i = n → i ≤ l.length → n < j →
    tilefarmref11_Check.loop0 k j l s lo hi i b0 b1 m e0 e1 = outc e0 e1 (rx m s (l.drop i) (decide (i = 0)) lo hi) := by
  intro n
  induction n with
  | zero =>
    intro i j lo hi hn hi' hj
    obtain ⟨j, rfl⟩ : ∃ j', j = j' + 1 := ⟨j - 1, by omega⟩
    rw [tilefarmref11_Check.loop0_s, decide_eq_false (p := (i : Int) < _) (by omega), cond_false, List.drop_eq_nil_of_le (by omega)]
    rfl
  | succ n ih =>
    intro i j lo hi hn hi' hj
    obtain ⟨j, rfl⟩ : ∃ j', j = j' + 1 := ⟨j - 1, by omega⟩
    have hlt : i < l.length := by omega
    rw [tilefarmref11_Check.loop0_s, decide_eq_true (p := (i : Int) < _) (by omega), cond_true, if_pos (by omega), Int.toNat_natCast, List.getElem?_eq_getElem hlt, Option.bind_some, w64_succ i (by omega), rb_ok k hk, Option.bind_some, List.drop_eq_getElem_cons hlt]
    simp only [ih (i + 1) j _ _ (by omega) (by omega) (by omega)]
    have h1 : decide (i + 1 = 0) = false := decide_eq_false (by omega)
    rw [h1, rx_cons]
    cases hb : (bspec l[i].2 0 m).2.2 with
    | false => rw [if_neg (by simp)]; rfl
    | true =>
      obtain ⟨i1, i2⟩ := bspec_in hb
      rw [Bool.not_true, cond_false, rspan_ok k i1 i2 hs.1 hs.2, Option.bind_some, if_pos rfl]
      by_cases h0 : i = 0
      · have e : ((i : Int) == 0) = true := beq_iff_eq.2 (by omega)
        rw [e, cond_true, if_pos (decide_eq_true h0)]
      · have e : ((i : Int) == 0) = false := beq_eq_false_iff_ne.2 (by omega)
        rw [e, cond_false, if_neg (by rw [decide_eq_false h0]; simp)]

theorem z1_loop {R : Type} (k : Nat) (hk : 82 ≤ k) (l : List Tp') (lo hi : Int) (e0 : Int → Option R) (e1 : Unit → Option R) (hl : l.length ≤ 4294967296) : ∀ (n i j : Nat), l.length - i = n → i ≤ l.length → n < j →
    resize_Check.loop1 k j lo hi l l.length i e0 e1 = if ry lo hi (l.drop i) then e1 () else e0 11 := by
  intro n
  induction n with
  | zero =>
    intro i j hn hi' hj
    obtain ⟨j, rfl⟩ : ∃ j', j = j' + 1 := ⟨j - 1, by omega⟩
    rw [resize_Check.loop1_s, decide_eq_false (by omega), cond_false, List.drop_eq_nil_of_le (by omega), if_pos (ry_nil _ _)]
  | succ n ih =>
    intro i j hn hi' hj
    obtain ⟨j, rfl⟩ : ∃ j', j = j' + 1 := ⟨j - 1, by omega⟩
    have hlt : i < l.length := by omega
    rw [resize_Check.loop1_s, decide_eq_true (by omega), cond_true, if_pos (by omega), Int.toNat_natCast, List.getElem?_eq_getElem hlt, Option.bind_some, w64_succ i (by omega), fb_ok k hk, Option.bind_some, ih (i + 1) j (by omega) (by omega) (by omega)]
    cases hb : (bspec l[i].2 lo hi).2.2 with
    | false => rw [Bool.not_false, cond_true, if_neg (fun h => by have := ((ry_drop hlt).1 h).1; rw [hb] at this; cases this)]
    | true =>
      rw [Bool.not_true, cond_false]
      by_cases h3 : ry lo hi (l.drop (i + 1))
      · rw [if_pos h3, if_pos ((ry_drop hlt).2 ⟨hb, h3⟩)]
      · rw [if_neg h3, if_neg (fun h => h3 ((ry_drop hlt).1 h).2)]

theorem rz1_loop {R : Type} (k : Nat) (hk : 82 ≤ k) (l : List Tp') (lo hi : Int) (e0 : Int → Option R) (e1 : Unit → Option R) (hl : l.length ≤ 4294967296) : ∀ (n i j : Nat), l.length - i = n → i ≤ l.length → n < j →
    tilefarmref11_Check.loop1 k j l lo hi i e0 e1 = if ry lo hi (l.drop i) then e1 () else e0 11 := by
  intro n
  induction n with
  | zero =>
    intro i j hn hi' hj
    obtain ⟨j, rfl⟩ : ∃ j', j = j' + 1 := ⟨j - 1, by omega⟩
    rw [tilefarmref11_Check.loop1_s, decide_eq_false (by omega), cond_false, List.drop_eq_nil_of_le (by omega), if_pos (ry_nil _ _)]
  | succ n ih =>
    intro i j hn hi' hj
    obtain ⟨j, rfl⟩ : ∃ j', j = j' + 1 := ⟨j - 1, by omega⟩
    have hlt : i < l.length := by omega
    rw [tilefarmref11_Check.loop1_s, decide_eq_true (by omega), cond_true, if_pos (by omega), Int.toNat_natCast, List.getElem?_eq_getElem hlt, Option.bind_some, w64_succ i (by omega), rb_ok k hk, Option.bind_some, ih (i + 1) j (by omega) (by omega) (by omega)]
    cases hb : (bspec l[i].2 lo hi).2.2 with
    | false => rw [Bool.not_false, cond_true, if_neg (fun h => by have := ((ry_drop hlt).1 h).1; rw [hb] at this; cases this)]
    | true =>
      rw [Bool.not_true, cond_false]
      by_cases h3 : ry lo hi (l.drop (i + 1))
      · rw [if_pos h3, if_pos ((ry_drop hlt).2 ⟨hb, h3⟩)]
      · rw [if_neg h3, if_neg (fun h => h3 ((ry_drop hlt).1 h).2)]

def zend (m s : Int) (x y : List Tp') : Int := match rx m s x true 0 0 with
  | some (a, b) => if ry a b y then 0 else 11
  | none => 11
def zcode (sh : Int × Int × Int) (x y : List Tp') (s s2 o : Int) : Int :=
  if tvcode x sh.1 ≠ 0 then tvcode x sh.1 else if tvcode y sh.2.1 ≠ 0 then tvcode y sh.2.1 else if 4096 < x.length * y.length then 8
  else if ¬ sP s ∨ ¬ sP s2 then 10 else if ¬ vP sh.2.2 ∨ ¬ vP o then 2 else zend sh.2.2 s x y

theorem tv0_len {l : List Tp'} {n : Int} (h : tvcode l n = 0) : l.length ≤ 128 := by
  unfold tvcode at h
  by_cases h1 : ¬ lP n ∨ ¬ lP l.length
  · rw [if_pos h1] at h; omega
  · by_cases h2 : lP l.length
    · have := h2.2; omega
    · exact absurd (.inr h2) h1

theorem res_ok (k : Nat) (hk : 129 ≤ k) (sh : Int × Int × Int) (x y : List Tp') (s s2 o : Int) : resize_Check k sh x y s s2 o = some ((zcode sh x y s s2 o, ()), ()) := by
  unfold resize_Check zcode
  rw [tv_ok k hk, Option.bind_some]
  by_cases h1 : tvcode x sh.1 = 0
  rotate_left
  · simp only [bne_tt h1]; rw [cond_true, if_pos h1]
  simp only [bne_ff h1]
  rw [cond_false, if_neg (fun h => h h1), tv_ok k hk, Option.bind_some]
  by_cases h2 : tvcode y sh.2.1 = 0
  rotate_left
  · simp only [bne_tt h2]; rw [cond_true, if_pos h2]
  simp only [bne_ff h2]
  rw [cond_false, if_neg (fun h => h h2)]
  have l1 := tv0_len h1
  have l2 := tv0_len h2
  have hxy : x.length * y.length ≤ 128 * 128 := Nat.mul_le_mul l1 l2
  have ec : ((x.length : Int) * (y.length : Int)) = ((x.length * y.length : Nat) : Int) := by simp
  obtain ⟨v, hv, _⟩ := mul_ok k (a := (x.length : Int)) (b := (y.length : Int)) (c := 4096) (by omega) (by omega)
  rw [hv, Option.bind_some]
  by_cases h3 : 4096 < x.length * y.length
  · rw [decide_eq_false (fun h => by have := h.2.2; omega), Bool.not_false, cond_true, if_pos h3]
  rw [decide_eq_true (⟨by omega, by omega, by omega⟩ : 0 ≤ (x.length : Int) ∧ 0 ≤ (y.length : Int) ∧ (x.length : Int) * (y.length : Int) ≤ 4096), Bool.not_true, cond_false, if_neg h3]
  simp only [zshf_ok, zval_ok, Option.bind_some]
  by_cases h6 : sP s
  rotate_left
  · rw [decide_eq_false (show ¬ (0 ≤ s ∧ s ≤ 24) from h6), Bool.not_false, cond_true, if_pos (.inl h6)]
  rw [decide_eq_true (show 0 ≤ s ∧ s ≤ 24 from h6), Bool.not_true, cond_false]
  by_cases h9 : sP s2
  rotate_left
  · rw [decide_eq_false (show ¬ (0 ≤ s2 ∧ s2 ≤ 24) from h9), Bool.not_false, cond_true, if_pos (.inr h9)]
  rw [decide_eq_true (show 0 ≤ s2 ∧ s2 ≤ 24 from h9), Bool.not_true, cond_false, if_neg (fun h => h.elim (fun h => h h6) (fun h => h h9))]
  by_cases h7 : vP sh.2.2
  rotate_left
  · rw [decide_eq_false (show ¬ (1 ≤ sh.2.2 ∧ sh.2.2 ≤ 4294967296) from h7), Bool.not_false, cond_true, if_pos (.inl h7)]
  rw [decide_eq_true (show 1 ≤ sh.2.2 ∧ sh.2.2 ≤ 4294967296 from h7), Bool.not_true, cond_false]
  by_cases h8 : vP o
  rotate_left
  · rw [decide_eq_false (show ¬ (1 ≤ o ∧ o ≤ 4294967296) from h8), Bool.not_false, cond_true, if_pos (.inr h8)]
  rw [decide_eq_true (show 1 ≤ o ∧ o ≤ 4294967296 from h8), Bool.not_true, cond_false, if_neg (fun h => h.elim (fun h => h h7) (fun h => h h8))]
  refine (z0_loop k (by omega) x h6 _ _ _ _ _ (by omega) x.length 0 k 0 0 rfl (by omega) (by omega)).trans ?_
  rw [List.drop_zero]
  unfold zend
  rw [show decide ((0 : Nat) = 0) = true from rfl]
  cases rx sh.2.2 s x true 0 0 with
  | none => rfl
  | some ab =>
    obtain ⟨a, b⟩ := ab
    refine (z1_loop k (by omega) y a b _ _ (by omega) y.length 0 k rfl (by omega) (by omega)).trans ?_
    rw [List.drop_zero]
    simp only
    by_cases h : ry a b y
    · rw [if_pos h, if_pos h]
    · rw [if_neg h, if_neg h]

theorem rres_ok (k : Nat) (hk : 129 ≤ k) (sh : Int × Int × Int) (x y : List Tp') (s s2 o : Int) : tilefarmref11_Check k sh x y s s2 o = some ((zcode sh x y s s2 o, ()), ()) := by
  unfold tilefarmref11_Check zcode
  rw [rtv_ok k hk, Option.bind_some]
  by_cases h1 : tvcode x sh.1 = 0
  rotate_left
  · simp only [bne_tt h1]; rw [cond_true, if_pos h1]
  simp only [bne_ff h1]
  rw [cond_false, if_neg (fun h => h h1), rtv_ok k hk, Option.bind_some]
  by_cases h2 : tvcode y sh.2.1 = 0
  rotate_left
  · simp only [bne_tt h2]; rw [cond_true, if_pos h2]
  simp only [bne_ff h2]
  rw [cond_false, if_neg (fun h => h h2)]
  have l1 := tv0_len h1
  have l2 := tv0_len h2
  have hxy : x.length * y.length ≤ 128 * 128 := Nat.mul_le_mul l1 l2
  have ec : ((x.length : Int) * (y.length : Int)) = ((x.length * y.length : Nat) : Int) := by simp
  rw [ec, w64_id (by omega) (by omega)]
  by_cases h3 : 4096 < x.length * y.length
  · rw [decide_eq_true (by omega), cond_true, if_pos h3]
  rw [decide_eq_false (by omega), cond_false, if_neg h3]
  simp only [r7shf_ok, r9val_ok, Option.bind_some]
  by_cases h6 : sP s
  rotate_left
  · rw [decide_eq_false (show ¬ (0 ≤ s ∧ s ≤ 24) from h6), Bool.not_false, cond_true, if_pos (.inl h6)]
  rw [decide_eq_true (show 0 ≤ s ∧ s ≤ 24 from h6), Bool.not_true, cond_false]
  by_cases h9 : sP s2
  rotate_left
  · rw [decide_eq_false (show ¬ (0 ≤ s2 ∧ s2 ≤ 24) from h9), Bool.not_false, cond_true, if_pos (.inr h9)]
  rw [decide_eq_true (show 0 ≤ s2 ∧ s2 ≤ 24 from h9), Bool.not_true, cond_false, if_neg (fun h => h.elim (fun h => h h6) (fun h => h h9))]
  by_cases h7 : vP sh.2.2
  rotate_left
  · rw [decide_eq_false (show ¬ (1 ≤ sh.2.2 ∧ sh.2.2 ≤ 4294967296) from h7), Bool.not_false, cond_true, if_pos (.inl h7)]
  rw [decide_eq_true (show 1 ≤ sh.2.2 ∧ sh.2.2 ≤ 4294967296 from h7), Bool.not_true, cond_false]
  by_cases h8 : vP o
  rotate_left
  · rw [decide_eq_false (show ¬ (1 ≤ o ∧ o ≤ 4294967296) from h8), Bool.not_false, cond_true, if_pos (.inr h8)]
  rw [decide_eq_true (show 1 ≤ o ∧ o ≤ 4294967296 from h8), Bool.not_true, cond_false, if_neg (fun h => h.elim (fun h => h h7) (fun h => h h8))]
  refine (rz0_loop k (by omega) x h6 _ _ _ _ _ (by omega) x.length 0 k 0 0 rfl (by omega) (by omega)).trans ?_
  rw [List.drop_zero]
  unfold zend
  rw [show decide ((0 : Nat) = 0) = true from rfl]
  cases rx sh.2.2 s x true 0 0 with
  | none => rfl
  | some ab =>
    obtain ⟨a, b⟩ := ab
    refine (rz1_loop k (by omega) y a b _ _ (by omega) y.length 0 k rfl (by omega) (by omega)).trans ?_
    rw [List.drop_zero]
    simp only
    by_cases h : ry a b y
    · rw [if_pos h, if_pos h]
    · rw [if_neg h, if_neg h]
end Go.Lf.T

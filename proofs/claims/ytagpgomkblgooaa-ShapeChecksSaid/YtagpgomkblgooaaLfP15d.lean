import Derived.Test.YtagpgomkblgooaaLfP15c
/-! Lf: the shapes of stages, in plain words. -/
set_option linter.unusedVariables false
set_option maxRecDepth 100000
namespace Go.Lf.T
open Go Go.Lf

abbrev Sg.ops (s : Sg) : List (Int × Int) := s.2.2.2.2.2.2.2.2.2.2.2.2.2.2.2.1
abbrev Sg.mx (s : Sg) : Int := s.2.2.2.2.2.2.2.2.2.2.2.2.2.2.2.2
abbrev Sg.bins (s : Sg) : Int := s.2.2.2.2.2.2.2.2.2.2.2.2.2.2.1
abbrev Sg.x (s : Sg) : List (Int × List Int) := s.2.2.2.2.2.2.2.2.2.2.2.2.1
abbrev Sg.y (s : Sg) : List (Int × List Int) := s.2.2.2.2.2.2.2.2.2.2.2.2.2.1
abbrev Sg.sh (s : Sg) : Int := s.2.2.2.2.2.2.2.2.2.2.1
abbrev Sg.sh2 (s : Sg) : Int := s.2.2.2.2.2.2.2.2.2.2.2.1

def icode (l : List (Int × Int)) (two : Bool) (a b out : Int) : Int :=
  if vcode l two ≠ 0 then vcode l two else if 1 ≤ out ∧ out ≤ 4294967296 then (iv l a (if two = true then b else 1)).2.2 else 2
def pcode (s : Sg) (a b : Sh) : Int :=
  if icode s.ops (twoB s) a.2.2 b.2.2 s.mx ≠ 0 then icode s.ops (twoB s) a.2.2 b.2.2 s.mx
  else if twoB s = true ∧ (a.1 ≠ b.1 ∨ a.2.1 ≠ b.2.1) then 8 else 0

def kcode (s : Sg) (a b : Sh) : Int :=
  if s.1 = 1 then ccode a.2.2 s.2.2.2.2.2.1 s.2.2.2.2.2.2.1 s.2.2.2.2.2.2.2.1 s.sh s.mx
  else if s.1 = 2 then scode a.2.2 s.2.2.2.2.2.2.2.2.1 s.2.2.2.2.2.2.2.2.2.1 s.sh s.sh2 s.mx
  else if s.1 = 3 then zcode a s.x s.y s.sh s.sh2 s.mx
  else if s.1 = 4 then (if 1 ≤ s.bins ∧ s.bins ≤ 128 then 0 else 9)
  else if s.1 = 5 then (if mostP a then 0 else 11)
  else pcode s a b

theorem beq_l {a b : Int} (h : a = b) : (a == b) = true := beq_iff_eq.2 h

theorem scheck_ok (k : Nat) (hk : 129 ≤ k) (s : Sg) (a b : Sh) : shape_check k s a b = some ((kcode s a b, ()), ()) := by
  unfold shape_check kcode
  by_cases h1 : s.1 = 1
  · rw [beq_l h1, cond_true, if_pos h1, conv_ok k (by omega), Option.bind_some]
  rw [bne_lit h1, cond_false, if_neg h1]
  by_cases h2 : s.1 = 2
  · rw [beq_l h2, cond_true, if_pos h2, sep_ok k (by omega), Option.bind_some]
  rw [bne_lit h2, cond_false, if_neg h2]
  by_cases h3 : s.1 = 3
  · rw [beq_l h3, cond_true, if_pos h3, res_ok k hk, Option.bind_some]
  rw [bne_lit h3, cond_false, if_neg h3]
  by_cases h4 : s.1 = 4
  · rw [beq_l h4, cond_true, if_pos h4, sbt_ok, Option.bind_some]
    by_cases h : 1 ≤ s.bins ∧ s.bins ≤ 128
    · rw [decide_eq_true h, if_pos h]; rfl
    · rw [decide_eq_false h, if_neg h]; rfl
  rw [bne_lit h4, cond_false, if_neg h4]
  by_cases h5 : s.1 = 5
  · rw [beq_l h5, cond_true, if_pos h5, int_ok, Option.bind_some]
  rw [bne_lit h5, cond_false, if_neg h5]
  unfold pcode icode
  simp only [two_ok, sbt_ok, valid_ok k _ _ (show 33 ≤ k by omega), interval_ok k _ _ _ (show 33 ≤ k by omega), Option.bind_some]
  by_cases hv : vcode s.ops (twoB s) = 0
  rotate_left
  · have hv' : vcode s.ops (twoB s) ≠ 0 := hv
    rw [bne_tt hv, cond_true, if_pos hv', if_pos hv']
  have hv' : ¬ vcode s.ops (twoB s) ≠ 0 := fun h => h hv
  rw [bne_ff hv, cond_false, if_neg hv']
  by_cases ho : 1 ≤ s.mx ∧ s.mx ≤ 4294967296
  rotate_left
  · rw [decide_eq_false ho, Bool.not_false, cond_true, if_neg ho]; rfl
  rw [decide_eq_true ho, Bool.not_true, cond_false, if_pos ho]
  cases ht : twoB s with
  | true =>
    rw [cond_true, if_pos rfl]
    by_cases hi : (iv s.ops a.2.2 b.2.2).2.2 = 0
    rotate_left
    · have hi' : (iv s.ops a.2.2 b.2.2).2.2 ≠ 0 := hi
      rw [bne_tt hi, cond_true, if_pos hi']
    have hi' : ¬ (iv s.ops a.2.2 b.2.2).2.2 ≠ 0 := fun h => h hi
    rw [bne_ff hi, cond_false, cond_true, if_neg hi']
    by_cases d1 : a.1 = b.1
    rotate_left
    · rw [bne_tt d1, cond_true, if_pos ⟨rfl, .inl d1⟩]
    rw [bne_ff d1, cond_false]
    by_cases d2 : a.2.1 = b.2.1
    rotate_left
    · rw [bne_tt d2, cond_true, if_pos ⟨rfl, .inr d2⟩]
    rw [bne_ff d2, cond_false, if_neg (fun h => h.2.elim (fun h => h d1) (fun h => h d2))]
  | false =>
    rw [cond_false, if_neg Bool.false_ne_true]
    by_cases hi : (iv s.ops a.2.2 1).2.2 = 0
    rotate_left
    · have hi' : (iv s.ops a.2.2 1).2.2 ≠ 0 := hi
      rw [bne_tt hi, cond_true, if_pos hi']
    have hi' : ¬ (iv s.ops a.2.2 1).2.2 ≠ 0 := fun h => h hi
    rw [bne_ff hi, cond_false, cond_false, if_neg hi', if_neg (show ¬ (false = true ∧ (a.1 ≠ b.1 ∨ a.2.1 ≠ b.2.1)) from fun h => absurd h.1 Bool.false_ne_true)]

def oshape (s : Sg) (a : Sh) : Sh :=
  if s.1 = 3 then ((s.x.length : Int), (s.y.length : Int), s.mx) else if s.1 = 4 then (s.bins, 1, w64 (a.1 * a.2.1)) else if s.1 = 5 then (a.1, a.2.1, a.1 * a.2.1 * a.2.2) else (a.1, a.2.1, s.mx)

/-- The shape of a stage's result. -/
def ofspec (s : Sg) (a b : Sh) : Sh × Int :=
  if ¬ fieldsP s then ((0, 0, 0), 1) else if ¬ sizeP a.1 a.2.1 a.2.2 ∨ (twoB s = true ∧ ¬ sizeP b.1 b.2.1 b.2.2) then ((0, 0, 0), 2)
  else if edB s.1 = true ∧ edgeB s.2.2.2.2.1 a.2.2 = false then ((0, 0, 0), 1) else if kcode s a b ≠ 0 then ((0, 0, 0), kcode s a b) else (oshape s a, 0)

theorem most_w64 {a : Sh} (h : mostP a) : w64 (w64 (a.2.2 * a.1) * a.2.1) = a.1 * a.2.1 * a.2.2 := by
  obtain ⟨h1, h2, h3, h4, h5⟩ := h
  have e : a.2.2 * a.1 * a.2.1 = a.1 * a.2.1 * a.2.2 := by rw [Int.mul_assoc, Int.mul_comm]
  have k1 : 0 ≤ a.2.2 * a.1 := Int.mul_nonneg (by omega) (by omega)
  have k2 : a.2.2 * a.1 * 1 ≤ a.2.2 * a.1 * a.2.1 := Int.mul_le_mul_of_nonneg_left h2 k1
  have k3 : 0 ≤ a.1 * a.2.1 * a.2.2 := by rw [← e]; exact Int.mul_nonneg k1 (by omega)
  rw [Int.mul_one] at k2
  rw [w64_id (n := a.2.2 * a.1) (by omega) (by omega), e, w64_id (by omega) (by omega)]

theorem otail (s : Sg) (a b : Sh) (hk : kcode s a b = 0) :
    (bif s.1 == 3 then (some (((((s.x.length : Int), (s.y.length : Int), s.mx) : Sh), (0 : Int), ()), ())) else (bif s.1 == 4 then (some (((s.bins, 1, w64 (a.1 * a.2.1)), 0, ()), ())) else (bif s.1 == 5 then (some (((a.1, a.2.1, w64 ((w64 (a.2.2 * a.1)) * a.2.1)), 0, ()), ())) else (some (((a.1, a.2.1, s.mx), 0, ()), ()))))) = some ((oshape s a, 0, ()), ()) := by
  unfold oshape
  by_cases h3 : s.1 = 3
  · rw [beq_l h3, cond_true, if_pos h3]
  rw [bne_lit h3, cond_false, if_neg h3]
  by_cases h4 : s.1 = 4
  · rw [beq_l h4, cond_true, if_pos h4]
  rw [bne_lit h4, cond_false, if_neg h4]
  by_cases h5 : s.1 = 5
  · rw [beq_l h5, cond_true, if_pos h5]
    have hm : mostP a := by
      unfold kcode at hk
      rw [if_neg (by omega), if_neg (by omega), if_neg h3, if_neg h4, if_pos h5] at hk
      by_cases hm : mostP a
      · exact hm
      · rw [if_neg hm] at hk; omega
    rw [most_w64 hm]
  rw [bne_lit h5, cond_false, if_neg h5]

theorem of_ok (k : Nat) (hk : 129 ≤ k) (s : Sg) (a b : Sh) : shape_Of k s a b = some (((ofspec s a b).1, (ofspec s a b).2, ()), ()) := by
  unfold shape_Of ofspec
  simp only [fields_ok k (show 31 ≤ k by omega), svalid_ok, two_ok, edged_ok, edge_ok, scheck_ok k hk, Option.bind_some]
  by_cases hf : fieldsP s
  rotate_left
  · rw [decide_eq_false hf, Bool.not_false, cond_true, if_pos hf]
  rw [decide_eq_true hf, Bool.not_true, cond_false, if_neg (fun h => h hf)]
  by_cases ha : sizeP a.1 a.2.1 a.2.2
  rotate_left
  · rw [decide_eq_false ha, Bool.not_false, cond_true, if_pos (.inl ha)]
  rw [decide_eq_true ha, Bool.not_true, cond_false]
  have tail : (bif edB s.1 then (bif !edgeB s.2.2.2.2.1 a.2.2 then (some ((((0, 0, 0) : Sh), (1 : Int), ()), ())) else (bif kcode s a b != 0 then (some (((0, 0, 0), kcode s a b, ()), ())) else
        (bif s.1 == 3 then (some (((((s.x.length : Int), (s.y.length : Int), s.mx) : Sh), (0 : Int), ()), ())) else (bif s.1 == 4 then (some (((s.bins, 1, w64 (a.1 * a.2.1)), 0, ()), ())) else (bif s.1 == 5 then (some (((a.1, a.2.1, w64 ((w64 (a.2.2 * a.1)) * a.2.1)), 0, ()), ())) else (some (((a.1, a.2.1, s.mx), 0, ()), ())))))))
      else (bif kcode s a b != 0 then (some (((0, 0, 0), kcode s a b, ()), ())) else
        (bif s.1 == 3 then (some (((((s.x.length : Int), (s.y.length : Int), s.mx) : Sh), (0 : Int), ()), ())) else (bif s.1 == 4 then (some (((s.bins, 1, w64 (a.1 * a.2.1)), 0, ()), ())) else (bif s.1 == 5 then (some (((a.1, a.2.1, w64 ((w64 (a.2.2 * a.1)) * a.2.1)), 0, ()), ())) else (some (((a.1, a.2.1, s.mx), 0, ()), ()))))))) =
      some (((if edB s.1 = true ∧ edgeB s.2.2.2.2.1 a.2.2 = false then (((0, 0, 0) : Sh), (1 : Int)) else if kcode s a b ≠ 0 then ((0, 0, 0), kcode s a b) else (oshape s a, 0)).1, (if edB s.1 = true ∧ edgeB s.2.2.2.2.1 a.2.2 = false then (((0, 0, 0) : Sh), (1 : Int)) else if kcode s a b ≠ 0 then ((0, 0, 0), kcode s a b) else (oshape s a, 0)).2, ()), ()) := by
    have go : (bif kcode s a b != 0 then (some ((((0, 0, 0) : Sh), kcode s a b, ()), ())) else
        (bif s.1 == 3 then (some (((((s.x.length : Int), (s.y.length : Int), s.mx) : Sh), (0 : Int), ()), ())) else (bif s.1 == 4 then (some (((s.bins, 1, w64 (a.1 * a.2.1)), 0, ()), ())) else (bif s.1 == 5 then (some (((a.1, a.2.1, w64 ((w64 (a.2.2 * a.1)) * a.2.1)), 0, ()), ())) else (some (((a.1, a.2.1, s.mx), 0, ()), ())))))) =
        some (((if kcode s a b ≠ 0 then (((0, 0, 0) : Sh), kcode s a b) else (oshape s a, 0)).1, (if kcode s a b ≠ 0 then (((0, 0, 0) : Sh), kcode s a b) else (oshape s a, 0)).2, ()), ()) := by
      by_cases hc : kcode s a b = 0
      · have hc' : ¬ kcode s a b ≠ 0 := fun h => h hc
        rw [bne_ff hc, cond_false, if_neg hc', otail s a b hc]
      · have hc' : kcode s a b ≠ 0 := hc
        rw [bne_tt hc, cond_true, if_pos hc']
    rw [go]
    cases hb : edB s.1 with
    | false => rw [cond_false, if_neg (show ¬ (false = true ∧ edgeB s.2.2.2.2.1 a.2.2 = false) from fun h => absurd h.1 Bool.false_ne_true)]
    | true =>
      rw [cond_true]
      cases he : edgeB s.2.2.2.2.1 a.2.2 with
      | true => rw [Bool.not_true, cond_false, if_neg (show ¬ (true = true ∧ true = false) from fun h => absurd h.2 (by simp))]
      | false => rw [Bool.not_false, cond_true, if_pos ⟨rfl, rfl⟩]
  cases ht : twoB s with
  | true =>
    rw [cond_true]
    by_cases hb : sizeP b.1 b.2.1 b.2.2
    rotate_left
    · rw [decide_eq_false hb, Bool.not_false, cond_true, if_pos (.inr ⟨rfl, hb⟩)]
    rw [decide_eq_true hb, Bool.not_true, cond_false, if_neg (fun h => h.elim (fun h => h ha) (fun h => h.2 hb))]
    exact tail
  | false =>
    rw [cond_false, if_neg (fun h => h.elim (fun h => h ha) (fun h => absurd h.1 (by simp)))]
    exact tail

theorem check14_ok (k : Nat) (hk : 33 ≤ k) (l : List (Int × Int)) (two : Bool) (a b out : Int) : tilefarmref14_Check k l two a b out = some ((icode l two a b out, ()), ()) := check_ok k hk l two a b out

theorem rkernel_ok (k : Nat) (hk : 129 ≤ k) (s : Sg) (hs : 1 ≤ s.1 ∧ s.1 ≤ 6) (a b : Sh) : ∃ o, tilefarmref15_kernel k s a b = some ((o, kcode s a b, ()), ()) ∧ (kcode s a b = 0 → o = oshape s a) := by
  unfold tilefarmref15_kernel kcode oshape
  by_cases h1 : s.1 = 1
  · rw [beq_l h1, cond_true, if_pos h1, rconv_ok k (by omega), Option.bind_some]
    exact ⟨_, rfl, fun _ => by rw [if_neg (by omega), if_neg (by omega), if_neg (by omega)]⟩
  rw [bne_lit h1, cond_false, if_neg h1]
  by_cases h2 : s.1 = 2
  · rw [beq_l h2, cond_true, if_pos h2, rsep_ok k (by omega), Option.bind_some]
    exact ⟨_, rfl, fun _ => by rw [if_neg (by omega), if_neg (by omega), if_neg (by omega)]⟩
  rw [bne_lit h2, cond_false, if_neg h2]
  by_cases h3 : s.1 = 3
  · rw [beq_l h3, cond_true, if_pos h3, rres_ok k hk, Option.bind_some]
    exact ⟨_, rfl, fun _ => by rw [if_pos h3]⟩
  rw [bne_lit h3, cond_false, if_neg h3]
  by_cases h4 : s.1 = 4
  · rw [beq_l h4, cond_true, if_pos h4, r12_ok, Option.bind_some]
    by_cases h : 1 ≤ s.bins ∧ s.bins ≤ 128
    · rw [decide_eq_true h, Bool.not_true, cond_false, if_pos h]
      exact ⟨_, rfl, fun _ => by rw [if_neg h3, if_pos h4]⟩
    · rw [decide_eq_false h, Bool.not_false, cond_true, if_neg h]
      exact ⟨_, rfl, fun h => by cases h⟩
  rw [bne_lit h4, cond_false, if_neg h4]
  by_cases h5 : s.1 = 5
  · rw [beq_l h5, cond_true, if_pos h5]
    obtain ⟨v, hv, hv2⟩ := rmost_ok k a
    rw [hv, Option.bind_some]
    by_cases h : mostP a
    · rw [decide_eq_true h, Bool.not_true, cond_false, if_pos h]
      exact ⟨_, rfl, fun _ => by rw [if_neg h3, if_neg h4, if_pos h5, hv2 h]⟩
    · rw [decide_eq_false h, Bool.not_false, cond_true, if_neg h]
      exact ⟨_, rfl, fun h => by cases h⟩
  rw [bne_lit h5, cond_false, if_neg h5]
  have put : ∀ o, o = ((a.1, a.2.1, s.mx) : Sh) → o = if s.1 = 3 then ((s.x.length : Int), (s.y.length : Int), s.mx) else if s.1 = 4 then (s.bins, 1, w64 (a.1 * a.2.1)) else if s.1 = 5 then (a.1, a.2.1, a.1 * a.2.1 * a.2.2) else (a.1, a.2.1, s.mx) := fun o h => by rw [if_neg h3, if_neg h4, if_neg h5, h]
  unfold pcode
  simp only [rtwo_ok, check14_ok k (show 33 ≤ k by omega), Option.bind_some]
  by_cases hi : icode s.ops (twoB s) a.2.2 b.2.2 s.mx = 0
  rotate_left
  · have hi' : icode s.ops (twoB s) a.2.2 b.2.2 s.mx ≠ 0 := hi
    rw [bne_tt hi, cond_true, if_pos hi']
    exact ⟨_, rfl, fun h => (hi h).elim⟩
  have hi' : ¬ icode s.ops (twoB s) a.2.2 b.2.2 s.mx ≠ 0 := fun h => h hi
  rw [bne_ff hi, cond_false, if_neg hi']
  cases ht : twoB s with
  | true =>
    rw [cond_true]
    by_cases d1 : a.1 = b.1
    rotate_left
    · rw [bne_tt d1, cond_true, if_pos ⟨rfl, .inl d1⟩]
      exact ⟨_, rfl, fun h => by cases h⟩
    rw [bne_ff d1, cond_false]
    by_cases d2 : a.2.1 = b.2.1
    rotate_left
    · rw [bne_tt d2, cond_true, if_pos ⟨rfl, .inr d2⟩]
      exact ⟨_, rfl, fun h => by cases h⟩
    rw [bne_ff d2, cond_false, if_neg (fun h => h.2.elim (fun h => h d1) (fun h => h d2))]
    exact ⟨_, rfl, fun _ => put _ rfl⟩
  | false =>
    rw [cond_false, if_neg (show ¬ (false = true ∧ (a.1 ≠ b.1 ∨ a.2.1 ≠ b.2.1)) from fun h => absurd h.1 Bool.false_ne_true)]
    exact ⟨_, rfl, fun _ => put _ rfl⟩

theorem rof_ok (k : Nat) (hk : 129 ≤ k) (s : Sg) (a b : Sh) : tilefarmref15_Of k s a b = some (((ofspec s a b).1, (ofspec s a b).2, ()), ()) := by
  unfold tilefarmref15_Of ofspec
  by_cases hf : fieldsP s
  rotate_left
  · rw [rfields_ok, Option.bind_some, decide_eq_false hf, Bool.not_false, cond_true, if_pos hf]
  obtain ⟨o, ho, ho2⟩ := rkernel_ok k hk s hf.1 a b
  simp only [rfields_ok, rsvalid_ok, rtwo_ok, redged_ok, redge_ok, ho, Option.bind_some]
  rw [decide_eq_true hf, Bool.not_true, cond_false, if_neg (fun h => h hf)]
  by_cases ha : sizeP a.1 a.2.1 a.2.2
  rotate_left
  · rw [decide_eq_false ha, Bool.not_false, cond_true, if_pos (.inl ha)]
  rw [decide_eq_true ha, Bool.not_true, cond_false]
  have go : (bif kcode s a b != 0 then (some ((((0, 0, 0) : Sh), kcode s a b, ()), ())) else (some ((o, 0, ()), ()))) =
      some (((if kcode s a b ≠ 0 then (((0, 0, 0) : Sh), kcode s a b) else (oshape s a, 0)).1, (if kcode s a b ≠ 0 then (((0, 0, 0) : Sh), kcode s a b) else (oshape s a, 0)).2, ()), ()) := by
    by_cases hc : kcode s a b = 0
    · have hc' : ¬ kcode s a b ≠ 0 := fun h => h hc
      rw [bne_ff hc, cond_false, if_neg hc', ho2 hc]
    · have hc' : kcode s a b ≠ 0 := hc
      rw [bne_tt hc, cond_true, if_pos hc']
  have tail : (bif edB s.1 then (bif !edgeB s.2.2.2.2.1 a.2.2 then (some ((((0, 0, 0) : Sh), (1 : Int), ()), ())) else (bif kcode s a b != 0 then (some ((((0, 0, 0) : Sh), kcode s a b, ()), ())) else (some ((o, 0, ()), ()))))
      else (bif kcode s a b != 0 then (some ((((0, 0, 0) : Sh), kcode s a b, ()), ())) else (some ((o, 0, ()), ())))) =
      some (((if edB s.1 = true ∧ edgeB s.2.2.2.2.1 a.2.2 = false then (((0, 0, 0) : Sh), (1 : Int)) else if kcode s a b ≠ 0 then ((0, 0, 0), kcode s a b) else (oshape s a, 0)).1, (if edB s.1 = true ∧ edgeB s.2.2.2.2.1 a.2.2 = false then (((0, 0, 0) : Sh), (1 : Int)) else if kcode s a b ≠ 0 then ((0, 0, 0), kcode s a b) else (oshape s a, 0)).2, ()), ()) := by
    rw [go]
    cases hb : edB s.1 with
    | false => rw [cond_false, if_neg (show ¬ (false = true ∧ edgeB s.2.2.2.2.1 a.2.2 = false) from fun h => absurd h.1 Bool.false_ne_true)]
    | true =>
      rw [cond_true]
      cases he : edgeB s.2.2.2.2.1 a.2.2 with
      | true => rw [Bool.not_true, cond_false, if_neg (show ¬ (true = true ∧ true = false) from fun h => absurd h.2 (by simp))]
      | false => rw [Bool.not_false, cond_true, if_pos ⟨rfl, rfl⟩]
  cases ht : twoB s with
  | true =>
    rw [cond_true]
    by_cases hb : sizeP b.1 b.2.1 b.2.2
    rotate_left
    · rw [decide_eq_false hb, Bool.not_false, cond_true, if_pos (.inr ⟨rfl, hb⟩)]
    rw [decide_eq_true hb, Bool.not_true, cond_false, if_neg (fun h => h.elim (fun h => h ha) (fun h => h.2 hb))]
    exact tail
  | false =>
    rw [cond_false, if_neg (fun h => h.elim (fun h => h ha) (fun h => absurd h.1 (by simp)))]
    exact tail

theorem srcs_ok (k : Nat) (s : Sg) : ∃ l, shape_Sources k s = some ((l, ()), ()) ∧ tilefarmref15_Sources k s = some ((l, ()), ()) ∧ l.length ≤ 2 := by
  unfold shape_Sources tilefarmref15_Sources
  rw [two_ok, rtwo_ok, Option.bind_some]
  cases twoB s with
  | true => exact ⟨_, rfl, rfl, Nat.le_refl _⟩
  | false => exact ⟨_, rfl, rfl, by simp⟩
end Go.Lf.T

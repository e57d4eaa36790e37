import Derived.Test.YtgfhdajbgkpgkaaLfP14a
/-! Lf: pointwise: what programs are valid, and what they come to, in plain words. -/
set_option linter.unusedVariables false
set_option maxRecDepth 100000
namespace Go.Lf.T
open Go Go.Lf

def inM (n : Int) : Prop := -17592186044416 ≤ n ∧ n ≤ 17592186044416
instance (n : Int) : Decidable (inM n) := inferInstanceAs (Decidable (_ ∧ _))

def tk (c : Int) : Nat := if c = 0 ∨ c = 1 ∨ c = 2 then 0 else if c = 10 ∨ c = 11 then 1 else 2
def argB (o : Int × Int) : Bool := if o.1 = 2 then decide (-4294967296 ≤ o.2 ∧ o.2 ≤ 4294967296) else if o.1 = 10 then decide (0 ≤ o.2 ∧ o.2 ≤ 24) else decide (o.2 = 0)

theorem tk_le (c : Int) : tk c ≤ 2 := by unfold tk; split <;> (try split) <;> omega

theorem bt_ok (k : Nat) (n a b : Int) : pointwise_between k n a b = some ((decide (a ≤ n ∧ n ≤ b), ()), ()) := by
  unfold pointwise_between
  by_cases h : a ≤ n
  · simp [h]
  · simp [h]

theorem sum_eq (k : Nat) (n : Int) : pointwise_sum k n = some ((decide (inM n), ()), ()) := by
  unfold pointwise_sum
  rw [bt_ok]
  rfl

theorem takes_ok (k : Nat) (c : Int) : pointwise_takes k c = some ((((tk c : Nat) : Int), ()), ()) := by
  unfold pointwise_takes tk
  by_cases h0 : c = 0
  · subst h0; rfl
  by_cases h1 : c = 1
  · subst h1; rfl
  by_cases h2 : c = 2
  · subst h2; rfl
  by_cases h10 : c = 10
  · subst h10; rfl
  by_cases h11 : c = 11
  · subst h11; rfl
  have e0 : (c == 0) = false := by simpa using h0
  have e1 : (c == 1) = false := by simpa using h1
  have e2 : (c == 2) = false := by simpa using h2
  have e10 : (c == 10) = false := by simpa using h10
  have e11 : (c == 11) = false := by simpa using h11
  simp only [e0, e1, e2, e10, e11, cond]
  rw [if_neg (by omega), if_neg (by omega)]
  rfl

theorem arg_ok (k : Nat) (o : Int × Int) : pointwise_argument k o = some ((argB o, ()), ()) := by
  unfold pointwise_argument argB
  by_cases h2 : o.1 = 2
  · have e : (o.1 == 2) = true := by simpa using h2
    rw [e, if_pos h2, bt_ok]; rfl
  · have e : (o.1 == 2) = false := by simpa using h2
    rw [e, if_neg h2]
    by_cases h10 : o.1 = 10
    · have e : (o.1 == 10) = true := by simpa using h10
      simp [h10, bt_ok]
    · have e : (o.1 == 10) = false := by simpa using h10
      rw [e, if_neg h10]
      by_cases h : o.2 = 0 <;> simp [h]

/-- What Valid's loop does. -/
def vgo {R : Type} (two : Bool) (e0 e1 : Int → Option R) : List (Int × Int) → Int → Option R
  | [], h => e1 h
  | o :: l, h => if ¬ (0 ≤ o.1 ∧ o.1 ≤ 11) ∨ (o.1 = 1 ∧ two = false) ∨ h < tk o.1 then e0 1 else if argB o = false then e0 10 else vgo two e0 e1 l (h + (1 - tk o.1))

theorem w64_cast (n : Nat) (h : n < 9223372036854775808) : w64 ((n : Int)) = n := w64_id (by omega) (by omega)
theorem w64_succ (n : Nat) (h : n < 9223372036854775807) : w64 ((n : Int) + 1) = ((n + 1 : Nat) : Int) := by rw [w64_id (by omega) (by omega)]; rfl

theorem valid_loop {R : Type} (k : Nat) (two : Bool) (l : List (Int × Int)) (e0 e1 : Int → Option R) (hl : l.length ≤ 4294967296) : ∀ (n i j : Nat) (h : Int), l.length - i = n → i ≤ l.length → n < j → -4294967296 * 2 ≤ h → h ≤ i →
    pointwise_Valid.loop0 k j two h l l.length i e0 e1 = vgo two e0 e1 (l.drop i) h := by
  intro n
  induction n with
  | zero =>
    intro i j h hn hi hj h1 h2
    have e : i = l.length := by omega
    obtain ⟨j, rfl⟩ : ∃ j', j = j' + 1 := ⟨j - 1, by omega⟩
    rw [pointwise_Valid.loop0_s, e, decide_eq_false (by omega), List.drop_length]
    rfl
  | succ n ih =>
    intro i j h hn hi hj h1 h2
    obtain ⟨j, rfl⟩ : ∃ j', j = j' + 1 := ⟨j - 1, by omega⟩
    have hlt : i < l.length := by omega
    rw [pointwise_Valid.loop0_s, decide_eq_true (by omega), List.drop_eq_getElem_cons hlt]
    simp only [cond]
    rw [if_pos (by omega), Int.toNat_natCast, List.getElem?_eq_getElem hlt]
    generalize hgo : l[i] = o
    simp only [Option.bind, bt_ok, takes_ok, arg_ok]
    have htk := tk_le o.1
    unfold vgo
    by_cases hb : 0 ≤ o.1 ∧ o.1 ≤ 11
    · rw [decide_eq_true hb]
      have next : argB o = true → ¬ h < tk o.1 → pointwise_Valid.loop0 k j two (w64 (h + (w64 (1 - ((tk o.1 : Nat) : Int))))) l l.length (w64 ((i : Int) + 1)) e0 e1 = vgo two e0 e1 (l.drop (i + 1)) (h + (1 - tk o.1)) := by
        intro _ hh
        rw [w64_succ i (by omega), w64_id (n := 1 - ((tk o.1 : Nat) : Int)) (by omega) (by omega), w64_id (n := h + (1 - ((tk o.1 : Nat) : Int))) (by omega) (by omega)]
        exact ih (i + 1) j _ (by omega) (by omega) (by omega) (by omega) (by omega)
      by_cases h11 : o.1 = 1
      · have e : (o.1 == 1) = true := by simpa using h11
        rw [e]
        cases two with
        | false => simp [h11]
        | true =>
          by_cases hh : h < tk o.1
          · simp [hb, hh]
          · cases ha : argB o with
            | false => simp [hb, hh]
            | true =>
              have := next ha hh
              simp [hb, hh, this]
      · have e : (o.1 == 1) = false := by simpa using h11
        rw [e]
        by_cases hh : h < tk o.1
        · simp [hb, hh]
        · cases ha : argB o with
          | false => simp [hb, hh, h11]
          | true =>
            have := next ha hh
            simp [hb, hh, h11, this]
    · rw [decide_eq_false hb, if_pos (.inl hb)]
      rfl

/-- Which programs are valid. -/
def vcode (l : List (Int × Int)) (two : Bool) : Int :=
  if 1 ≤ l.length ∧ l.length ≤ 32 then (vgo (R := Int) two some (fun h => some (if h ≠ 1 then 1 else 0)) l 0).getD 0 else 9

theorem vgo_map {R R' : Type} (two : Bool) (f : R → Option R') (e0 e1 : Int → Option R) : ∀ (l : List (Int × Int)) (h : Int), (vgo two e0 e1 l h).bind f = vgo two (fun x => (e0 x).bind f) (fun x => (e1 x).bind f) l h
  | [], h => rfl
  | o :: l, h => by
    unfold vgo
    split
    · rfl
    · split
      · rfl
      · exact vgo_map two f e0 e1 l _

theorem vgo_some (two : Bool) : ∀ (l : List (Int × Int)) (h : Int), ∃ c, vgo (R := Int) two some (fun h => some (if h ≠ 1 then 1 else 0)) l h = some c
  | [], h => ⟨_, rfl⟩
  | o :: l, h => by
    unfold vgo
    split
    · exact ⟨_, rfl⟩
    · split
      · exact ⟨_, rfl⟩
      · exact vgo_some two l _

theorem valid_ok (k : Nat) (l : List (Int × Int)) (two : Bool) (hk : 33 ≤ k) : pointwise_Valid k l two = some ((vcode l two, ()), ()) := by
  unfold pointwise_Valid vcode
  rw [bt_ok]
  simp only [Option.bind]
  by_cases hl : 1 ≤ l.length ∧ l.length ≤ 32
  · rw [decide_eq_true (by omega), if_pos hl]
    simp only [Bool.not_true, cond_false]
    have := valid_loop (R := (Int × Unit) × Unit) k two l (fun z => some ((z, ()), ())) (fun z => (bif z != 1 then (some ((1, ()), ())) else (some ((0, ()), ())))) (by omega) l.length 0 k 0 rfl (by omega) (by omega) (by omega) (by omega)
    rw [show ((0 : Nat) : Int) = 0 from rfl] at this
    rw [this, List.drop_zero]
    obtain ⟨c, hc⟩ := vgo_some two l 0
    rw [hc]
    have hm := vgo_map two (fun c => some ((c, ()), ())) some (fun h => some (if h ≠ 1 then 1 else 0)) l 0
    rw [hc] at hm
    have e : (fun x : Int => (some (if x ≠ 1 then (1 : Int) else 0)).bind fun c => some ((c, ()), ())) = fun z => (bif z != 1 then (some ((1, ()), ())) else (some ((0, ()), ()))) := by
      funext z
      by_cases h : z = 1
      · subst h; rfl
      · have e : (z != 1) = true := by simpa using h
        rw [e, if_pos h]; rfl
    rw [e] at hm
    exact hm.symm
  · rw [decide_eq_false (by omega), if_neg hl]
    rfl

/-- What is needed so that a program runs: enough values for each operation. -/
def hOk : List (Int × Int) → Nat → Prop
  | [], h => h = 1
  | o :: l, h => 0 ≤ o.1 ∧ o.1 ≤ 11 ∧ tk o.1 ≤ h ∧ argB o = true ∧ hOk l (h + 1 - tk o.1)

theorem vgo_hOk (two : Bool) : ∀ (l : List (Int × Int)) (h : Nat), vgo (R := Int) two some (fun h => some (if h ≠ 1 then 1 else 0)) l h = some 0 → hOk l h
  | [], h, hv => by
    have hv' : (some (if (h : Int) ≠ 1 then 1 else 0) : Option Int) = some 0 := hv
    injection hv' with hv'
    by_cases e : (h : Int) = 1
    · show h = 1; omega
    · rw [if_pos e] at hv'; cases hv'
  | o :: l, h, hv => by
    unfold vgo at hv
    split at hv
    · cases hv
    · rename_i hc
      split at hv
      · cases hv
      · rename_i ha
        have h1 : ¬ ((h : Int) < tk o.1) := fun e => hc (.inr (.inr e))
        have h2 : 0 ≤ o.1 ∧ o.1 ≤ 11 := Classical.byContradiction fun e => hc (.inl e)
        have htk : tk o.1 ≤ h := by omega
        refine ⟨h2.1, h2.2, htk, by simpa using ha, vgo_hOk two l _ ?_⟩
        rw [show ((h + 1 - tk o.1 : Nat) : Int) = (h : Int) + (1 - tk o.1) from by omega]
        exact hv

theorem vcode_hOk {l : List (Int × Int)} {two : Bool} (h : vcode l two = 0) : 1 ≤ l.length ∧ l.length ≤ 32 ∧ hOk l 0 := by
  unfold vcode at h
  split at h
  · rename_i hl
    obtain ⟨c, hc⟩ := vgo_some two l 0
    rw [hc] at h
    have : c = 0 := h
    subst this
    exact ⟨hl.1, hl.2, vgo_hOk two l 0 hc⟩
  · cases h
end Go.Lf.T

import Derived.Test.YtgfhdajbgkpgkaaLfP14r
/-! Lf: pointwise: the reference's programs. -/
set_option linter.unusedVariables false
set_option maxRecDepth 100000
namespace Go.Lf.T
open Go Go.Lf

theorem reval_loop {R : Type} (k : Nat) (l : List (Int × Int)) (a b : Int) (e0 : Int → Int → Option R) (e1 : List Int → Option R) (hl : l.length ≤ 32) : ∀ (n i j : Nat) (st : List Int), l.length - i = n → i ≤ l.length → n < j → st.length ≤ i → hOk (l.drop i) st.length → (∀ x ∈ st, inM x) →
    tilefarmref14_Eval.loop0 k j l a b i st e0 e1 = erun a b (e0 0 11) e1 (l.drop i) st := by
  intro n
  induction n with
  | zero =>
    intro i j st hn hi hj hst hok hin
    have e : i = l.length := by omega
    obtain ⟨j, rfl⟩ : ∃ j', j = j' + 1 := ⟨j - 1, by omega⟩
    rw [tilefarmref14_Eval.loop0_s, e, decide_eq_false (by omega), List.drop_length]
    rfl
  | succ n ih =>
    intro i j st hn hi hj hst hok hin
    obtain ⟨j, rfl⟩ : ∃ j', j = j' + 1 := ⟨j - 1, by omega⟩
    have hlt : i < l.length := by omega
    rw [List.drop_eq_getElem_cons hlt] at hok ⊢
    rw [tilefarmref14_Eval.loop0_s, decide_eq_true (by omega)]
    simp only [cond_true]
    rw [if_pos (by omega), Int.toNat_natCast, List.getElem?_eq_getElem hlt]
    generalize hgo : l[i] = o at *
    obtain ⟨c1, c2, htk, harg, hrest⟩ := hok
    have htk2 := tk_le o.1
    have hw : w64 (((st.length : Nat) : Int) - ((tk o.1 : Nat) : Int)) = ((st.length - tk o.1 : Nat) : Int) := by rw [w64_id (by omega) (by omega)]; omega
    simp only [Option.bind_some, rtakes_ok k c1 c2, hw, Int.toNat_natCast]
    have mem : ∀ p, p < st.length → inM (st.getD p 0) := fun p hp => by
      have := getD_of hp
      exact hin _ (List.mem_of_getElem? this)
    have zero : inM 0 := by unfold inM; omega
    have fin : ∀ x y, inM x → inM y → estep a b o x y = eone a b o st → ((tilefarmref14_apply k o x y a b).bind fun (y7 : (Int × Bool × Unit) × (Unit)) => bif !y7.1.2.1 then (e0 0 11) else (if 0 ≤ ((st.length - tk o.1 : Nat) : Int) ∧ ((st.length - tk o.1 : Nat) : Int) ≤ ((st.length : Nat) : Int) then if ((st.take (st.length - tk o.1)) ++ [y7.1.1]).length * 8 ≤ 140737488355328 then tilefarmref14_Eval.loop0 k j l a b (w64 ((i : Int) + 1)) ((st.take (st.length - tk o.1)) ++ [y7.1.1]) e0 e1 else none else none)) =
        erun a b (e0 0 11) e1 (o :: l.drop (i + 1)) st := by
      intro x y hx hy he
      obtain ⟨v, h1, h2⟩ := apply_ok k (a := a) (b := b) hx hy c1 c2 harg
      rw [he] at h1 h2
      rw [h1]
      unfold erun
      simp only [Option.bind_some]
      by_cases hm : inM (eone a b o st)
      · rw [decide_eq_true hm, if_pos hm, h2 hm]
        have hlen : ((st.take (st.length - tk o.1)) ++ [eone a b o st]).length = st.length - tk o.1 + 1 := by rw [List.length_append, List.length_take]; simp
        simp only [Bool.not_true, cond_false]
        rw [if_pos (by omega), if_pos (by rw [hlen]; omega), w64_succ i (by omega)]
        refine ih (i + 1) j _ (by omega) (by omega) (by omega) (by rw [hlen]; omega) (by rw [hlen]; rw [show st.length - tk o.1 + 1 = st.length + 1 - tk o.1 by omega]; exact hrest) fun x hx => ?_
        rcases List.mem_append.1 hx with hx | hx
        · exact hin x (List.mem_of_mem_take hx)
        · rw [List.mem_singleton.1 hx]; exact hm
      · rw [decide_eq_false hm, if_neg hm]; rfl
    have out : ∀ p, st.length ≤ p → st.getD p 0 = 0 := fun p hp => by rw [List.getD_eq_getElem?_getD, List.getElem?_eq_none hp]; rfl
    by_cases h2 : tk o.1 = 2
    · have e : ((((tk o.1 : Nat) : Int)) == 2) = true := by rw [h2]; rfl
      have hw1 : w64 (((st.length : Nat) : Int) - 1) = ((st.length - 1 : Nat) : Int) := by rw [w64_id (by omega) (by omega)]; omega
      rw [e, cond_true, hw1, if_pos (by omega), Int.toNat_natCast, getD_of (by omega), Option.bind_some, decide_eq_true (by omega : (((tk o.1 : Nat) : Int)) > 0), cond_true, if_pos (by omega), getD_of (by omega), Option.bind_some, if_pos (by omega)]
      exact fin _ _ (mem _ (by omega)) (mem _ (by omega)) (by unfold eone; rw [show st.length - 1 = st.length - tk o.1 + 1 by omega])
    · have e : ((((tk o.1 : Nat) : Int)) == 2) = false := by
        cases h : ((((tk o.1 : Nat) : Int)) == 2) with
        | false => rfl
        | true => have := eq_of_beq h; omega
      rw [e, cond_false]
      by_cases h1 : tk o.1 = 1
      · rw [decide_eq_true (by omega : (((tk o.1 : Nat) : Int)) > 0), cond_true, if_pos (by omega), getD_of (by omega), Option.bind_some, if_pos (by omega)]
        exact fin _ _ (mem _ (by omega)) zero (by unfold eone; rw [out (st.length - tk o.1 + 1) (by omega)])
      · rw [decide_eq_false (by omega), cond_false, if_pos (by omega)]
        exact fin _ _ zero zero (by unfold eone; rw [out (st.length - tk o.1) (by omega), out (st.length - tk o.1 + 1) (by omega)])

theorem rinterval_loop {R : Type} (k : Nat) (l : List (Int × Int)) (a b : Int) (e0 : Int → Int → Int → Option R) (e1 : List (Int × Int) → Option R) (hl : l.length ≤ 32) : ∀ (n i j : Nat) (st : List (Int × Int)), l.length - i = n → i ≤ l.length → n < j → st.length ≤ i → hOk (l.drop i) st.length → (∀ x ∈ st, inP x) →
    tilefarmref14_Interval.loop0 k j l a b i st e0 e1 = irun a b (e0 0 0 11) e1 (l.drop i) st := by
  intro n
  induction n with
  | zero =>
    intro i j st hn hi hj hst hok hin
    have e : i = l.length := by omega
    obtain ⟨j, rfl⟩ : ∃ j', j = j' + 1 := ⟨j - 1, by omega⟩
    rw [tilefarmref14_Interval.loop0_s, e, decide_eq_false (by omega), List.drop_length]
    rfl
  | succ n ih =>
    intro i j st hn hi hj hst hok hin
    obtain ⟨j, rfl⟩ : ∃ j', j = j' + 1 := ⟨j - 1, by omega⟩
    have hlt : i < l.length := by omega
    rw [List.drop_eq_getElem_cons hlt] at hok ⊢
    rw [tilefarmref14_Interval.loop0_s, decide_eq_true (by omega)]
    simp only [cond_true]
    rw [if_pos (by omega), Int.toNat_natCast, List.getElem?_eq_getElem hlt]
    generalize hgo : l[i] = o at *
    obtain ⟨c1, c2, htk, harg, hrest⟩ := hok
    have htk2 := tk_le o.1
    have hw : w64 (((st.length : Nat) : Int) - ((tk o.1 : Nat) : Int)) = ((st.length - tk o.1 : Nat) : Int) := by rw [w64_id (by omega) (by omega)]; omega
    simp only [Option.bind_some, rtakes_ok k c1 c2, hw, Int.toNat_natCast]
    have mem : ∀ p, p < st.length → inP (st.getD p (0, 0)) := fun p hp => by
      have := getP_of hp
      exact hin _ (List.mem_of_getElem? this)
    have zero : inP (0, 0) := by unfold inP inM; omega
    have fin : ∀ x y, inP x → inP y → istep a b o x y = ione a b o st → ((tilefarmref14_next k o x y a b).bind fun (y7 : ((Int × Int) × Bool × Unit) × (Unit)) => bif !y7.1.2.1 then (e0 0 0 11) else (if 0 ≤ ((st.length - tk o.1 : Nat) : Int) ∧ ((st.length - tk o.1 : Nat) : Int) ≤ ((st.length : Nat) : Int) then if ((st.take (st.length - tk o.1)) ++ [y7.1.1]).length * 16 ≤ 140737488355328 then tilefarmref14_Interval.loop0 k j l a b (w64 ((i : Int) + 1)) ((st.take (st.length - tk o.1)) ++ [y7.1.1]) e0 e1 else none else none)) =
        irun a b (e0 0 0 11) e1 (o :: l.drop (i + 1)) st := by
      intro x y hx hy he
      obtain ⟨v, h1, h2⟩ := rnext_ok k (a := a) (b := b) hx hy c1 c2 harg
      rw [he] at h1 h2
      rw [h1]
      unfold irun
      simp only [Option.bind_some]
      by_cases hm : inP (ione a b o st)
      · rw [decide_eq_true hm, if_pos hm, h2 hm]
        have hlen : ((st.take (st.length - tk o.1)) ++ [ione a b o st]).length = st.length - tk o.1 + 1 := by rw [List.length_append, List.length_take]; simp
        simp only [Bool.not_true, cond_false]
        rw [if_pos (by omega), if_pos (by rw [hlen]; omega), w64_succ i (by omega)]
        refine ih (i + 1) j _ (by omega) (by omega) (by omega) (by rw [hlen]; omega) (by rw [hlen]; rw [show st.length - tk o.1 + 1 = st.length + 1 - tk o.1 by omega]; exact hrest) fun x hx => ?_
        rcases List.mem_append.1 hx with hx | hx
        · exact hin x (List.mem_of_mem_take hx)
        · rw [List.mem_singleton.1 hx]; exact hm
      · rw [decide_eq_false hm, if_neg hm]; rfl
    have out : ∀ p, st.length ≤ p → st.getD p (0, 0) = (0, 0) := fun p hp => by rw [List.getD_eq_getElem?_getD, List.getElem?_eq_none hp]; rfl
    by_cases h2 : tk o.1 = 2
    · have e : ((((tk o.1 : Nat) : Int)) == 2) = true := by rw [h2]; rfl
      have hw1 : w64 (((st.length : Nat) : Int) - 1) = ((st.length - 1 : Nat) : Int) := by rw [w64_id (by omega) (by omega)]; omega
      rw [e, cond_true, hw1, if_pos (by omega), Int.toNat_natCast, getP_of (by omega), Option.bind_some, decide_eq_true (by omega : (((tk o.1 : Nat) : Int)) > 0), cond_true, if_pos (by omega), getP_of (by omega), Option.bind_some, if_pos (by omega)]
      exact fin _ _ (mem _ (by omega)) (mem _ (by omega)) (by unfold ione; rw [show st.length - 1 = st.length - tk o.1 + 1 by omega])
    · have e : ((((tk o.1 : Nat) : Int)) == 2) = false := by
        cases h : ((((tk o.1 : Nat) : Int)) == 2) with
        | false => rfl
        | true => have := eq_of_beq h; omega
      rw [e, cond_false]
      by_cases h1 : tk o.1 = 1
      · rw [decide_eq_true (by omega : (((tk o.1 : Nat) : Int)) > 0), cond_true, if_pos (by omega), getP_of (by omega), Option.bind_some, if_pos (by omega)]
        exact fin _ _ (mem _ (by omega)) zero (by unfold ione; rw [out (st.length - tk o.1 + 1) (by omega)])
      · rw [decide_eq_false (by omega), cond_false, if_pos (by omega)]
        exact fin _ _ zero zero (by unfold ione; rw [out (st.length - tk o.1) (by omega), out (st.length - tk o.1 + 1) (by omega)])

theorem reval_ok (k : Nat) (l : List (Int × Int)) (a b : Int) (hk : 33 ≤ k) : tilefarmref14_Eval k l a b = some (((ev l a b).1, (ev l a b).2, ()), ()) := by
  unfold tilefarmref14_Eval ev
  rw [rvalid_ok k l true hk]
  simp only [Option.bind_some]
  by_cases hv : vcode l true = 0
  · have hv' : ¬ vcode l true ≠ 0 := fun h => h hv
    rw [show (vcode l true != 0) = false by simpa using hv, cond_false, if_neg hv']
    by_cases ha : a < 0
    · rw [decide_eq_true ha, if_neg (by omega)]; rfl
    rw [decide_eq_false ha, cond_false]
    by_cases ha2 : a > 4294967296
    · rw [decide_eq_true ha2, if_neg (by omega)]; rfl
    rw [decide_eq_false ha2, cond_false]
    by_cases hb : b < 0
    · rw [decide_eq_true hb, if_neg (by omega)]; rfl
    rw [decide_eq_false hb, cond_false]
    by_cases hb2 : b > 4294967296
    · rw [decide_eq_true hb2, if_neg (by omega)]; rfl
    rw [decide_eq_false hb2, cond_false, if_pos (by omega)]
    obtain ⟨h1, h2, h3⟩ := vcode_hOk hv
    have := reval_loop (R := (Int × Int × Unit) × Unit) k l a b (fun z16 z17 => some ((z16, z17, ()), ())) (fun (z18 : List Int) => (if 0 ≤ (0 : Int) ∧ (0 : Int) < ((z18.length : Nat) : Int) then (z18[0]?).bind fun (x19 : Int) => some ((x19, 0, ()), ()) else none)) h2 l.length 0 k [] rfl (by omega) (by omega) (by simp) h3 (fun x hx => by cases hx)
    refine Eq.trans this ?_
    rw [List.drop_zero]
    have hc := erun_congr (R := (Int × Int × Unit) × Unit) a b (some ((0, 11, ()), ())) (fun (z18 : List Int) => (if 0 ≤ (0 : Int) ∧ (0 : Int) < ((z18.length : Nat) : Int) then (z18[0]?).bind fun (x19 : Int) => some ((x19, 0, ()), ()) else none)) (fun st => some ((st.getD 0 0, 0, ()), ())) (fun st hst => by
      rw [if_pos (by omega), getD_of (by omega)]; rfl) l [] h3
    rw [hc]
    obtain ⟨c, hc⟩ := erun_some a b l []
    have hm := erun_map a b (fun c : Int × Int => some ((c.1, c.2, ()), ())) (some (0, 11)) (fun st => some (st.getD 0 0, 0)) l []
    rw [hc] at hm
    unfold rv
    rw [hc]
    exact hm.symm
  · have hv' : vcode l true ≠ 0 := hv
    rw [show (vcode l true != 0) = true by simpa using hv, cond_true, if_pos hv']

theorem rvalue_ok (k : Nat) (n : Int) : tilefarmref9_Value k n = some ((decide (1 ≤ n ∧ n ≤ 4294967296), ()), ()) := by
  unfold tilefarmref9_Value
  by_cases h : 1 ≤ n <;> simp [h]

theorem rinterval_ok (k : Nat) (l : List (Int × Int)) (a b : Int) (hk : 33 ≤ k) : tilefarmref14_Interval k l a b = some (((iv l a b).1, (iv l a b).2.1, (iv l a b).2.2, ()), ()) := by
  unfold tilefarmref14_Interval iv
  rw [rvalid_ok k l true hk]
  simp only [Option.bind_some]
  by_cases hv : vcode l true = 0
  · have hv' : ¬ vcode l true ≠ 0 := fun h => h hv
    rw [show (vcode l true != 0) = false by simpa using hv, cond_false, if_neg hv', rvalue_ok, rvalue_ok]
    simp only [Option.bind_some]
    by_cases ha : 1 ≤ a ∧ a ≤ 4294967296
    · rw [decide_eq_true ha]
      simp only [Bool.not_true, cond_false]
      by_cases hb : 1 ≤ b ∧ b ≤ 4294967296
      · obtain ⟨h1, h2, h3⟩ := vcode_hOk hv
        rw [decide_eq_true hb, if_pos ⟨ha.1, ha.2, hb⟩]
        simp only [Bool.not_true, cond_false]
        have := rinterval_loop (R := (Int × Int × Int × Unit) × Unit) k l a b (fun (z28 : Int) (z29 : Int) (z30 : Int) => (some ((z28, z29, z30, ()), ()))) (fun (z31 : List (Int × Int)) => (if 0 ≤ (0 : Int) ∧ (0 : Int) < ((z31.length : Nat) : Int) then (z31[0]?).bind fun (x32 : Int × Int) => if 0 ≤ (0 : Int) ∧ (0 : Int) < ((z31.length : Nat) : Int) then (z31[0]?).bind fun (x33 : Int × Int) => some ((x32.1, x33.2, 0, ()), ()) else none else none)) h2 l.length 0 k [] rfl (by omega) (by omega) (by simp) h3 (fun x hx => by cases hx)
        refine Eq.trans this ?_
        rw [List.drop_zero]
        have hc := irun_congr (R := (Int × Int × Int × Unit) × Unit) a b (some ((0, 0, 11, ()), ())) (fun (z31 : List (Int × Int)) => (if 0 ≤ (0 : Int) ∧ (0 : Int) < ((z31.length : Nat) : Int) then (z31[0]?).bind fun (x32 : Int × Int) => if 0 ≤ (0 : Int) ∧ (0 : Int) < ((z31.length : Nat) : Int) then (z31[0]?).bind fun (x33 : Int × Int) => some ((x32.1, x33.2, 0, ()), ()) else none else none)) (fun st => some (((st.getD 0 (0, 0)).1, (st.getD 0 (0, 0)).2, 0, ()), ())) (fun st hst => by
          rw [if_pos (by omega), getP_of (by omega), Option.bind_some, if_pos (by omega)]; rfl) l [] h3
        rw [hc]
        obtain ⟨c, hc⟩ := irun_some a b l []
        have hm := irun_map a b (fun c : Int × Int × Int => some ((c.1, c.2.1, c.2.2, ()), ())) (some (0, 0, 11)) (fun st => some ((st.getD 0 (0, 0)).1, (st.getD 0 (0, 0)).2, 0)) l []
        rw [hc] at hm
        unfold irv
        rw [hc]
        exact hm.symm
      · rw [decide_eq_false hb, if_neg (fun h => hb h.2.2)]; rfl
    · rw [decide_eq_false ha, if_neg (fun h => ha ⟨h.1, h.2.1⟩)]; rfl
  · have hv' : vcode l true ≠ 0 := hv
    rw [show (vcode l true != 0) = true by simpa using hv, cond_true, if_pos hv']
end Go.Lf.T

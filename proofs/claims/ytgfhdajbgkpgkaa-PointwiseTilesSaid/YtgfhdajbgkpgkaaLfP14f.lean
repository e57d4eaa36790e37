import Derived.Test.YtgfhdajbgkpgkaaLfP14e
/-! Lf: pointwise: intervals of programs, in plain words. -/
set_option linter.unusedVariables false
set_option maxRecDepth 100000
namespace Go.Lf.T
open Go Go.Lf

def comb (c : Int) (x y : Int × Int) : Int × Int :=
  if c = 3 then (x.1 + y.1, x.2 + y.2) else if c = 4 then (x.1 - y.2, x.2 - y.1)
  else if c = 5 then (mm false (mm false (mm false (tms x.1 y.1) (tms x.1 y.2)) (tms x.2 y.1)) (tms x.2 y.2), mm true (mm true (mm true (tms x.1 y.1) (tms x.1 y.2)) (tms x.2 y.1)) (tms x.2 y.2))
  else if c = 6 then (mm false x.1 y.1, mm false x.2 y.2) else if c = 7 then (mm true x.1 y.1, mm true x.2 y.2)
  else if c = 8 then (0, mm true (x.2 - y.1) (y.2 - x.1)) else (0 - mm true (ab x.1) (ab x.2), mm true (ab x.1) (ab x.2))

def istep (a b : Int) (o : Int × Int) (x y : Int × Int) : Int × Int :=
  if o.1 = 0 then (0, a) else if o.1 = 1 then (0, b) else if o.1 = 2 then (o.2, o.2) else if o.1 = 10 then (shf x.1 o.2, shf x.2 o.2) else if o.1 = 11 then (0, mm true (ab x.1) (ab x.2)) else comb o.1 x y

def inP (x : Int × Int) : Prop := inM x.1 ∧ inM x.2
instance (x : Int × Int) : Decidable (inP x) := inferInstanceAs (Decidable (_ ∧ _))

theorem mm_true (x y : Int) : mm true x y = if x < y then y else x := rfl
theorem mm_false (x y : Int) : mm false x y = if y < x then y else x := rfl

theorem combined_eq (k : Nat) (c : Int) {x y : Int × Int} (hx : inP x) (hy : inP y) : pointwise_combined k c x y = some ((comb c x y, ()), ()) := by
  obtain ⟨x1, x2⟩ := hx
  obtain ⟨y1, y2⟩ := hy
  have a1 := x1; have a2 := x2; have b1 := y1; have b2 := y2
  unfold inM at a1 a2 b1 b2
  unfold pointwise_combined comb
  have n1 := inM_ab.1 x1
  have n2 := inM_ab.1 x2
  have m1 := ab_nonneg x.1
  have m2 := ab_nonneg x.2
  have hn : 0 ≤ mm true (ab x.1) (ab x.2) ∧ mm true (ab x.1) (ab x.2) ≤ 17592186044416 := by rw [mm_true]; split <;> omega
  rw [times_eq k x1 y1, times_eq k x1 y2, times_eq k x2 y1, times_eq k x2 y2, abs_eq k (n := x.1) (by omega) (by omega), abs_eq k (n := x.2) (by omega) (by omega)]
  rw [w64_id (n := x.1 + y.1) (by omega) (by omega), w64_id (n := x.2 + y.2) (by omega) (by omega), w64_id (n := x.1 - y.2) (by omega) (by omega), w64_id (n := x.2 - y.1) (by omega) (by omega), w64_id (n := y.2 - x.1) (by omega) (by omega)]
  simp only [Option.bind_some]
  rw [w64_id (n := 0 - mm true (ab x.1) (ab x.2)) (by omega) (by omega)]
  by_cases h3 : c = 3
  · subst h3; rfl
  by_cases h4 : c = 4
  · subst h4; rfl
  by_cases h5 : c = 5
  · subst h5; rfl
  by_cases h6 : c = 6
  · subst h6; rfl
  by_cases h7 : c = 7
  · subst h7; rfl
  by_cases h8 : c = 8
  · subst h8; rfl
  have e3 : (c == 3) = false := by simpa using h3
  have e4 : (c == 4) = false := by simpa using h4
  have e5 : (c == 5) = false := by simpa using h5
  have e6 : (c == 6) = false := by simpa using h6
  have e7 : (c == 7) = false := by simpa using h7
  have e8 : (c == 8) = false := by simpa using h8
  simp [e3, e4, e5, e6, e7, e8, h3, h4, h5, h6, h7, h8]

def ione (a b : Int) (o : Int × Int) (st : List (Int × Int)) : Int × Int := istep a b o (st.getD (st.length - tk o.1) (0, 0)) (st.getD (st.length - tk o.1 + 1) (0, 0))

def irun {R : Type} (a b : Int) (e0 : Option R) (e1 : List (Int × Int) → Option R) : List (Int × Int) → List (Int × Int) → Option R
  | [], st => e1 st
  | o :: l, st => if inP (ione a b o st) then irun a b e0 e1 l (st.take (st.length - tk o.1) ++ [ione a b o st]) else e0

theorem getP_of {st : List (Int × Int)} {n : Nat} (h : n < st.length) : st[n]? = some (st.getD n (0, 0)) := by
  rw [List.getElem?_eq_getElem h, List.getD_eq_getElem?_getD, List.getElem?_eq_getElem h]; rfl

theorem span_eq (k : Nat) {x y s : Int} (hx : inM x) (hy : inM y) (h0 : 0 ≤ s) (h1 : s ≤ 24) : fixed_Span k x y s = some ((shf x s, shf y s, ()), ()) := by
  unfold fixed_Span
  rw [shift_eq k hx h0 h1, shift_eq k hy h0 h1]
  rfl

theorem interval_loop {R : Type} (k : Nat) (l : List (Int × Int)) (a b : Int) (e0 : Int → Int → Int → Option R) (e1 : List (Int × Int) → Option R) (hl : l.length ≤ 32) : ∀ (n i j : Nat) (st : List (Int × Int)), l.length - i = n → i ≤ l.length → n < j → st.length ≤ i → hOk (l.drop i) st.length → (∀ x ∈ st, inP x) →
    pointwise_Interval.loop0 k j a b l l.length i st e0 e1 = irun a b (e0 0 0 11) e1 (l.drop i) st := by
  intro n
  induction n with
  | zero =>
    intro i j st hn hi hj hst hok hin
    have e : i = l.length := by omega
    obtain ⟨j, rfl⟩ : ∃ j', j = j' + 1 := ⟨j - 1, by omega⟩
    rw [pointwise_Interval.loop0_s, e, decide_eq_false (by omega), List.drop_length]
    rfl
  | succ n ih =>
    intro i j st hn hi hj hst hok hin
    obtain ⟨j, rfl⟩ : ∃ j', j = j' + 1 := ⟨j - 1, by omega⟩
    have hlt : i < l.length := by omega
    rw [List.drop_eq_getElem_cons hlt] at hok ⊢
    rw [pointwise_Interval.loop0_s, decide_eq_true (by omega)]
    simp only [cond_true]
    rw [if_pos (by omega), Int.toNat_natCast, List.getElem?_eq_getElem hlt]
    generalize hgo : l[i] = o at *
    obtain ⟨c1, c2, htk, harg, hrest⟩ := hok
    have htk2 := tk_le o.1
    have hw : w64 (((st.length : Nat) : Int) - ((tk o.1 : Nat) : Int)) = ((st.length - tk o.1 : Nat) : Int) := by rw [w64_id (by omega) (by omega)]; omega
    simp only [Option.bind_some, takes_ok, hw, Int.toNat_natCast]
    rw [if_pos (by omega), if_pos (by omega)]
    have fin : ∀ v, ione a b o st = v → ((pointwise_sum k v.1).bind fun (y3 : (Bool × Unit) × (Unit)) => bif !y3.1.1 then (e0 0 0 11) else ((pointwise_sum k v.2).bind fun (y3 : (Bool × Unit) × (Unit)) => bif !y3.1.1 then (e0 0 0 11) else (if ((st.take (st.length - tk o.1)) ++ [v]).length * 16 ≤ 140737488355328 then pointwise_Interval.loop0 k j a b l l.length (w64 ((i : Int) + 1)) ((st.take (st.length - tk o.1)) ++ [v]) e0 e1 else none))) =
        irun a b (e0 0 0 11) e1 (o :: l.drop (i + 1)) st := by
      intro v hv
      unfold irun
      rw [hv, sum_eq, sum_eq]
      simp only [Option.bind_some]
      by_cases h1 : inM v.1
      · rw [decide_eq_true h1]
        simp only [Bool.not_true, cond_false]
        by_cases h2 : inM v.2
        · have hlen : ((st.take (st.length - tk o.1)) ++ [v]).length = st.length - tk o.1 + 1 := by rw [List.length_append, List.length_take]; simp
          rw [decide_eq_true h2, if_pos (show inP v from ⟨h1, h2⟩)]
          simp only [Bool.not_true, cond_false]
          rw [if_pos (by rw [hlen]; omega), w64_succ i (by omega)]
          refine ih (i + 1) j _ (by omega) (by omega) (by omega) (by rw [hlen]; omega) (by rw [hlen]; rw [show st.length - tk o.1 + 1 = st.length + 1 - tk o.1 by omega]; exact hrest) fun x hx => ?_
          rcases List.mem_append.1 hx with hx | hx
          · exact hin x (List.mem_of_mem_take hx)
          · rw [List.mem_singleton.1 hx]; exact ⟨h1, h2⟩
        · rw [decide_eq_false h2, if_neg (fun h : inP v => h2 h.2)]
          rfl
      · rw [decide_eq_false h1, if_neg (fun h : inP v => h1 h.1)]
        rfl
    have mem : ∀ p, p < st.length → inP (st.getD p (0, 0)) := fun p hp => by
      have := getP_of hp
      exact hin _ (List.mem_of_getElem? this)
    by_cases h0 : o.1 = 0
    · have e : (o.1 == 0) = true := by simpa using h0
      rw [e, cond_true]
      exact fin (0, a) (by unfold ione istep; rw [if_pos h0])
    have e0' : (o.1 == 0) = false := by simpa using h0
    rw [e0', cond_false]
    by_cases h1 : o.1 = 1
    · have e : (o.1 == 1) = true := by simpa using h1
      rw [e, cond_true]
      exact fin (0, b) (by unfold ione istep; rw [if_neg h0, if_pos h1])
    have e1' : (o.1 == 1) = false := by simpa using h1
    rw [e1', cond_false]
    by_cases h2 : o.1 = 2
    · have e : (o.1 == 2) = true := by simpa using h2
      rw [e, cond_true]
      exact fin (o.2, o.2) (by unfold ione istep; rw [if_neg h0, if_neg h1, if_pos h2])
    have e2' : (o.1 == 2) = false := by simpa using h2
    rw [e2', cond_false]
    by_cases h10 : o.1 = 10
    · have e : (o.1 == 10) = true := by simpa using h10
      have ht : tk o.1 = 1 := by rw [h10]; rfl
      have hs : 0 ≤ o.2 ∧ o.2 ≤ 24 := by unfold argB at harg; rw [if_neg h2, if_pos h10] at harg; simpa using harg
      have hm := mem (st.length - tk o.1) (by omega)
      rw [e, cond_true, if_pos (by omega), Nat.zero_add, getP_of (by omega), Option.bind_some, if_pos (by omega), Option.bind_some, span_eq k hm.1 hm.2 hs.1 hs.2, Option.bind_some]
      exact fin _ (by unfold ione istep; rw [if_neg h0, if_neg h1, if_neg h2, if_pos h10])
    have e10' : (o.1 == 10) = false := by simpa using h10
    rw [e10', cond_false]
    by_cases h11 : o.1 = 11
    · have e : (o.1 == 11) = true := by simpa using h11
      have ht : tk o.1 = 1 := by rw [h11]; rfl
      have hb := mem (st.length - tk o.1) (by omega)
      have hb1 := hb.1; have hb2 := hb.2
      unfold inM at hb1 hb2
      rw [e, cond_true, if_pos (by omega), Nat.zero_add, getP_of (by omega), Option.bind_some, abs_eq k (by omega) (by omega), Option.bind_some, if_pos (by omega), Option.bind_some, abs_eq k (by omega) (by omega), Option.bind_some]
      exact fin (0, mm true (ab (st.getD (st.length - tk o.1) (0, 0)).1) (ab (st.getD (st.length - tk o.1) (0, 0)).2)) (by unfold ione istep; rw [if_neg h0, if_neg h1, if_neg h2, if_neg h10, if_pos h11])
    have e11' : (o.1 == 11) = false := by simpa using h11
    have ht : tk o.1 = 2 := by unfold tk; rw [if_neg (by omega), if_neg (by omega)]
    rw [e11', cond_false, if_pos (by omega), Nat.zero_add, getP_of (by omega), Option.bind_some, if_pos (by omega), Nat.add_comm 1, getP_of (by omega), Option.bind_some, combined_eq k _ (mem _ (by omega)) (mem _ (by omega)), Option.bind_some]
    exact fin _ (by unfold ione istep; rw [if_neg h0, if_neg h1, if_neg h2, if_neg h10, if_neg h11])

/-- The interval of a valid program: its ends and the error. -/
def irv (l : List (Int × Int)) (a b : Int) : Int × Int × Int := (irun (R := Int × Int × Int) a b (some (0, 0, 11)) (fun st => some ((st.getD 0 (0, 0)).1, (st.getD 0 (0, 0)).2, 0)) l []).getD (0, 0, 0)

def iv (l : List (Int × Int)) (a b : Int) : Int × Int × Int :=
  if vcode l true ≠ 0 then (0, 0, vcode l true) else if 1 ≤ a ∧ a ≤ 4294967296 ∧ 1 ≤ b ∧ b ≤ 4294967296 then irv l a b else (0, 0, 2)

theorem irun_map {R R' : Type} (a b : Int) (f : R → Option R') (e0 : Option R) (e1 : List (Int × Int) → Option R) : ∀ (l : List (Int × Int)) (st : List (Int × Int)), (irun a b e0 e1 l st).bind f = irun a b (e0.bind f) (fun st => (e1 st).bind f) l st
  | [], st => rfl
  | o :: l, st => by
    unfold irun
    split
    · exact irun_map a b f e0 e1 l _
    · rfl

theorem irun_some (a b : Int) : ∀ (l : List (Int × Int)) (st : List (Int × Int)), ∃ c, irun (R := Int × Int × Int) a b (some (0, 0, 11)) (fun st => some ((st.getD 0 (0, 0)).1, (st.getD 0 (0, 0)).2, 0)) l st = some c
  | [], st => ⟨_, rfl⟩
  | o :: l, st => by
    unfold irun
    split
    · exact irun_some a b l _
    · exact ⟨_, rfl⟩

theorem irun_congr {R : Type} (a b : Int) (e0 : Option R) (e1 e2 : List (Int × Int) → Option R) (h : ∀ st, st.length = 1 → e1 st = e2 st) : ∀ (l : List (Int × Int)) (st : List (Int × Int)), hOk l st.length → irun a b e0 e1 l st = irun a b e0 e2 l st
  | [], st, hok => h st hok
  | o :: l, st, hok => by
    obtain ⟨c1, c2, htk, harg, hrest⟩ := hok
    unfold irun
    split
    · refine irun_congr a b e0 e1 e2 h l _ ?_
      have hlen : ((st.take (st.length - tk o.1)) ++ [ione a b o st]).length = st.length - tk o.1 + 1 := by rw [List.length_append, List.length_take]; simp
      rw [hlen, show st.length - tk o.1 + 1 = st.length + 1 - tk o.1 by omega]
      exact hrest
    · rfl

theorem interval_ok (k : Nat) (l : List (Int × Int)) (a b : Int) (hk : 33 ≤ k) : pointwise_Interval k l a b = some (((iv l a b).1, (iv l a b).2.1, (iv l a b).2.2, ()), ()) := by
  unfold pointwise_Interval iv
  rw [valid_ok k l true hk]
  simp only [Option.bind_some]
  by_cases hv : vcode l true = 0
  · have e : (vcode l true != 0) = false := by simpa using hv
    rw [e, cond_false, if_neg (fun h => h hv), bt_ok, bt_ok]
    simp only [Option.bind_some]
    by_cases ha : 1 ≤ a ∧ a ≤ 4294967296
    · rw [decide_eq_true ha]
      simp only [Bool.not_true, cond_false]
      by_cases hb : 1 ≤ b ∧ b ≤ 4294967296
      · obtain ⟨h1, h2, h3⟩ := vcode_hOk hv
        rw [decide_eq_true hb, if_pos ⟨ha.1, ha.2, hb⟩]
        simp only [Bool.not_true, cond_false]
        have := interval_loop (R := (Int × Int × Int × Unit) × Unit) k l a b (fun (z28 : Int) (z29 : Int) (z30 : Int) => (some ((z28, z29, z30, ()), ()))) (fun (z31 : List (Int × Int)) => (if 0 ≤ (0 : Int) ∧ (0 : Int) < ((z31.length : Nat) : Int) then (z31[0]?).bind fun (x32 : Int × Int) => if 0 ≤ (0 : Int) ∧ (0 : Int) < ((z31.length : Nat) : Int) then (z31[0]?).bind fun (x33 : Int × Int) => some ((x32.1, x33.2, 0, ()), ()) else none else none)) h2 l.length 0 k [] rfl (by omega) (by omega) (by simp) h3 (fun x hx => by cases hx)
        refine Eq.trans this ?_
        rw [List.drop_zero]
        have hc := irun_congr (R := (Int × Int × Int × Unit) × Unit) a b (some ((0, 0, 11, ()), ())) (fun (z31 : List (Int × Int)) => (if 0 ≤ (0 : Int) ∧ (0 : Int) < ((z31.length : Nat) : Int) then (z31[0]?).bind fun (x32 : Int × Int) => if 0 ≤ (0 : Int) ∧ (0 : Int) < ((z31.length : Nat) : Int) then (z31[0]?).bind fun (x33 : Int × Int) => some ((x32.1, x33.2, 0, ()), ()) else none else none)) (fun st => some (((st.getD 0 (0, 0)).1, (st.getD 0 (0, 0)).2, 0, ()), ())) (fun st hst => by
          rw [if_pos (by omega), getP_of (by omega), Option.bind_some, if_pos (by omega)]; rfl) l [] h3
        rw [hc]
        obtain ⟨c, hc⟩ := irun_some a b l []
        have hm := irun_map a b (fun c : Int × Int × Int => some ((c.1, c.2.1, c.2.2, ()), ())) (some (0, 0, 11)) (fun st => some ((st.getD 0 (0, 0)).1, (st.getD 0 (0, 0)).2, 0)) l []
        rw [hc] at hm
        unfold irv
        rw [hc]
        exact hm.symm
      · rw [decide_eq_false hb, if_neg (fun h => hb h.2.2)]; rfl
    · rw [decide_eq_false ha, if_neg (fun h => ha ⟨h.1, h.2.1⟩)]; rfl
  · have e : (vcode l true != 0) = true := by simpa using hv
    rw [e, cond_true, if_pos hv]
end Go.Lf.T

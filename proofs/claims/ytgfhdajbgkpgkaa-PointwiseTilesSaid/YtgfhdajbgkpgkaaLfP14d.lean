import Derived.Test.YtgfhdajbgkpgkaaLfP14c
/-! Lf: pointwise: what a program comes to, in plain words. -/
set_option linter.unusedVariables false
set_option maxRecDepth 100000
namespace Go.Lf.T
open Go Go.Lf

/-- One operation on values, the last one at the end. -/
def eone (a b : Int) (o : Int × Int) (st : List Int) : Int := estep a b o (st.getD (st.length - tk o.1) 0) (st.getD (st.length - tk o.1 + 1) 0)

def erun {R : Type} (a b : Int) (e0 : Option R) (e1 : List Int → Option R) : List (Int × Int) → List Int → Option R
  | [], st => e1 st
  | o :: l, st => if inM (eone a b o st) then erun a b e0 e1 l (st.take (st.length - tk o.1) ++ [eone a b o st]) else e0

theorem getD_of {st : List Int} {n : Nat} (h : n < st.length) : st[n]? = some (st.getD n 0) := by
  rw [List.getElem?_eq_getElem h, List.getD_eq_getElem?_getD, List.getElem?_eq_getElem h]; rfl

theorem run_loop {R : Type} (k : Nat) (l : List (Int × Int)) (a b : Int) (e0 : Int → Int → Option R) (e1 : List Int → Option R) (hl : l.length ≤ 32) : ∀ (n i j : Nat) (st : List Int), l.length - i = n → i ≤ l.length → n < j → st.length ≤ i → hOk (l.drop i) st.length → (∀ x ∈ st, inM x) →
    pointwise_run.loop0 k j a b l l.length i st e0 e1 = erun a b (e0 0 11) e1 (l.drop i) st := by
  intro n
  induction n with
  | zero =>
    intro i j st hn hi hj hst hok hin
    have e : i = l.length := by omega
    obtain ⟨j, rfl⟩ : ∃ j', j = j' + 1 := ⟨j - 1, by omega⟩
    rw [pointwise_run.loop0_s, e, decide_eq_false (by omega), List.drop_length]
    rfl
  | succ n ih =>
    intro i j st hn hi hj hst hok hin
    obtain ⟨j, rfl⟩ : ∃ j', j = j' + 1 := ⟨j - 1, by omega⟩
    have hlt : i < l.length := by omega
    rw [List.drop_eq_getElem_cons hlt] at hok ⊢
    rw [pointwise_run.loop0_s, decide_eq_true (by omega)]
    simp only [cond_true]
    rw [if_pos (by omega), Int.toNat_natCast, List.getElem?_eq_getElem hlt]
    generalize hgo : l[i] = o at *
    obtain ⟨c1, c2, htk, harg, hrest⟩ := hok
    have htk2 := tk_le o.1
    have hw : w64 (((st.length : Nat) : Int) - ((tk o.1 : Nat) : Int)) = ((st.length - tk o.1 : Nat) : Int) := by rw [w64_id (by omega) (by omega)]; omega
    simp only [Option.bind_some, takes_ok, hw, Int.toNat_natCast]
    rw [if_pos (by omega), if_pos (by omega)]
    have fin : ∀ v, eone a b o st = v → ((pointwise_sum k v).bind fun (y3 : (Bool × Unit) × (Unit)) => bif !y3.1.1 then (e0 0 11) else (if ((st.take (st.length - tk o.1)) ++ [v]).length * 8 ≤ 140737488355328 then pointwise_run.loop0 k j a b l l.length (w64 ((i : Int) + 1)) ((st.take (st.length - tk o.1)) ++ [v]) e0 e1 else none)) =
        erun a b (e0 0 11) e1 (o :: l.drop (i + 1)) st := by
      intro v hv
      unfold erun
      rw [hv, sum_eq]
      by_cases hm : inM v
      · have hlen : ((st.take (st.length - tk o.1)) ++ [v]).length = st.length - tk o.1 + 1 := by rw [List.length_append, List.length_take]; simp
        simp only [Option.bind_some, decide_eq_true hm, Bool.not_true, cond_false, if_pos hm]
        rw [if_pos (by rw [hlen]; omega), w64_succ i (by omega)]
        refine ih (i + 1) j _ (by omega) (by omega) (by omega) (by rw [hlen]; omega) (by rw [hlen]; rw [show st.length - tk o.1 + 1 = st.length + 1 - tk o.1 by omega]; exact hrest) fun x hx => ?_
        rcases List.mem_append.1 hx with hx | hx
        · exact hin x (List.mem_of_mem_take hx)
        · rw [List.mem_singleton.1 hx]; exact hm
      · simp only [Option.bind_some, decide_eq_false hm, Bool.not_false, cond_true, if_neg hm]
    have mem : ∀ p, p < st.length → inM (st.getD p 0) := fun p hp => by
      have := getD_of hp
      exact hin _ (List.mem_of_getElem? this)
    by_cases h0 : o.1 = 0
    · have e : (o.1 == 0) = true := by simpa using h0
      rw [e, cond_true]
      exact fin a (by unfold eone estep; rw [if_pos h0])
    have e0' : (o.1 == 0) = false := by simpa using h0
    rw [e0', cond_false]
    by_cases h1 : o.1 = 1
    · have e : (o.1 == 1) = true := by simpa using h1
      rw [e, cond_true]
      exact fin b (by unfold eone estep; rw [if_neg h0, if_pos h1])
    have e1' : (o.1 == 1) = false := by simpa using h1
    rw [e1', cond_false]
    by_cases h2 : o.1 = 2
    · have e : (o.1 == 2) = true := by simpa using h2
      rw [e, cond_true]
      exact fin o.2 (by unfold eone estep; rw [if_neg h0, if_neg h1, if_pos h2])
    have e2' : (o.1 == 2) = false := by simpa using h2
    rw [e2', cond_false]
    by_cases h10 : o.1 = 10
    · have e : (o.1 == 10) = true := by simpa using h10
      have ht : tk o.1 = 1 := by rw [h10]; rfl
      have hs : 0 ≤ o.2 ∧ o.2 ≤ 24 := by unfold argB at harg; rw [if_neg h2, if_pos h10] at harg; simpa using harg
      rw [e, cond_true, if_pos (by omega), Nat.zero_add, getD_of (by omega), Option.bind_some, shift_eq k (mem _ (by omega)) hs.1 hs.2, Option.bind_some]
      exact fin _ (by unfold eone estep; rw [if_neg h0, if_neg h1, if_neg h2, if_pos h10])
    have e10' : (o.1 == 10) = false := by simpa using h10
    rw [e10', cond_false]
    by_cases h11 : o.1 = 11
    · have e : (o.1 == 11) = true := by simpa using h11
      have ht : tk o.1 = 1 := by rw [h11]; rfl
      have hb := mem (st.length - tk o.1) (by omega)
      unfold inM at hb
      rw [e, cond_true, if_pos (by omega), Nat.zero_add, getD_of (by omega), Option.bind_some, abs_eq k (by omega) (by omega), Option.bind_some]
      exact fin _ (by unfold eone estep; rw [if_neg h0, if_neg h1, if_neg h2, if_neg h10, if_pos h11])
    have e11' : (o.1 == 11) = false := by simpa using h11
    have ht : tk o.1 = 2 := by unfold tk; rw [if_neg (by omega), if_neg (by omega)]
    rw [e11', cond_false, if_pos (by omega), Nat.zero_add, getD_of (by omega), Option.bind_some, if_pos (by omega), Nat.add_comm 1, getD_of (by omega), Option.bind_some, result_eq k _ (mem _ (by omega)) (mem _ (by omega)), Option.bind_some]
    exact fin _ (by unfold eone estep; rw [if_neg h0, if_neg h1, if_neg h2, if_neg h10, if_neg h11])

/-- What a valid program comes to. -/
def rv (l : List (Int × Int)) (a b : Int) : Int × Int := (erun (R := Int × Int) a b (some (0, 11)) (fun st => some (st.getD 0 0, 0)) l []).getD (0, 0)

def ev (l : List (Int × Int)) (a b : Int) : Int × Int :=
  if vcode l true ≠ 0 then (0, vcode l true) else if 0 ≤ a ∧ a ≤ 4294967296 ∧ 0 ≤ b ∧ b ≤ 4294967296 then rv l a b else (0, 2)

theorem erun_map {R R' : Type} (a b : Int) (f : R → Option R') (e0 : Option R) (e1 : List Int → Option R) : ∀ (l : List (Int × Int)) (st : List Int), (erun a b e0 e1 l st).bind f = erun a b (e0.bind f) (fun st => (e1 st).bind f) l st
  | [], st => rfl
  | o :: l, st => by
    unfold erun
    split
    · exact erun_map a b f e0 e1 l _
    · rfl

theorem erun_some (a b : Int) : ∀ (l : List (Int × Int)) (st : List Int), ∃ c, erun (R := Int × Int) a b (some (0, 11)) (fun st => some (st.getD 0 0, 0)) l st = some c
  | [], st => ⟨_, rfl⟩
  | o :: l, st => by
    unfold erun
    split
    · exact erun_some a b l _
    · exact ⟨_, rfl⟩

theorem erun_congr {R : Type} (a b : Int) (e0 : Option R) (e1 e2 : List Int → Option R) (h : ∀ st, st.length = 1 → e1 st = e2 st) : ∀ (l : List (Int × Int)) (st : List Int), hOk l st.length → erun a b e0 e1 l st = erun a b e0 e2 l st
  | [], st, hok => h st hok
  | o :: l, st, hok => by
    obtain ⟨c1, c2, htk, harg, hrest⟩ := hok
    unfold erun
    split
    · refine erun_congr a b e0 e1 e2 h l _ ?_
      have hlen : ((st.take (st.length - tk o.1)) ++ [eone a b o st]).length = st.length - tk o.1 + 1 := by rw [List.length_append, List.length_take]; simp
      rw [hlen, show st.length - tk o.1 + 1 = st.length + 1 - tk o.1 by omega]
      exact hrest
    · rfl

theorem prun_ok (k : Nat) {l : List (Int × Int)} {a b : Int} (hk : 33 ≤ k) (hl : l.length ≤ 32) (hok : hOk l 0) : pointwise_run k l a b = some (((rv l a b).1, (rv l a b).2, ()), ()) := by
  unfold pointwise_run
  rw [if_pos (by omega)]
  have := run_loop (R := (Int × Int × Unit) × Unit) k l a b (fun z16 z17 => some ((z16, z17, ()), ())) (fun (z18 : List Int) => (if 0 ≤ (0 : Int) ∧ (0 : Int) < ((z18.length : Nat) : Int) then (z18[0]?).bind fun (x19 : Int) => some ((x19, 0, ()), ()) else none)) hl l.length 0 k [] rfl (by omega) (by omega) (by simp) hok (fun x hx => by cases hx)
  rw [show ((0 : Nat) : Int) = 0 from rfl] at this
  refine Eq.trans this ?_
  rw [List.drop_zero]
  have hc := erun_congr (R := (Int × Int × Unit) × Unit) a b (some ((0, 11, ()), ())) (fun (z18 : List Int) => (if 0 ≤ (0 : Int) ∧ (0 : Int) < ((z18.length : Nat) : Int) then (z18[0]?).bind fun (x19 : Int) => some ((x19, 0, ()), ()) else none)) (fun st => some ((st.getD 0 0, 0, ()), ())) (fun st hst => by
    rw [if_pos (by omega), getD_of (by omega)]; rfl) l [] hok
  rw [hc]
  obtain ⟨c, hc⟩ := erun_some a b l []
  have hm := erun_map a b (fun c : Int × Int => some ((c.1, c.2, ()), ())) (some (0, 11)) (fun st => some (st.getD 0 0, 0)) l []
  rw [hc] at hm
  unfold rv
  rw [hc]
  exact hm.symm

theorem eval_ok (k : Nat) (l : List (Int × Int)) (a b : Int) (hk : 33 ≤ k) : pointwise_Eval k l a b = some (((ev l a b).1, (ev l a b).2, ()), ()) := by
  unfold pointwise_Eval ev
  rw [valid_ok k l true hk]
  simp only [Option.bind_some]
  by_cases hv : vcode l true = 0
  · have e : (vcode l true != 0) = false := by simpa using hv
    rw [e, cond_false, if_neg (fun h => h hv), bt_ok, bt_ok]
    simp only [Option.bind_some]
    by_cases ha : 0 ≤ a ∧ a ≤ 4294967296
    · rw [decide_eq_true ha]
      simp only [Bool.not_true, cond_false]
      by_cases hb : 0 ≤ b ∧ b ≤ 4294967296
      · obtain ⟨h1, h2, h3⟩ := vcode_hOk hv
        rw [decide_eq_true hb, if_pos ⟨ha.1, ha.2, hb⟩, prun_ok k hk h2 h3]
        rfl
      · rw [decide_eq_false hb, if_neg (fun h => hb h.2.2)]; rfl
    · rw [decide_eq_false ha, if_neg (fun h => ha ⟨h.1, h.2.1⟩)]; rfl
  · have e : (vcode l true != 0) = true := by simpa using hv
    rw [e, cond_true, if_pos hv]
end Go.Lf.T

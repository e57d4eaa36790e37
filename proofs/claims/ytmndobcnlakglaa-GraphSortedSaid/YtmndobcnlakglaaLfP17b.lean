import Derived.Test.YtmndobcnlakglaaLfSh17
import Derived.Test.YtmndobcnlakglaaLfCc
/-! Lf: orders of jobs. -/
set_option linter.unusedVariables false
set_option maxRecDepth 100000
namespace Go.Lf.T
open Go Go.Lf

abbrev Stg := Int × Int × Int × Bool × (Int × Int) × Int × Int × (List Int) × (List Int) × (List Int) × Int × Int × (List (Int × List Int)) × (List (Int × List Int)) × Int × (List (Int × Int)) × Int
abbrev Pln := Int × Int × Int × List Int

theorem w64_id {n : Int} (h1 : -9223372036854775808 ≤ n) (h2 : n < 9223372036854775808) : w64 n = n := by
  unfold w64 IntKind.wrap
  simp [IntKind.bits, IntKind.signed] <;> omega

theorem w64_cast (n : Nat) (h : n < 9223372036854775808) : w64 ((n : Int)) = n := w64_id (by omega) (by omega)
theorem w64_succ (n : Nat) (h : n < 9223372036854775807) : w64 ((n : Int) + 1) = ((n + 1 : Nat) : Int) := by rw [w64_id (by omega) (by omega)]; rfl

theorem tmod_gt (a m : Int) (h : 0 < m) : -m < a.tmod m := by
  by_cases h0 : 0 ≤ a
  · have := Int.tmod_nonneg m h0; omega
  · have h1 := Int.tmod_lt_of_pos (-a) h
    rw [Int.neg_tmod] at h1
    omega

theorem mod_ok (k : Nat) (a m : Int) (h1 : 0 < m) (h2 : m ≤ 4611686018427387904) : ∃ u, F5 k a m = some ((u, ()), ()) ∧ 0 ≤ u ∧ u < m := by
  have hlt := Int.tmod_lt_of_pos a h1
  have hgt := tmod_gt a m h1
  unfold F5
  rw [if_neg (by omega)]
  by_cases h : a.tmod m < 0
  · refine ⟨a.tmod m + m, ?_, by omega, by omega⟩
    simp only [h, decide_true, cond]
    rw [w64_id (by omega) (by omega)]
  · refine ⟨a.tmod m, ?_, by omega, by omega⟩
    simp only [h, decide_false, cond]

def Tp (t : List Int × Int) : Prop := 0 ≤ t.2 ∧ t.2 ≤ t.1.length ∧ t.1.length ≤ 9223372036854775807

theorem next_ok (k : Nat) {t : List Int × Int} (ht : Tp t) {n : Int} (h1 : 0 < n) (h2 : n ≤ 4611686018427387904) : ∃ v t', F6 k t n = some ((v, ()), (t', ())) ∧ 0 ≤ v ∧ v < n ∧ Tp t' := by
  obtain ⟨a1, a2, a3⟩ := ht
  unfold F6
  rw [decide_eq_false (by omega), cond_false]
  by_cases h : t.2 ≥ t.1.length
  · rw [decide_eq_true h, cond_true]
    exact ⟨0, t, rfl, by omega, h1, a1, a2, a3⟩
  · rw [decide_eq_false h, cond_false, w64_id (n := t.2 + 1) (by omega) (by omega), Int.add_sub_cancel, w64_id (n := t.2) (by omega) (by omega), if_pos a1]
    obtain ⟨v, hv, v1, v2⟩ := mod_ok k (t.1[t.2.toNat]'(by omega)) n h1 h2
    rw [List.getElem?_eq_getElem (by omega), Option.bind_some, hv]
    exact ⟨v, (t.1, t.2 + 1), rfl, v1, v2, show 0 ≤ t.2 + 1 by omega, show t.2 + 1 ≤ t.1.length by omega, a3⟩

/-! ### Sources -/
def srcs (s : Stg) : List Int := bif s.1 == 6 && s.2.2.1 != (-1) then [s.2.1, s.2.2.1] else [s.2.1]

theorem srcs_len (s : Stg) : (srcs s).length = 1 ∨ (srcs s).length = 2 := by
  unfold srcs
  cases s.1 == 6 && s.2.2.1 != (-1) <;> simp

theorem sources_ok (k : Nat) (s : Stg) : F11 k s = some ((srcs s, ()), ()) := by
  unfold F11 F10 srcs
  cases h : s.1 == 6 with
  | false => rfl
  | true => cases h2 : s.2.2.1 != (-1) <;> simp only [cond_true, Option.bind_some, cond_false, Bool.and_true, Bool.and_false]

theorem rsources_ok (k : Nat) (s : Stg) : F70 k s = some ((srcs s, ()), ()) := by
  unfold F70 F69 srcs
  cases h : s.1 == 6 with
  | false => rfl
  | true => cases h2 : s.2.2.1 != (-1) <;> simp only [cond_true, Option.bind_some, cond_false, Bool.and_true, Bool.and_false]

/-! ### What is listed -/
def has (p : Nat) (out : List Int) (x : Int) : Bool := decide (x < p) || out.contains x

def lst (p n : Nat) (out : List Int) : List Bool := (List.range (p + n)).map fun (j : Nat) => has p out (j : Int)

theorem lst_len (p n : Nat) (out : List Int) : (lst p n out).length = p + n := by simp [lst]

theorem lst_get {p n : Nat} {out : List Int} {j : Nat} (h : j < p + n) : (lst p n out)[j]? = some (has p out j) := by
  unfold lst
  rw [List.getElem?_map, List.getElem?_range h]; rfl

theorem has_snoc (p : Nat) (out : List Int) (y x : Int) : has p (out ++ [y]) x = (has p out x || x == y) := by
  unfold has
  rw [List.contains_append, ← Bool.or_assoc]
  congr 1
  simp only [List.contains_cons, List.contains_nil, Bool.or_false]

theorem lst_set {p n i : Nat} {out : List Int} (h : i < n) : (lst p n out).set (p + i) true = lst p n (out ++ [((p + i : Nat) : Int)]) := by
  apply List.ext_getElem?
  intro j
  by_cases hj : j < p + n
  · rw [lst_get hj, List.getElem?_set, lst_len]
    by_cases e : p + i = j
    · subst e; rw [if_pos rfl, if_pos hj, has_snoc]; simp
    · rw [if_neg e, lst_get hj, has_snoc]
      have : ((j : Int) == ((p + i : Nat) : Int)) = false := by simp; omega
      rw [this, Bool.or_false]
  · rw [List.getElem?_eq_none (by rw [List.length_set, lst_len]; omega), List.getElem?_eq_none (by rw [lst_len]; omega)]

theorem cf_loop {R : Type} (k p n : Nat) (out l : List Int) (e0 : Int → List Bool → Option R) (e1 : List Bool → Option R) (hl : ∀ x ∈ l, 0 ≤ x ∧ x < (p : Int) + n) (hlen : l.length ≤ 1000) : ∀ (m i j : Nat), l.length - i = m → i ≤ l.length → m < j →
    ∃ r : Option Nat, r.isNone = (l.drop i).all (has p out) ∧ F14.loop0 k j l l.length i (lst p n out) e0 e1 = match r with | none => e1 (lst p n out) | some q => e0 (q : Nat) (lst p n out) := by
  intro m
  induction m with
  | zero =>
    intro i j hm hi hj
    obtain ⟨j, rfl⟩ : ∃ j', j = j' + 1 := ⟨j - 1, by omega⟩
    refine ⟨none, ?_, ?_⟩
    · rw [show i = l.length by omega, List.drop_length]; rfl
    · rw [F14.loop0_s, decide_eq_false (by omega), cond_false]
  | succ m ih =>
    intro i j hm hi hj
    obtain ⟨j, rfl⟩ : ∃ j', j = j' + 1 := ⟨j - 1, by omega⟩
    have hlt : i < l.length := by omega
    obtain ⟨b1, b2⟩ := hl l[i] (List.getElem_mem hlt)
    have hd : l.drop i = l[i] :: l.drop (i + 1) := List.drop_eq_getElem_cons hlt
    have hcall : F13 k l[i] (lst p n out) = some ((!(has p out l[i]), ()), (lst p n out, ())) := by
      unfold F13
      rw [if_pos (by rw [lst_len]; omega), lst_get (j := l[i].toNat) (by omega), Option.bind_some, Int.toNat_of_nonneg b1]
    rw [F14.loop0_s, decide_eq_true (by omega), cond_true, if_pos (by omega), Int.toNat_natCast, List.getElem?_eq_getElem hlt, Option.bind_some, hcall]
    simp only [Option.bind_some]
    cases hh : has p out l[i] with
    | false => exact ⟨some i, by rw [hd, List.all_cons, hh]; rfl, rfl⟩
    | true =>
      obtain ⟨r, h1, h2⟩ := ih (i + 1) j (by omega) (by omega) (by omega)
      refine ⟨r, by rw [hd, List.all_cons, hh, Bool.true_and]; exact h1, ?_⟩
      rw [Bool.not_true, cond_false, w64_succ i (by omega)]
      exact h2

theorem cf_ok {k p n : Nat} {out l : List Int} (hl : ∀ x ∈ l, 0 ≤ x ∧ x < (p : Int) + n) (hlen : l.length ≤ 1000) (hk : 1001 ≤ k) : F15 k l (lst p n out) = some ((!(l.all (has p out)), ()), (lst p n out, ())) := by
  unfold F15 F14
  obtain ⟨r, h1, h2⟩ := cf_loop k p n out l (fun (z3 : Int) (z4 : List Bool) => (some ((z3, ()), (z4, ())))) (fun (z5 : List Bool) => (some (((-1), ()), (z5, ())))) hl hlen l.length 0 k (by omega) (by omega) (by omega)
  rw [show ((0 : Nat) : Int) = 0 from rfl] at h2
  rw [h2]
  rw [List.drop_zero] at h1
  cases r with
  | none => simp only [Option.bind_some, ← h1]; rfl
  | some q => simp only [Option.bind_some, ← h1]; rw [decide_eq_true (by omega)]; rfl

/-! ### The least stage that is ready -/
def rdy (p : Nat) (out : List Int) (s : Stg) : Bool := (srcs s).all (has p out)

def pk (p : Nat) (out : List Int) : List Stg → Nat → Option Nat
  | [], _ => none
  | s :: l, i => bif !out.contains ((p + i : Nat) : Int) && rdy p out s then some i else pk p out l (i + 1)

theorem pk_some {p : Nat} {out : List Int} : ∀ {l : List Stg} {i q : Nat}, pk p out l i = some q → i ≤ q ∧ (∃ s, l[q - i]? = some s ∧ rdy p out s = true) ∧ ((p + q : Nat) : Int) ∉ out ∧ ∀ r s, i ≤ r → r < q → l[r - i]? = some s → ((p + r : Nat) : Int) ∈ out ∨ rdy p out s = false
  | [], _, _, h => by cases h
  | s :: l, i, q, h => by
    unfold pk at h
    cases hc : (!out.contains ((p + i : Nat) : Int) && rdy p out s) with
    | true =>
      rw [hc] at h
      injection h with h; subst h
      rw [Bool.and_eq_true] at hc
      refine ⟨Nat.le_refl _, ⟨s, by simp, hc.2⟩, ?_, fun r s' h1 h2 => absurd h1 (by omega)⟩
      have := hc.1
      simpa using this
    | false =>
      rw [hc] at h
      obtain ⟨h1, ⟨s', h2, h3⟩, h4, h5⟩ := pk_some (l := l) (show pk p out l (i + 1) = some q from h)
      refine ⟨by omega, ⟨s', ?_, h3⟩, h4, fun r s'' hr1 hr2 hr3 => ?_⟩
      · rw [show q - i = (q - (i + 1)) + 1 by omega, List.getElem?_cons_succ]; exact h2
      · by_cases e : r = i
        · subst e
          rw [Nat.sub_self] at hr3
          simp at hr3; subst hr3
          rw [Bool.and_eq_false_iff] at hc
          exact hc.imp (fun h => by simpa using h) id
        · rw [show r - i = (r - (i + 1)) + 1 by omega, List.getElem?_cons_succ] at hr3
          exact h5 r s'' (by omega) hr2 hr3

theorem pk_lt {p : Nat} {out : List Int} {l : List Stg} {q : Nat} (h : pk p out l 0 = some q) : q < l.length := by
  obtain ⟨_, ⟨s, hs, _⟩, _⟩ := pk_some h
  exact (List.getElem?_eq_some_iff.1 hs).1

def Good (n : Nat) (ss : List Stg) : Prop := ∀ s ∈ ss, ∀ x ∈ srcs s, 0 ≤ x ∧ x < (n : Int)

def pkI (p : Nat) : Option Nat → Int
  | some q => ((p + q : Nat) : Int)
  | none => -1

theorem pick_loop {R : Type} (k p : Nat) (ss : List Stg) (out : List Int) (e0 : Int → List Bool → Option R) (hg : Good (p + ss.length) ss) (hlen : p + ss.length ≤ 1000) (hk : 1001 ≤ k) : ∀ (m i j : Nat), ss.length - i = m → i ≤ ss.length → m < j →
    F16.loop5 k j p (-1) ss ss.length i (lst p ss.length out) e0 = e0 (pkI p (pk p out (ss.drop i) i)) (lst p ss.length out) := by
  intro m
  induction m with
  | zero =>
    intro i j hm hi hj
    obtain ⟨j, rfl⟩ : ∃ j', j = j' + 1 := ⟨j - 1, by omega⟩
    rw [F16.loop5_s, decide_eq_false (by omega), cond_false, show i = ss.length by omega, List.drop_length]
    rfl
  | succ m ih =>
    intro i j hm hi hj
    obtain ⟨j, rfl⟩ : ∃ j', j = j' + 1 := ⟨j - 1, by omega⟩
    have hlt : i < ss.length := by omega
    have hd : ss.drop i = ss[i] :: ss.drop (i + 1) := List.drop_eq_getElem_cons hlt
    have hsl := srcs_len ss[i]
    rw [F16.loop5_s, decide_eq_true (by omega), cond_true, if_pos (by omega), Int.toNat_natCast, List.getElem?_eq_getElem hlt, Option.bind_some, sources_ok]
    simp only [Option.bind_some]
    rw [cf_ok (fun x hx => by have := hg ss[i] (List.getElem_mem hlt) x hx; omega) (by omega) hk]
    simp only [Option.bind_some]
    rw [← Int.natCast_add, w64_cast (p + i) (by omega), if_pos (by rw [lst_len]; omega), Int.toNat_natCast, lst_get (by omega), Option.bind_some, hd, w64_succ i (by omega)]
    have hh : has p out ((p + i : Nat) : Int) = out.contains ((p + i : Nat) : Int) := by unfold has; rw [decide_eq_false (by omega), Bool.false_or]
    rw [hh]
    show _ = e0 (pkI p (bif !out.contains ((p + i : Nat) : Int) && rdy p out ss[i] then some i else pk p out (ss.drop (i + 1)) (i + 1))) _
    unfold rdy
    cases out.contains ((p + i : Nat) : Int) with
    | true => simp only [Bool.not_true, Bool.false_and, cond_false]; exact ih (i + 1) j (by omega) (by omega) (by omega)
    | false =>
      cases (srcs ss[i]).all (has p out) with
      | true => rfl
      | false => simp only [Bool.not_true, Bool.not_false, Bool.true_and, cond_false, cond_true]; exact ih (i + 1) j (by omega) (by omega) (by omega)

def go (p : Nat) (ss : List Stg) : Nat → List Int → Option (List Int)
  | 0, out => some out
  | f + 1, out => match pk p out ss 0 with
    | some q => go p ss f (out ++ [((p + q : Nat) : Int)])
    | none => none

theorem order_loop {R : Type} (k p : Nat) (pl : List Pln) (ss : List Stg) (os : List Int) (pr : Int) (e0 : Int → List Int → Option R) (e1 : List Int → Option R) (hg : Good (p + ss.length) ss) (hlen : p + ss.length ≤ 1000) (hk : 1001 ≤ k) : ∀ (f j : Nat) (out : List Int), out.length + f = ss.length → f < j →
    F16.loop4 k j p pl ss os pr out (lst p ss.length out) e0 e1 = match go p ss f out with | some l => e1 l | none => e0 7 [] := by
  intro f
  induction f with
  | zero =>
    intro j out hm hj
    obtain ⟨j, rfl⟩ : ∃ j', j = j' + 1 := ⟨j - 1, by omega⟩
    rw [F16.loop4_s, decide_eq_false (by omega), cond_false]
    rfl
  | succ f ih =>
    intro j out hm hj
    obtain ⟨j, rfl⟩ : ∃ j', j = j' + 1 := ⟨j - 1, by omega⟩
    rw [F16.loop4_s, decide_eq_true (by omega), cond_true]
    have hp := pick_loop k p ss out (fun (z16 : Int) (z17 : List Bool) => (bif decide (z16 < 0) then (e0 7 ([] : List Int)) else (if (out ++ [z16]).length * 8 ≤ 140737488355328 then if 0 ≤ z16 ∧ z16 < ((z17.length : Nat) : Int) then (z17[z16.toNat]?).bind fun (x18 : Bool) => F16.loop4 k j p pl ss os pr (out ++ [z16]) (z17.set z16.toNat true) e0 e1 else none else none))) hg hlen hk ss.length 0 k (by omega) (by omega) (by omega)
    rw [show ((0 : Nat) : Int) = 0 from rfl, List.drop_zero] at hp
    rw [hp]
    show _ = match (match pk p out ss 0 with | some q => go p ss f (out ++ [((p + q : Nat) : Int)]) | none => none) with | some l => e1 l | none => e0 7 []
    cases hq : pk p out ss 0 with
    | none => rfl
    | some q =>
      have hql := pk_lt hq
      rw [show pkI p (some q) = ((p + q : Nat) : Int) from rfl]
      rw [decide_eq_false (p := ((p + q : Nat) : Int) < 0) (by omega), cond_false, if_pos (by rw [List.length_append, List.length_singleton]; omega), if_pos (by rw [lst_len]; omega), Int.toNat_natCast, lst_get (by omega), Option.bind_some, lst_set hql]
      exact ih j _ (by rw [List.length_append, List.length_singleton]; omega) (by omega)

end Go.Lf.T

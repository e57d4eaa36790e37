import Derived.Test.YtmndobcnlakglaaLfP17a
import Derived.Test.YtmndobcnlakglaaLfP17c
/-! Lf: a further stage. -/
set_option linter.unusedVariables false
set_option maxRecDepth 100000
namespace Go.Lf.T
open Go Go.Lf

theorem len_le : ∀ (n : Nat) (l : List Int), l.Nodup → (∀ x ∈ l, 1 ≤ x ∧ x ≤ (n : Int)) → l.length ≤ n
  | 0, [], _, _ => Nat.le_refl _
  | 0, x :: l, _, h => by have := h x (List.mem_cons_self); omega
  | n + 1, l, hn, h => by
    by_cases hm : ((n + 1 : Nat) : Int) ∈ l
    · have h1 := len_le n (l.erase ((n + 1 : Nat) : Int)) (hn.erase _) fun x hx => by
        have h2 := (hn.mem_erase_iff).1 hx
        have h3 := h x h2.2
        have h4 := h2.1
        omega
      rw [List.length_erase_of_mem hm] at h1
      omega
    · have h1 := len_le n l hn fun x hx => by
        have h3 := h x hx
        have h4 : x ≠ ((n + 1 : Nat) : Int) := fun e => hm (e ▸ hx)
        omega
      omega

theorem all_in : ∀ (n : Nat) (l : List Int), l.Nodup → (∀ x ∈ l, 1 ≤ x ∧ x ≤ (n : Int)) → n ≤ l.length → ∀ x : Int, 1 ≤ x → x ≤ n → x ∈ l
  | 0, l, _, _, _, x, h1, h2 => by omega
  | n + 1, l, hn, h, hl, x, h1, h2 => by
    have hm : ((n + 1 : Nat) : Int) ∈ l := by
      refine Classical.byContradiction fun hm => ?_
      have := len_le n l hn fun x hx => by
        have h3 := h x hx
        have h4 : x ≠ ((n + 1 : Nat) : Int) := fun e => hm (e ▸ hx)
        omega
      omega
    by_cases e : x = ((n + 1 : Nat) : Int)
    · rw [e]; exact hm
    · have := all_in n (l.erase ((n + 1 : Nat) : Int)) (hn.erase _) (fun x hx => by
        have h2 := (hn.mem_erase_iff).1 hx
        have h3 := h x h2.2
        have h4 := h2.1
        omega) (by rw [List.length_erase_of_mem hm]; omega) x h1 (by omega)
      exact ((hn.mem_erase_iff).1 this).2

/-- What an order is so far. -/
structure Inv (n : Nat) (out : List Int) : Prop where
  nd : out.Nodup
  rg : ∀ x ∈ out, 1 ≤ x ∧ x ≤ (n : Int)

theorem Inv.snoc {ss : List Stg} {out : List Int} {q : Nat} (h : Inv ss.length out) (hq : pk 1 out ss 0 = some q) : Inv ss.length (out ++ [((1 + q : Nat) : Int)]) := by
  have hl := pk_lt hq
  obtain ⟨_, _, h3, _⟩ := pk_some hq
  refine ⟨List.nodup_append.2 ⟨h.nd, (by simp), fun a ha b hb => ?_⟩, fun x hx => ?_⟩
  · rw [List.mem_singleton.1 hb]
    exact fun e => h3 (e ▸ ha)
  · rcases List.mem_append.1 hx with hx | hx
    · exact h.rg x hx
    · rw [List.mem_singleton.1 hx]; omega

/-- What does not look at the new node does not see it. -/
theorem rdy_other {n : Nat} {out : List Int} {s : Stg} (h : ∀ x ∈ srcs s, 0 ≤ x ∧ x < ((1 + n : Nat) : Int)) : rdy 1 (out ++ [((1 + n : Nat) : Int)]) s = rdy 1 out s := by
  unfold rdy
  have go : ∀ l : List Int, (∀ x ∈ l, 0 ≤ x ∧ x < ((1 + n : Nat) : Int)) → l.all (has 1 (out ++ [((1 + n : Nat) : Int)])) = l.all (has 1 out) := by
    intro l
    induction l with
    | nil => intro _; rfl
    | cons x l ih =>
      intro h
      have hx := h x (List.mem_cons_self)
      rw [List.all_cons, List.all_cons, ih fun y hy => h y (List.mem_cons_of_mem _ hy), has_snoc, beq_eq_false_iff_ne.2 (by omega : x ≠ ((1 + n : Nat) : Int)), Bool.or_false]
  exact go _ h

theorem pk_other {n : Nat} {out : List Int} : ∀ {l : List Stg} {i : Nat}, i + l.length ≤ n → (∀ s ∈ l, ∀ x ∈ srcs s, 0 ≤ x ∧ x < ((1 + n : Nat) : Int)) → pk 1 (out ++ [((1 + n : Nat) : Int)]) l i = pk 1 out l i
  | [], _, _, _ => rfl
  | s :: l, i, hi, h => by
    rw [List.length_cons] at hi
    have hc : (out ++ [((1 + n : Nat) : Int)]).contains ((1 + i : Nat) : Int) = out.contains ((1 + i : Nat) : Int) := by
      rw [List.contains_append, List.contains_cons, List.contains_nil, Bool.or_false, beq_eq_false_iff_ne.2 (by omega : ((1 + i : Nat) : Int) ≠ ((1 + n : Nat) : Int)), Bool.or_false]
    show (bif !(out ++ [((1 + n : Nat) : Int)]).contains ((1 + i : Nat) : Int) && rdy 1 (out ++ [((1 + n : Nat) : Int)]) s then some i else pk 1 (out ++ [((1 + n : Nat) : Int)]) l (i + 1)) = bif !out.contains ((1 + i : Nat) : Int) && rdy 1 out s then some i else pk 1 out l (i + 1)
    rw [hc, rdy_other (h s (List.mem_cons_self)), pk_other (by omega) fun s hs => h s (List.mem_cons_of_mem _ hs)]

theorem go_more {ss : List Stg} {s : Stg} {a : Int} (hg : Good (1 + ss.length) ss) (hs : srcs s = [a]) (ha : 0 ≤ a ∧ a < ((1 + ss.length : Nat) : Int)) : ∀ (f : Nat) (out : List Int), out.length + f = ss.length → Inv ss.length out →
    go 1 (ss ++ [s]) (f + 1) out = match go 1 ss f out with | some l => some (l ++ [((1 + ss.length : Nat) : Int)]) | none => none := by
  have hno : ∀ {out : List Int}, Inv ss.length out → out.contains ((1 + ss.length : Nat) : Int) = false := by
    intro out h
    cases hc : out.contains ((1 + ss.length : Nat) : Int) with
    | false => rfl
    | true => have := h.rg _ (by simpa using hc); omega
  intro f
  induction f with
  | zero =>
    intro out hl hi
    have hall := all_in ss.length out hi.nd hi.rg (by omega)
    have h1 : pk 1 out ss 0 = none := by
      cases hq : pk 1 out ss 0 with
      | none => rfl
      | some q =>
        obtain ⟨_, _, h3, _⟩ := pk_some hq
        have := pk_lt hq
        exact absurd (hall _ (by omega) (by omega)) h3
    show (match pk 1 out (ss ++ [s]) 0 with | some q => go 1 (ss ++ [s]) 0 (out ++ [((1 + q : Nat) : Int)]) | none => none) = some (out ++ [((1 + ss.length : Nat) : Int)])
    have h2 : has 1 out a = true := by
      unfold has
      rw [Bool.or_eq_true]
      by_cases h0 : a < ((1 : Nat) : Int)
      · exact .inl (decide_eq_true h0)
      · exact .inr (by simpa using hall a (by omega) (by omega))
    have h3 : pk 1 out [s] (0 + ss.length) = some ss.length := by
      show (bif !out.contains ((1 + (0 + ss.length) : Nat) : Int) && rdy 1 out s then some (0 + ss.length) else _) = _
      unfold rdy
      rw [hs, Nat.zero_add, hno hi, List.all_cons, h2]; rfl
    rw [pk_append, h1, h3]
    rfl
  | succ f ih =>
    intro out hl hi
    show (match pk 1 out (ss ++ [s]) 0 with | some q => go 1 (ss ++ [s]) (f + 1) (out ++ [((1 + q : Nat) : Int)]) | none => none) = match (match pk 1 out ss 0 with | some q => go 1 ss f (out ++ [((1 + q : Nat) : Int)]) | none => none) with | some l => some (l ++ [((1 + ss.length : Nat) : Int)]) | none => none
    rw [pk_append]
    cases hq : pk 1 out ss 0 with
    | some q => exact ih _ (by rw [List.length_append, List.length_singleton]; omega) (hi.snoc hq)
    | none =>
      show (match (bif !out.contains ((1 + (0 + ss.length) : Nat) : Int) && rdy 1 out s then some (0 + ss.length) else none) with | some q => go 1 (ss ++ [s]) (f + 1) (out ++ [((1 + q : Nat) : Int)]) | none => none) = none
      cases hb : (!out.contains ((1 + (0 + ss.length) : Nat) : Int) && rdy 1 out s) with
      | false => rfl
      | true =>
        show go 1 (ss ++ [s]) (f + 1) (out ++ [((1 + (0 + ss.length) : Nat) : Int)]) = none
        rw [Nat.zero_add]
        show (match pk 1 (out ++ [((1 + ss.length : Nat) : Int)]) (ss ++ [s]) 0 with | some q => go 1 (ss ++ [s]) f (out ++ [((1 + ss.length : Nat) : Int)] ++ [((1 + q : Nat) : Int)]) | none => none) = none
        rw [pk_append, pk_other (by omega) hg, hq]
        show (match (bif !(out ++ [((1 + ss.length : Nat) : Int)]).contains ((1 + (0 + ss.length) : Nat) : Int) && rdy 1 (out ++ [((1 + ss.length : Nat) : Int)]) s then some (0 + ss.length) else none) with | some q => go 1 (ss ++ [s]) f (out ++ [((1 + ss.length : Nat) : Int)] ++ [((1 + q : Nat) : Int)]) | none => none) = none
        rw [Nat.zero_add, List.contains_append, List.contains_cons, List.contains_nil, beq_self_eq_true, Bool.true_or, Bool.or_true]
        rfl

theorem go_inv {ss : List Stg} : ∀ (f : Nat) (out l : List Int), Inv ss.length out → go 1 ss f out = some l → Inv ss.length l ∧ l.length = out.length + f
  | 0, out, l, hi, h => by injection h with h; subst h; exact ⟨hi, rfl⟩
  | f + 1, out, l, hi, h => by
    have h' : (match pk 1 out ss 0 with | some q => go 1 ss f (out ++ [((1 + q : Nat) : Int)]) | none => none) = some l := h
    cases hq : pk 1 out ss 0 with
    | none => rw [hq] at h'; cases h'
    | some q =>
      rw [hq] at h'
      obtain ⟨h1, h2⟩ := go_inv f _ l (hi.snoc hq) h'
      exact ⟨h1, by rw [h2, List.length_append, List.length_singleton]; omega⟩

theorem inv_nil (n : Nat) : Inv n [] := ⟨List.nodup_nil, fun x h => by cases h⟩

theorem same_loop {R : Type} (k n : Nat) (o : List Int) (e0 : Bool → Option R) (e1 : Int → List Int → Option R) (hn : ∀ x ∈ o, x ≠ (n : Int)) (hlen : o.length ≤ 1000) : ∀ (m i j : Nat), o.length + 1 - i = m → i ≤ o.length → m < j →
    F68.loop0 k j n i i o (o ++ [(n : Int)]) e0 e1 = e1 o.length o := by
  intro m
  induction m with
  | zero => intro i j hm hi hj; omega
  | succ m ih =>
    intro i j hm hi hj
    obtain ⟨j, rfl⟩ : ∃ j', j = j' + 1 + 1 := ⟨j - 2, by omega⟩
    rw [F68.loop0_s, decide_eq_true (by rw [List.length_append, List.length_singleton]; omega), cond_true, if_pos (by rw [List.length_append, List.length_singleton]; omega), Int.toNat_natCast]
    by_cases e : i = o.length
    · rw [e, List.getElem?_append_right (Nat.le_refl _), Nat.sub_self]
      show (bif (n : Int) == (n : Int) then _ else _) = _
      rw [beq_self_eq_true, cond_true, w64_succ _ (by omega), F68.loop0_s, decide_eq_false (by rw [List.length_append, List.length_singleton]; omega), cond_false]
    · have hlt : i < o.length := by omega
      rw [List.getElem?_append_left hlt, List.getElem?_eq_getElem hlt, Option.bind_some, beq_eq_false_iff_ne.2 (hn _ (List.getElem_mem hlt)), cond_false, decide_eq_false (by omega), cond_false, if_pos (by rw [List.length_append, List.length_singleton]; omega), Option.bind_some, if_pos (by omega), Option.bind_some]
      rw [show (o[i] != o[i]) = false by simp, cond_false, w64_succ i (by omega)]
      exact ih (i + 1) (j + 1) (by omega) (by omega) (by omega)

theorem extends_pure (t : List Int) (size a : Int) (ht : t.length ≤ 9223372036854775807) : F68 5000 t size a = some ((true, ()), ()) := by
  obtain ⟨u, hu, u1, u2⟩ := mod_ok 5000 size 8 (by omega) (by omega)
  obtain ⟨n, hn⟩ : ∃ n : Nat, ((n : Int) = 1 + u) := ⟨(1 + u).toNat, by omega⟩
  obtain ⟨ss, t', hl, hs, hss⟩ := links_ok (k := 5000) (n := n) (t := (t, 0)) ⟨by omega, by show (0 : Int) ≤ (t.length : Int); omega, ht⟩ (by omega) (by omega)
  obtain ⟨v, hv, v1, v2⟩ := mod_ok 5000 a ((1 + ss.length : Nat) : Int) (by omega) (by omega)
  have hg := link_good hss
  rw [← hs] at hg
  unfold F68 F4
  simp only [Option.bind_some]
  rw [hu]
  simp only [Option.bind_some]
  rw [w64_id (by omega) (by omega), ← hn, hl]
  simp only [Option.bind_some]
  rw [order_ok hg (by omega) (by omega) (by omega)]
  simp only [Option.bind_some]
  unfold F17
  rw [if_pos (by show 1 * 48 ≤ _; omega), if_pos (by show ss.length * 240 ≤ _; omega), if_pos (by show 1 * 8 ≤ _; omega)]
  simp only [Option.bind_some]
  have e3 : w64 ((pl0.length : Int) + (ss.length : Int)) = ((1 + ss.length : Nat) : Int) := by rw [← Int.natCast_add]; exact w64_cast _ (by show 1 + ss.length < _; omega)
  rw [e3, hv]
  unfold F7
  simp only [Option.bind_some]
  rw [if_pos (by rw [List.length_append, List.length_singleton]; omega)]
  have hg2 : Good (1 + (ss ++ [((6, v, (-1), false, (0, 0), 0, 0, [], [], [], 0, 0, [], [], 0, [(0, 0)], 255) : Stg)]).length) (ss ++ [((6, v, (-1), false, (0, 0), 0, 0, [], [], [], 0, 0, [], [], 0, [(0, 0)], 255) : Stg)]) := by
    intro s hs' x hx
    rw [List.length_append, List.length_singleton]
    rcases List.mem_append.1 hs' with h | h
    · have := hg s h x hx; omega
    · rw [List.mem_singleton.1 h] at hx
      have hx' : x ∈ [v] := hx
      rw [List.mem_singleton.1 hx']; omega
  rw [order_ok hg2 (by rw [List.length_append, List.length_singleton]; omega) (by rw [List.length_append, List.length_singleton]; omega) (by omega)]
  simp only [Option.bind_some]
  rw [List.length_append, List.length_singleton, go_more (a := v) hg rfl ⟨v1, v2⟩ ss.length [] (by simp) (inv_nil _)]
  cases hgo : go 1 ss ss.length [] with
  | none =>
    simp only [ans]
    rw [show ((7 : Int) != 0) = true from rfl, show ((7 : Int) == 7) = true from rfl, sane17_ok]
    rfl
  | some o =>
    obtain ⟨hi, hol⟩ := go_inv _ _ _ (inv_nil _) hgo
    rw [List.length_nil, Nat.zero_add] at hol
    simp only [ans]
    rw [show ((0 : Int) != 0) = false from rfl, cond_false, cond_false, List.length_append, List.length_singleton, w64_succ _ (by omega), show ((((o.length + 1 : Nat) : Int)) != ((o.length + 1 : Nat) : Int)) = false by simp, cond_false]
    have hsl := same_loop (R := (Bool × Unit) × Unit) 5000 (1 + ss.length) o (fun (z13 : Bool) => (some ((z13, ()), ()))) (fun (z14 : Int) (z15 : List Int) => (bif z14 == ((z15.length : Nat) : Int) then ((F67 5000).bind fun (y16 : (Bool × Unit) × (Unit)) => some ((y16.1.1, ()), ())) else (some ((false, ()), ())))) (fun x hx e => by have := hi.rg x hx; omega) (by omega) (o.length + 1) 0 5000 (by omega) (by omega) (by omega)
    rw [show ((0 : Nat) : Int) = 0 from rfl] at hsl
    rw [hsl, beq_self_eq_true, cond_true, sane17_ok]
    rfl

end Go.Lf.T

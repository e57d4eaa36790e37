import Derived.Test.YtmndobcnlakglaaLfP17a
import Derived.Test.YtmndobcnlakglaaLfP17c
/-! Lf: a further stage. -/
set_option linter.unusedVariables false
set_option maxRecDepth 100000
namespace Go.Lf.T
open Go Go.Lf

theorem len_le : ∀ (n : Nat) (l : List Int), l.Nodup → (∀ x ∈ l, 1 ≤ x ∧ x ≤ (n : Int)) → l.length ≤ n
  | 0, [], _, _ => Nat.le_refl _
  | 0, x :: l, _, h => by have := h x (List.mem_cons_self); omega
  | n + 1, l, hn, h => by
    by_cases hm : ((n + 1 : Nat) : Int) ∈ l
    · have h1 := len_le n (l.erase ((n + 1 : Nat) : Int)) (hn.erase _) fun x hx => by
        have h2 := (hn.mem_erase_iff).1 hx
        have h3 := h x h2.2
        have h4 := h2.1
        omega
      rw [List.length_erase_of_mem hm] at h1
      omega
    · have h1 := len_le n l hn fun x hx => by
        have h3 := h x hx
        have h4 : x ≠ ((n + 1 : Nat) : Int) := fun e => hm (e ▸ hx)
        omega
      omega

theorem all_in : ∀ (n : Nat) (l : List Int), l.Nodup → (∀ x ∈ l, 1 ≤ x ∧ x ≤ (n : Int)) → n ≤ l.length → ∀ x : Int, 1 ≤ x → x ≤ n → x ∈ l
  | 0, l, _, _, _, x, h1, h2 => by omega
  | n + 1, l, hn, h, hl, x, h1, h2 => by
    have hm : ((n + 1 : Nat) : Int) ∈ l := by
      refine Classical.byContradiction fun hm => ?_
      have := len_le n l hn fun x hx => by
        have h3 := h x hx
        have h4 : x ≠ ((n + 1 : Nat) : Int) := fun e => hm (e ▸ hx)
        omega
      omega
    by_cases e : x = ((n + 1 : Nat) : Int)
    · rw [e]; exact hm
    · have := all_in n (l.erase ((n + 1 : Nat) : Int)) (hn.erase _) (fun x hx => by
        have h2 := (hn.mem_erase_iff).1 hx
        have h3 := h x h2.2
        have h4 := h2.1
        omega) (by rw [List.length_erase_of_mem hm]; omega) x h1 (by omega)
      exact ((hn.mem_erase_iff).1 this).2

/-- What an order is so far. -/
structure Inv (n : Nat) (out : List Int) : Prop where
  nd : out.Nodup
  rg : ∀ x ∈ out, 1 ≤ x ∧ x ≤ (n : Int)

theorem Inv.snoc {ss : List Stg} {out : List Int} {q : Nat} (h : Inv ss.length out) (hq : pk 1 out ss 0 = some q) : Inv ss.length (out ++ [((1 + q : Nat) : Int)]) := by
  have hl := pk_lt hq
  obtain ⟨_, _, h3, _⟩ := pk_some hq
  refine ⟨List.nodup_append.2 ⟨h.nd, (by simp), fun a ha b hb => ?_⟩, fun x hx => ?_⟩
  · rw [List.mem_singleton.1 hb]
    exact fun e => h3 (e ▸ ha)
  · rcases List.mem_append.1 hx with hx | hx
    · exact h.rg x hx
    · rw [List.mem_singleton.1 hx]; omega

theorem go_inv {ss : List Stg} : ∀ (f : Nat) (out l : List Int), Inv ss.length out → go 1 ss f out = some l → Inv ss.length l ∧ l.length = out.length + f
  | 0, out, l, hi, h => by injection h with h; subst h; exact ⟨hi, rfl⟩
  | f + 1, out, l, hi, h => by
    have h' : (match pk 1 out ss 0 with | some q => go 1 ss f (out ++ [((1 + q : Nat) : Int)]) | none => none) = some l := h
    cases hq : pk 1 out ss 0 with
    | none => rw [hq] at h'; cases h'
    | some q =>
      rw [hq] at h'
      obtain ⟨h1, h2⟩ := go_inv f _ l (hi.snoc hq) h'
      exact ⟨h1, by rw [h2, List.length_append, List.length_singleton]; omega⟩

theorem inv_nil (n : Nat) : Inv n [] := ⟨List.nodup_nil, fun x h => by cases h⟩

end Go.Lf.T

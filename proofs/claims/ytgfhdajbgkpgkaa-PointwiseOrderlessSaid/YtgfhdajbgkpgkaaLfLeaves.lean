import Derived.Test.YtgfhdajbgkpgkaaLfLeaf
set_option linter.unusedVariables false
/-! Lf: leaves read as values. -/
namespace Go.Lf

/-- Leaves of a value of one cell: the general step. -/
theorem ofLeaves_one {w : World} {F : Bs} {τ : Ty} {v : V} {vs rest : List V} {x : τ.den} {us : List Value} {G : Bs}
    (h : withRest (τ.ofLeaf v) vs = some (x, rest)) (hl : LsR w F (v :: vs) us G) :
    ∃ us1 us2 G1 G2, us = us1 ++ us2 ∧ (∀ n, G1 n → G n) ∧ (∀ n, G2 n → G n) ∧ Dj G1 G2 ∧
      ∀ F' : Bs, (∀ b, F' b → F b) → (∀ b, G b → ¬ G1 b → ¬ G2 b → ¬ F' b) → LR w F' τ x us1 G1 ∧ LsR w F' rest us2 G2 := by
  cases hl with
  | cons h1 h2 hd hG =>
    rename_i u us Ga Gb
    unfold withRest at h
    split at h
    · rename_i x' hx
      injection h with h; injection h with hx' hr
      subst hx'; subst hr
      obtain ⟨G1, hs, hF⟩ := ofLeaf_sound hx h1
      refine ⟨[u], us, G1, Gb, rfl, fun n hn => (hG n).2 (.inl (hs n hn)), fun n hn => (hG n).2 (.inr hn), fun b hb => hd b (hs b hb), fun F' hF' hout => ⟨hF F' hF' ?_, h2.sub hF'⟩⟩
      intro b hb hb1
      exact hout b ((hG b).2 (.inl hb)) hb1 (fun h => hd b hb h)
    · cases h

theorem ofLeaves_sound {w : World} {F : Bs} : ∀ {τ : Ty} {vs rest : List V} {x : τ.den} {us : List Value} {G : Bs}, τ.ofLeaves vs = some (x, rest) → LsR w F vs us G →
    ∃ us1 us2 G1 G2, us = us1 ++ us2 ∧ (∀ n, G1 n → G n) ∧ (∀ n, G2 n → G n) ∧ Dj G1 G2 ∧
      ∀ F' : Bs, (∀ b, F' b → F b) → (∀ b, G b → ¬ G1 b → ¬ G2 b → ¬ F' b) → LR w F' τ x us1 G1 ∧ LsR w F' rest us2 G2
  | .unit, vs, rest, x, us, G, h, hl => by
    have h' : some ((), vs) = some (x, rest) := h
    injection h' with h'; injection h' with _ h'; subst h'
    exact ⟨[], us, fun _ => False, G, rfl, fun _ h => h.elim, fun _ h => h, fun _ h => h.elim, fun F' hF _ => ⟨⟨rfl, fun _ h => h⟩, hl.sub hF⟩⟩
  | .pair a b, vs, rest, x, us, G, h, hl => by
    have h' : (match a.ofLeaves vs with
      | some (x, vs) => match b.ofLeaves vs with
        | some (y, vs) => some ((x, y), vs)
        | none => none
      | none => none) = some (x, rest) := h
    split at h'
    · rename_i x1 vs1 ha
      split at h'
      · rename_i x2 vs2 hb
        injection h' with h'; injection h' with hx hr
        subst hx; subst hr
        obtain ⟨us1, us', G1, G', he, hs1, hs', hd1, H1⟩ := ofLeaves_sound ha hl
        -- the first part may let go of blocks; read the second in what is left
        let F1 : Bs := fun n => F n ∧ (G n → G1 n ∨ G' n)
        have hF1 : ∀ n, F1 n → F n := fun n h => h.1
        have ho1 : ∀ n, G n → ¬ G1 n → ¬ G' n → ¬ F1 n := fun n h h1 h2 hf => (hf.2 h).elim h1 h2
        have hl' := (H1 F1 hF1 ho1).2
        obtain ⟨us2, us3, G2, G3, he2, hs2, hs3, hd2, H2⟩ := ofLeaves_sound hb hl'
        have hd12 : Dj G1 G2 := fun n h1 h2 => hd1 n h1 (hs2 n h2)
        have hd13 : Dj G1 G3 := fun n h1 h2 => hd1 n h1 (hs3 n h2)
        refine ⟨us1 ++ us2, us3, fun n => G1 n ∨ G2 n, G3, by rw [he, he2, List.append_assoc], ?_, fun n hn => hs' n (hs3 n hn), ?_, ?_⟩
        · rintro n (h | h)
          · exact hs1 n h
          · exact hs' n (hs2 n h)
        · rintro n (h | h) h3
          · exact hd13 n h h3
          · exact hd2 n h h3
        · intro F' hF' hout
          have hF'1 : ∀ n, F' n → F1 n := by
            intro n hn
            refine ⟨hF' n hn, fun hg => ?_⟩
            apply Classical.byContradiction
            intro hc
            have hc1 : ¬ G1 n := fun h => hc (.inl h)
            have hc2 : ¬ G' n := fun h => hc (.inr h)
            exact hout n hg (fun h => h.elim hc1 fun h => hc2 (hs2 n h)) (fun h => hc2 (hs3 n h)) hn
          have hA := (H1 F' hF' fun n hg h1 h2 => fun hn => hout n hg (fun h => h.elim h1 fun h => h2 (hs2 n h)) (fun h => h2 (hs3 n h)) hn).1
          have hB := H2 F' hF'1 fun n hg h2 h3 hn => hout n (hs' n hg) (fun h => h.elim (fun h => hd1 n h hg) h2) h3 hn
          exact ⟨⟨us1, us2, G1, G2, rfl, hA, hB.1, hd12, fun _ => Iff.rfl⟩, hB.2⟩
      · cases h'
    · cases h'
  | .int k, [], _, _, _, _, h, _ => by cases h
  | .bool, [], _, _, _, _, h, _ => by cases h
  | .sl a, [], _, _, _, _, h, _ => by cases h
  | .ow a, [], _, _, _, _, h, _ => by cases h
  | .bx a, [], _, _, _, _, h, _ => by cases h
  | .int k, v :: vs, _, _, _, _, h, hl => ofLeaves_one (τ := .int k) h hl
  | .bool, v :: vs, _, _, _, _, h, hl => ofLeaves_one (τ := .bool) h hl
  | .sl a, v :: vs, _, _, _, _, h, hl => ofLeaves_one (τ := .sl a) h hl
  | .ow a, v :: vs, _, _, _, _, h, hl => ofLeaves_one (τ := .ow a) h hl
  | .bx a, v :: vs, _, _, _, _, h, hl => ofLeaves_one (τ := .bx a) h hl

/-- Leaves that are a whole value: what is let go is no longer owned. -/
theorem ofAll_sound {w : World} {F : Bs} {τ : Ty} {vs : List V} {x : τ.den} {us : List Value} {G : Bs} (h : τ.ofAll vs = some x) (hl : LsR w F vs us G) :
    ∃ G1 : Bs, (∀ n, G1 n → G n) ∧ ∀ F' : Bs, (∀ b, F' b → F b) → (∀ b, G b → ¬ G1 b → ¬ F' b) → LR w F' τ x us G1 := by
  unfold Ty.ofAll at h
  split at h
  · rename_i x' hx
    injection h with h; subst h
    obtain ⟨us1, us2, G1, G2, he, hs1, hs2, hd, H⟩ := ofLeaves_sound hx hl
    have hE : us2 = [] ∧ Emp G2 := by
      have := (H (fun n => False) (fun _ h => h.elim) fun _ _ _ _ h => h).2
      cases this with
      | nil h => exact ⟨rfl, h⟩
    obtain ⟨rfl, hG2⟩ := hE
    rw [List.append_nil] at he
    subst he
    exact ⟨G1, hs1, fun F' hF hout => (H F' hF fun n hg h1 _ => hout n hg h1).1⟩
  · cases h

end Go.Lf

import Derived.Test.YtgfhdajbgkpgkaaLfGrow
set_option linter.unusedVariables false
/-! Lf: footprints are told by memory; leaves behind a write. -/
namespace Go.Lf

theorem append_inj_len {α : Type} {a b c d : List α} (h : a ++ b = c ++ d) (hl : a.length = c.length) : a = c ∧ b = d := List.append_inj h hl

theorem LR.uniq {w : World} {F F' : Bs} : ∀ (τ : Ty) (x : τ.den) (cs : List Value) (G H : Bs), LR w F τ x cs G → LR w F' τ x cs H → ∀ n, G n ↔ H n
  | .int _, _, _, G, H, h, h' => fun n => ⟨fun hn => absurd hn (h.2 n), fun hn => absurd hn (h'.2 n)⟩
  | .bool, _, _, G, H, h, h' => fun n => ⟨fun hn => absurd hn (h.2 n), fun hn => absurd hn (h'.2 n)⟩
  | .unit, _, _, G, H, h, h' => fun n => ⟨fun hn => absurd hn (h.2 n), fun hn => absurd hn (h'.2 n)⟩
  | .pair a b, x, cs, G, H, h, h' => by
    obtain ⟨c1, c2, G1, G2, hc, h1, h2, _, hG⟩ := h
    obtain ⟨d1, d2, H1, H2, hd, k1, k2, _, hH⟩ := h'
    obtain ⟨e1, e2⟩ := append_inj_len (hc.symm.trans hd) (by rw [LR.length a _ _ _ h1, LR.length a _ _ _ k1])
    subst e1; subst e2
    intro n
    rw [hG, hH, LR.uniq a _ _ _ _ h1 k1 n, LR.uniq b _ _ _ _ h2 k2 n]
  | .sl _, _, _, G, H, h, h' => fun n => ⟨fun hn => absurd hn (h.1 n), fun hn => absurd hn (h'.1 n)⟩
  | .ow a, l, cs, G, H, h, h' => by
    obtain ⟨u, hu, _, hA⟩ := h
    obtain ⟨u', hu', _, hB⟩ := h'
    rw [hu] at hu'; injection hu' with hu'; subst hu'
    cases hl : locOf u with
    | none =>
      rw [hl] at hA hB
      exact fun n => ⟨fun hn => absurd hn (hA.2 n), fun hn => absurd hn (hB.2 n)⟩
    | some p =>
      obtain ⟨b, off⟩ := p
      rw [hl] at hA hB
      obtain ⟨row, Gs, hr, _, hx, he, _, _, hG⟩ := hA
      obtain ⟨row', Hs, hr', _, hx', he', _, _, hH⟩ := hB
      have e := hr.eq hr'
      subst e
      have hs : ∀ i n, Gs i n ↔ Hs i n := by
        intro i n
        by_cases hi : i < l.length
        · exact LR.uniq a _ _ _ _ (hx i l[i] (List.getElem?_eq_getElem hi)) (hx' i l[i] (List.getElem?_eq_getElem hi)) n
        · exact ⟨fun hn => absurd hn (he i (Nat.not_lt.1 hi) n), fun hn => absurd hn (he' i (Nat.not_lt.1 hi) n)⟩
      intro n
      rw [hG, hH]
      exact ⟨fun h => h.imp id fun ⟨i, hi⟩ => ⟨i, (hs i n).1 hi⟩, fun h => h.imp id fun ⟨i, hi⟩ => ⟨i, (hs i n).2 hi⟩⟩
  | .bx a, x, cs, G, H, h, h' => by
    obtain ⟨b, row, G', hc, hr, hl, _, hG⟩ := h
    obtain ⟨b', row', H', hc', hr', hl', _, hH⟩ := h'
    rw [hc] at hc'; injection hc' with hc'; injection hc' with hc'; injection hc' with hc'; injection hc' with e; subst e
    have e := hr.eq hr'
    subst e
    intro n
    rw [hG, hH, LR.uniq a _ _ _ _ hl hl' n]

theorem LfR.uniq {w : World} {F F' : Bs} {v : V} {u : Value} {G H : Bs} (h : LfR w F v u G) (h' : LfR w F' v u H) : ∀ n, G n ↔ H n := by
  have he : Emp G → Emp H → ∀ n, G n ↔ H n := fun h h' n => ⟨fun hn => absurd hn (h n), fun hn => absurd hn (h' n)⟩
  cases v with
  | undef => exact he h h'
  | int => exact he h.2 h'.2
  | bool => exact he h.2 h'.2
  | nilp => exact he h.2 h'.2
  | nils => exact he h.2 h'.2
  | sl τ l => exact LR.uniq (.sl τ) l _ _ _ h h'
  | ow τ l => exact LR.uniq (.ow τ) l _ _ _ h h'
  | bx τ x => exact LR.uniq (.bx τ) x _ _ _ h h'
  | _ => exact h.elim

theorem LsR.uniq {w : World} {F F' : Bs} {vs : List V} {us : List Value} {G H : Bs} (h : LsR w F vs us G) (h' : LsR w F' vs us H) : ∀ n, G n ↔ H n := by
  induction h generalizing H with
  | nil h =>
    cases h' with
    | nil h' => exact fun n => ⟨fun hn => absurd hn (h n), fun hn => absurd hn (h' n)⟩
  | cons h1 _ _ hG ih =>
    cases h' with
    | cons k1 k2 _ hH =>
      intro n
      rw [hG, hH, LfR.uniq h1 k1 n, ih k2 n]

theorem ObR.uniq {w : World} {F F' : Bs} {o : Ob} {loc : Option (Nat × Nat)} {G H : Bs} (h : ObR w F o loc G) (h' : ObR w F' o loc H) : ∀ n, G n ↔ H n := by
  cases o with
  | box t fs =>
    obtain ⟨b, row, G', hl, hr, hls, _, hG⟩ := h
    obtain ⟨b', row', H', hl', hr', hls', _, hH⟩ := h'
    rw [hl] at hl'; injection hl' with e; injection e with e _; subst e
    have e := hr.eq hr'
    subst e
    intro n
    rw [hG, hH, hls.uniq hls' n]
  | arr a l =>
    cases loc with
    | none => exact fun n => ⟨fun hn => absurd hn (h.2 n), fun hn => absurd hn (h'.2 n)⟩
    | some p =>
      obtain ⟨b, off⟩ := p
      obtain ⟨row, Gs, hr, _, hx, he, _, _, hG⟩ := h
      obtain ⟨row', Hs, hr', _, hx', he', _, _, hH⟩ := h'
      have e := hr.eq hr'
      subst e
      have hs : ∀ i n, Gs i n ↔ Hs i n := by
        intro i n
        by_cases hi : i < l.length
        · exact LR.uniq a _ _ _ _ (hx i l[i] (List.getElem?_eq_getElem hi)) (hx' i l[i] (List.getElem?_eq_getElem hi)) n
        · exact ⟨fun hn => absurd hn (he i (Nat.not_lt.1 hi) n), fun hn => absurd hn (he' i (Nat.not_lt.1 hi) n)⟩
      intro n
      rw [hG, hH]
      exact ⟨fun h => h.imp id fun ⟨i, hi⟩ => ⟨i, (hs i n).1 hi⟩, fun h => h.imp id fun ⟨i, hi⟩ => ⟨i, (hs i n).2 hi⟩⟩

theorem LsR.get2 {w : World} {F : Bs} : ∀ {vs : List V} {us : List Value} {G : Bs}, LsR w F vs us G → ∀ (j q : Nat) (v x : V), j ≠ q → vs[j]? = some v → vs[q]? = some x →
    ∃ u G1 y G2, us[j]? = some u ∧ LfR w F v u G1 ∧ us[q]? = some y ∧ LfR w F x y G2 ∧ Dj G1 G2 ∧ (∀ n, G1 n → G n) ∧ ∀ n, G2 n → G n
  | _, _, _, .nil _, j, q, v, x, _, h, _ => by simp at h
  | _, _, _, .cons (u := u) (G1 := G1) h1 h2 hd hG, j, q, v, x, hne, hj, hq => by
    cases j with
    | zero =>
      simp at hj
      subst hj
      cases q with
      | zero => exact absurd rfl hne
      | succ q =>
        obtain ⟨y, G2, hy, hl, hs⟩ := h2.get q x (by simpa using hq)
        exact ⟨u, G1, y, G2, rfl, h1, by simpa using hy, hl, fun n hn hn' => hd n hn (hs n hn'), fun n hn => (hG n).2 (.inl hn), fun n hn => (hG n).2 (.inr (hs n hn))⟩
    | succ j =>
      cases q with
      | zero =>
        simp at hq
        subst hq
        obtain ⟨y, G2, hy, hl, hs⟩ := h2.get j v (by simpa using hj)
        exact ⟨y, G2, u, G1, by simpa using hy, hl, rfl, h1, fun n hn hn' => hd n hn' (hs n hn), fun n hn => (hG n).2 (.inr (hs n hn)), fun n hn => (hG n).2 (.inl hn)⟩
      | succ q =>
        obtain ⟨u', G1', y, G2, a1, a2, a3, a4, a5, a6, a7⟩ := LsR.get2 h2 j q v x (fun e => hne (by rw [e])) (by simpa using hj) (by simpa using hq)
        exact ⟨u', G1', y, G2, by simpa using a1, a2, by simpa using a3, a4, a5, fun n hn => (hG n).2 (.inr (a6 n hn)), fun n hn => (hG n).2 (.inr (a7 n hn))⟩

/-- Is it another leaf? -/
def apartL : Ob → Nat → Nat → Nat → Nat → Prop
  | .box _ _, _, j, _, j1 => j ≠ j1
  | .arr _ _, i, j, i1, j1 => i ≠ i1 ∨ j ≠ j1

/-- Two leaves of an object. -/
theorem leaf_rel2 {w : World} {F : Bs} {o : Ob} {loc : Option (Nat × Nat)} {G : Bs} {i j i1 j1 : Nat} {v v1 : V} (h : ObR w F o loc G) (hv : leafAt o i j = some v) (hv1 : leafAt o i1 j1 = some v1) (ha : apartL o i j i1 j1) :
    ∃ b off u G1 u1 G2, loc = some (b, off) ∧ G b ∧ w.cell? ⟨b, off + ix o i j, none⟩ = some u ∧ LfR w F v u G1 ∧ (∀ n, G1 n → G n) ∧ (∀ n, G1 n → n ≠ b) ∧
      w.cell? ⟨b, off + ix o i1 j1, none⟩ = some u1 ∧ LfR w F v1 u1 G2 ∧ (∀ n, G2 n → G n) ∧ (∀ n, G2 n → n ≠ b) ∧ Dj G1 G2 := by
  cases o with
  | box t fs =>
    obtain ⟨b, row, G', hl, hr, hls, hb, hG⟩ := h
    obtain ⟨u, G1, u1, G2, a1, a2, a3, a4, a5, a6, a7⟩ := hls.get2 j j1 v v1 ha hv hv1
    refine ⟨b, 0, u, G1, u1, G2, hl, (hG b).2 (.inl rfl), ?_, a2, fun n hn => (hG n).2 (.inr (a6 n hn)), fun n hn e => hb (e ▸ a6 n hn), ?_, a4, fun n hn => (hG n).2 (.inr (a7 n hn)), fun n hn e => hb (e ▸ a7 n hn), a5⟩
    · simp only [ix, Nat.zero_add]; exact cell_of_row hr.s (by simpa using a1)
    · simp only [ix, Nat.zero_add]; exact cell_of_row hr.s (by simpa using a3)
  | arr τ l =>
    simp only [leafAt] at hv hv1
    cases hx : l[i]? with
    | none => rw [hx] at hv; cases hv
    | some x =>
      cases hx1 : l[i1]? with
      | none => rw [hx1] at hv1; cases hv1
      | some x1 =>
        rw [hx] at hv; rw [hx1] at hv1
        cases loc with
        | none => rw [h.1] at hx; simp at hx
        | some p =>
          obtain ⟨b, off⟩ := p
          obtain ⟨row, Gs, hr, hs, hxs, he, hd, hb, hG⟩ := h
          have cell : ∀ {i q : Nat} {u : Value}, (seg row (off + i * τ.size) τ.size)[q]? = some u → w.cell? ⟨b, off + (i * τ.size + q), none⟩ = some u := by
            intro i q u hu
            rw [← Nat.add_assoc]
            exact cell_of_row hr.s (row_of_seg hu)
          by_cases e : i = i1
          · subst e
            rw [hx] at hx1; injection hx1 with hx1; subst hx1
            have hj : j ≠ j1 := by rcases ha with h | h; exact absurd rfl h; exact h
            obtain ⟨u, G1, u1, G2, a1, a2, a3, a4, a5, a6, a7⟩ := (LR.leaves τ x _ _ (hxs i x hx)).get2 j j1 v v1 hj hv hv1
            exact ⟨b, off, u, G1, u1, G2, rfl, (hG b).2 (.inl rfl), cell a1, a2, fun n hn => (hG n).2 (.inr ⟨i, a6 n hn⟩), fun n hn e => hb i (e ▸ a6 n hn), cell a3, a4, fun n hn => (hG n).2 (.inr ⟨i, a7 n hn⟩), fun n hn e => hb i (e ▸ a7 n hn), a5⟩
          · obtain ⟨u, G1, a1, a2, a6⟩ := (LR.leaves τ x _ _ (hxs i x hx)).get j v hv
            obtain ⟨u1, G2, a3, a4, a7⟩ := (LR.leaves τ x1 _ _ (hxs i1 x1 hx1)).get j1 v1 hv1
            exact ⟨b, off, u, G1, u1, G2, rfl, (hG b).2 (.inl rfl), cell a1, a2, fun n hn => (hG n).2 (.inr ⟨i, a6 n hn⟩), fun n hn e => hb i (e ▸ a6 n hn), cell a3, a4, fun n hn => (hG n).2 (.inr ⟨i1, a7 n hn⟩), fun n hn e => hb i1 (e ▸ a7 n hn), fun n hn hn' => hd i i1 e n (a6 n hn) (a7 n hn')⟩

/-! ### Leaves by their types -/

theorem kbeq_refl (k : IntKind) : kbeq k k = true := by cases k <;> rfl

theorem Ty.beq_refl : ∀ a : Ty, Ty.beq a a = true
  | .int k => kbeq_refl k
  | .bool => rfl
  | .unit => rfl
  | .pair a b => by show (a.beq a && b.beq b) = true; rw [Ty.beq_refl a, Ty.beq_refl b]; rfl
  | .sl a => Ty.beq_refl a
  | .ow a => Ty.beq_refl a
  | .bx a => Ty.beq_refl a

/-- The type of a leaf. -/
def Ty.lty : Ty → Nat → Option Ty
  | .pair a b, j => if j < a.size then a.lty j else b.lty (j - a.size)
  | .unit, _ => none
  | τ, j => if j = 0 then some τ else none

/-- A leaf of a type of one cell. -/
def isLeafOf (σ : Ty) (v : V) : Prop := ∃ z : σ.den, σ.leaves z = [v] ∧ σ.ofLeaf v = some z

theorem leaf_own : ∀ (τ : Ty) (x : τ.den) (j : Nat) (v : V), (τ.leaves x)[j]? = some v → ∃ σ, τ.lty j = some σ ∧ isLeafOf σ v
  | .int k, x, j, v, h => by
    cases j with
    | zero => injection h with h; subst h; exact ⟨.int k, rfl, x, rfl, by cases k <;> rfl⟩
    | succ j => simp [Ty.leaves] at h
  | .bool, x, j, v, h => by
    cases j with
    | zero => injection h with h; subst h; exact ⟨.bool, rfl, x, rfl, rfl⟩
    | succ j => simp [Ty.leaves] at h
  | .unit, x, j, v, h => by simp [Ty.leaves] at h
  | .pair a b, x, j, v, h => by
    have h' : (a.leaves x.1 ++ b.leaves x.2)[j]? = some v := h
    rw [List.getElem?_append, Ty.leaves_length] at h'
    unfold Ty.lty
    by_cases c : j < a.size
    · rw [if_pos c] at h' ⊢
      exact leaf_own a x.1 j v h'
    · rw [if_neg c] at h' ⊢
      exact leaf_own b x.2 _ v h'
  | .sl a, x, j, v, h => by
    cases j with
    | zero => injection h with h; subst h; exact ⟨.sl a, rfl, x, rfl, by simp [Ty.ofLeaf, Ty.beq_refl, castL_self]⟩
    | succ j => simp [Ty.leaves] at h
  | .ow a, x, j, v, h => by
    cases j with
    | zero => injection h with h; subst h; exact ⟨.ow a, rfl, x, rfl, by simp [Ty.ofLeaf, Ty.beq_refl, castL_self]⟩
    | succ j => simp [Ty.leaves] at h
  | .bx a, x, j, v, h => by
    cases j with
    | zero => injection h with h; subst h; exact ⟨.bx a, rfl, x, rfl, by simp [Ty.ofLeaf, Ty.beq_refl, castTo_self]⟩
    | succ j => simp [Ty.leaves] at h

theorem one_cell {τ : Ty} {vs rest : List V} {y : τ.den} (hn : vs ≠ []) (h : τ.ofLeaves vs = some (y, rest)) (e : ∀ v vs', τ.ofLeaves (v :: vs') = withRest (τ.ofLeaf v) vs') : ∃ v vs', vs = v :: vs' ∧ withRest (τ.ofLeaf v) vs' = some (y, rest) := by
  cases vs with
  | nil => exact absurd rfl hn
  | cons v vs => exact ⟨v, vs, rfl, (e v vs) ▸ h⟩

theorem withRest_drop {α : Type} {o : Option α} {vs rest : List V} {x : α} (h : withRest o vs = some (x, rest)) : rest = vs := by
  cases o with
  | none => cases h
  | some y => injection h with h; injection h with _ h; exact h.symm

theorem ofLeaves_drop : ∀ {a : Ty} {vs rest : List V} {x : a.den}, a.ofLeaves vs = some (x, rest) → rest = vs.drop a.size
  | .unit, vs, rest, x, h => by injection h with h; injection h with _ h; exact h.symm
  | .pair a b, vs, rest, x, h => by
    simp only [Ty.ofLeaves] at h
    split at h
    · rename_i y vs1 h1
      split at h
      · rename_i z vs2 h2
        injection h with h; injection h with _ e; subst e
        rw [ofLeaves_drop h2, ofLeaves_drop h1, List.drop_drop]
        rfl
      · cases h
    · cases h
  | .int k, [], _, _, h => by cases h
  | .bool, [], _, _, h => by cases h
  | .sl a, [], _, _, h => by cases h
  | .ow a, [], _, _, h => by cases h
  | .bx a, [], _, _, h => by cases h
  | .int k, v :: vs, rest, x, h => withRest_drop h
  | .bool, v :: vs, rest, x, h => withRest_drop h
  | .sl a, v :: vs, rest, x, h => withRest_drop h
  | .ow a, v :: vs, rest, x, h => withRest_drop h
  | .bx a, v :: vs, rest, x, h => withRest_drop h

theorem leaf_read1 (τ : Ty) (vs rest : List V) (y : τ.den) (h : ∃ v vs', vs = v :: vs' ∧ withRest (τ.ofLeaf v) vs' = some (y, rest)) (j : Nat) (hj : j < τ.size) (hs : τ.size = 1) (hz : ∀ z : τ.den, ∃ v, τ.leaves z = [v]) (hl : τ.lty 0 = some τ) :
    ∃ σ v z v', τ.lty j = some σ ∧ vs[j]? = some v ∧ σ.ofLeaf v = some z ∧ σ.leaves z = [v'] ∧ (τ.leaves y)[j]? = some v' := by
  have e : j = 0 := by omega
  subst e
  obtain ⟨v, vs', rfl, hw⟩ := h
  cases ho : τ.ofLeaf v with
  | none => rw [ho] at hw; cases hw
  | some z =>
    rw [ho] at hw
    injection hw with hw; injection hw with e1 e2; subst e1
    obtain ⟨v', hv'⟩ := hz z
    exact ⟨τ, v, z, v', hl, rfl, ho, hv', by rw [hv']; rfl⟩

/-- A leaf's type has one cell. -/
theorem Ty.lty_leaf : ∀ {τ : Ty} {j : Nat} {σ : Ty}, τ.lty j = some σ → match σ with | .pair _ _ => False | .unit => False | _ => True
  | .pair a b, j, σ, h => by
    unfold Ty.lty at h
    split at h
    · exact Ty.lty_leaf h
    · exact Ty.lty_leaf h
  | .unit, j, σ, h => by cases h
  | .int k, j, σ, h => by unfold Ty.lty at h; split at h <;> first | (injection h with h; subst h; trivial) | cases h
  | .bool, j, σ, h => by unfold Ty.lty at h; split at h <;> first | (injection h with h; subst h; trivial) | cases h
  | .sl a, j, σ, h => by unfold Ty.lty at h; split at h <;> first | (injection h with h; subst h; trivial) | cases h
  | .ow a, j, σ, h => by unfold Ty.lty at h; split at h <;> first | (injection h with h; subst h; trivial) | cases h
  | .bx a, j, σ, h => by unfold Ty.lty at h; split at h <;> first | (injection h with h; subst h; trivial) | cases h

/-- A leaf of what has been read out of leaves. -/
theorem leaf_read : ∀ (τ : Ty) (vs rest : List V) (y : τ.den), τ.ofLeaves vs = some (y, rest) → ∀ j, j < τ.size → ∃ σ v z v', τ.lty j = some σ ∧ vs[j]? = some v ∧ σ.ofLeaf v = some z ∧ σ.leaves z = [v'] ∧ (τ.leaves y)[j]? = some v'
  | .pair a b, vs, rest, y, h, j, hj => by
    have hs : (Ty.pair a b).size = a.size + b.size := rfl
    simp only [Ty.ofLeaves] at h
    split at h
    · rename_i x vs1 h1
      split at h
      · rename_i z vs2 h2
        injection h with h; injection h with e1 e2; subst e1; subst e2
        have hl : (a.leaves x).length = a.size := Ty.leaves_length a x
        by_cases c : j < a.size
        · obtain ⟨σ, v, z', v', a1, a2, a3, a4, a5⟩ := leaf_read a vs vs1 x h1 j c
          refine ⟨σ, v, z', v', ?_, a2, a3, a4, ?_⟩
          · unfold Ty.lty; rw [if_pos c]; exact a1
          · show (a.leaves x ++ b.leaves z)[j]? = _
            rw [List.getElem?_append, hl, if_pos c]; exact a5
        · obtain ⟨σ, v, z', v', a1, a2, a3, a4, a5⟩ := leaf_read b vs1 vs2 z h2 (j - a.size) (by omega)
          refine ⟨σ, v, z', v', ?_, ?_, a3, a4, ?_⟩
          · unfold Ty.lty; rw [if_neg c]; exact a1
          · have := ofLeaves_drop h1
            rw [this, List.getElem?_drop] at a2
            have e : a.size + (j - a.size) = j := by omega
            rw [e] at a2
            exact a2
          · show (a.leaves x ++ b.leaves z)[j]? = _
            rw [List.getElem?_append, hl, if_neg c]; exact a5
      · cases h
    · cases h
  | .unit, vs, rest, y, h, j, hj => by cases hj
  | .int k, vs, rest, y, h, j, hj => leaf_read1 (.int k) vs rest y (one_cell (fun e => by rw [e] at h; cases h) h (fun _ _ => rfl)) j hj rfl (fun z => ⟨_, rfl⟩) rfl
  | .bool, vs, rest, y, h, j, hj => leaf_read1 .bool vs rest y (one_cell (fun e => by rw [e] at h; cases h) h (fun _ _ => rfl)) j hj rfl (fun z => ⟨_, rfl⟩) rfl
  | .sl a, vs, rest, y, h, j, hj => leaf_read1 (.sl a) vs rest y (one_cell (fun e => by rw [e] at h; cases h) h (fun _ _ => rfl)) j hj rfl (fun z => ⟨_, rfl⟩) rfl
  | .ow a, vs, rest, y, h, j, hj => leaf_read1 (.ow a) vs rest y (one_cell (fun e => by rw [e] at h; cases h) h (fun _ _ => rfl)) j hj rfl (fun z => ⟨_, rfl⟩) rfl
  | .bx a, vs, rest, y, h, j, hj => leaf_read1 (.bx a) vs rest y (one_cell (fun e => by rw [e] at h; cases h) h (fun _ _ => rfl)) j hj rfl (fun z => ⟨_, rfl⟩) rfl

theorem leaf_read_all {τ : Ty} {vs : List V} {y : τ.den} (h : τ.ofAll vs = some y) : ∀ j, j < τ.size → ∃ σ v z v', τ.lty j = some σ ∧ vs[j]? = some v ∧ σ.ofLeaf v = some z ∧ σ.leaves z = [v'] ∧ (τ.leaves y)[j]? = some v' := by
  unfold Ty.ofAll at h
  split at h
  · rename_i x hx
    injection h with h; subst h
    exact leaf_read τ vs [] x hx
  · cases h

/-- A leaf that is read back as it was. -/
theorem leaf_same {τ : Ty} {x y : τ.den} {vs : List V} (h : τ.ofAll vs = some y) {j : Nat} {v : V} (hx : (τ.leaves x)[j]? = some v) (hv : vs[j]? = some v) : (τ.leaves y)[j]? = some v := by
  have hj : j < τ.size := by rw [← Ty.leaves_length τ x]; exact (List.getElem?_eq_some_iff.1 hx).1
  obtain ⟨σ, hσ, z, hz, hr⟩ := leaf_own τ x j v hx
  obtain ⟨σ', w, z', v', h1, h2, h3, h4, h5⟩ := leaf_read_all h j hj
  rw [hσ] at h1; injection h1 with h1; subst h1
  rw [hv] at h2; injection h2 with h2; subst h2
  rw [hr] at h3; injection h3 with h3; subst h3
  rw [hz] at h4; injection h4 with h4; subst h4
  exact h5

/-- An owned leaf that is read back where one like it was. -/
theorem leaf_rest {τ : Ty} {x y : τ.den} {vs : List V} (h : τ.ofAll vs = some y) {j : Nat} {v v' : V} {o' : Ob} (hx : (τ.leaves x)[j]? = some v) (hv : vs[j]? = some v') (hr : o'.rest v = some v') : (τ.leaves y)[j]? = some v' := by
  have hj : j < τ.size := by rw [← Ty.leaves_length τ x]; exact (List.getElem?_eq_some_iff.1 hx).1
  obtain ⟨σ, hσ, z, hz, _⟩ := leaf_own τ x j v hx
  obtain ⟨σ', w, z', w', h1, h2, h3, h4, h5⟩ := leaf_read_all h j hj
  rw [hσ] at h1; injection h1 with h1; subst h1
  rw [hv] at h2; injection h2 with h2; subst h2
  rw [h5]
  congr 1
  unfold Ob.rest at hr
  split at hr
  · rename_i a l a' l'
    injection hr with hr; subst hr
    cases σ with
    | ow b =>
      injection hz with hz _; injection hz with e1 e2; subst e1
      simp only [Ty.ofLeaf] at h3
      split at h3
      · rename_i hb
        have e := Ty.beq_eq hb
        subst e
        injection h3 with h3; subst h3
        rw [castL_self] at h4
        injection h4 with h4 _
        exact h4.symm
      · cases h3
    | pair b c =>
      have := Ty.lty_leaf hσ
      exact this.elim
    | unit => exact (Ty.lty_leaf hσ).elim
    | int k => injection hz with hz _; cases hz
    | bool => injection hz with hz _; cases hz
    | sl b => injection hz with hz _; cases hz
    | bx b => injection hz with hz _; cases hz
  · rename_i t fs a x0
    split at hr
    · rename_i x1 hx1
      injection hr with hr; subst hr
      cases σ with
      | bx b =>
        injection hz with hz _; injection hz with e1 e2; subst e1
        simp only [Ty.ofLeaf] at h3
        split at h3
        · rename_i hb
          have e := Ty.beq_eq hb
          injection h3 with h3; subst h3
          rw [castTo_self] at h4
          injection h4 with h4 _
          exact h4.symm
        · cases h3
      | pair b c => exact (Ty.lty_leaf hσ).elim
      | unit => exact (Ty.lty_leaf hσ).elim
      | int k => injection hz with hz _; cases hz
      | bool => injection hz with hz _; cases hz
      | sl b => injection hz with hz _; cases hz
      | ow b => injection hz with hz _; cases hz
    · cases hr
  · cases hr

end Go.Lf

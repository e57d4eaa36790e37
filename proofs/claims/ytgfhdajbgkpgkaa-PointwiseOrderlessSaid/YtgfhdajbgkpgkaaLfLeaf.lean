import Derived.Test.YtgfhdajbgkpgkaaLfRel
set_option linter.unusedVariables false
/-! Lf: cells and leaves. -/
namespace Go.Lf

theorem castL_self {a : Ty} (h : Ty.beq a a = true) (l : List a.den) : castL h l = l := rfl
theorem castTo_self {a : Ty} (h : Ty.beq a a = true) (x : a.den) : castTo h x = x := rfl

theorem Stay.less' {w : World} {F F' G : Bs} (h : ∀ b, F' b → F b) : Stay w F w F' G := ⟨Nat.le_refl _, fun _ _ => rfl, fun _ _ _ => rfl, fun b hb => .inl (h b hb)⟩

theorem LR.sub {w : World} {F F' : Bs} {τ : Ty} {x : τ.den} {cs : List Value} {G : Bs} (h : LR w F τ x cs G) (hF : ∀ b, F' b → F b) : LR w F' τ x cs G :=
  LR.keep τ x cs G h (Stay.less' hF)

theorem LR.plain {w : World} {F : Bs} : ∀ (τ : Ty) (x : τ.den) (cs : List Value) (G : Bs), τ.plain = true → LR w F τ x cs G → Emp G
  | .int _, _, _, _, _, h => h.2
  | .bool, _, _, _, _, h => h.2
  | .unit, _, _, _, _, h => h.2
  | .pair a b, x, _, _, hp, ⟨c1, c2, G1, G2, hc, h1, h2, hd, hG⟩ => by
    have hp' : (a.plain && b.plain) = true := hp
    rw [Bool.and_eq_true] at hp'
    intro n hn
    rcases (hG n).1 hn with h | h
    · exact LR.plain a _ _ _ hp'.1 h1 n h
    · exact LR.plain b _ _ _ hp'.2 h2 n h
  | .sl a, _, _, _, _, h => h.1
  | .ow a, _, _, _, hp, _ => by cases hp
  | .bx a, _, _, _, hp, _ => by cases hp

/-- A leaf at rest. -/
def LfR (w : World) (F : Bs) (v : V) (u : Value) (G : Bs) : Prop :=
  match v with
  | .undef => Emp G
  | .int k n => u = .int k n ∧ Emp G
  | .bool b => u = .bool b ∧ Emp G
  | .nilp => u = .pointer none ∧ Emp G
  | .nils => (∃ ad, u = .slice ad 0 0) ∧ Emp G
  | .sl τ l => LR w F (.sl τ) l [u] G
  | .ow τ l => LR w F (.ow τ) l [u] G
  | .bx τ x => LR w F (.bx τ) x [u] G
  | _ => False

theorem LfR.keep {w w' : World} {F F' : Bs} {v : V} {u : Value} {G : Bs} (h : LfR w F v u G) (hs : Stay w F w' F' G) : LfR w' F' v u G := by
  cases v with
  | sl τ l => exact LR.keep (.sl τ) l [u] G h hs
  | ow τ l => exact LR.keep (.ow τ) l [u] G h hs
  | bx τ x => exact LR.keep (.bx τ) x [u] G h hs
  | _ => exact h

theorem LfR.sub {w : World} {F F' : Bs} {v : V} {u : Value} {G : Bs} (h : LfR w F v u G) (hF : ∀ b, F' b → F b) : LfR w F' v u G := h.keep (Stay.less' hF)

theorem LfR.iff {w : World} {F : Bs} {v : V} {u : Value} {G H : Bs} (h : LfR w F v u G) (e : ∀ n, H n ↔ G n) : LfR w F v u H := by
  have he : Emp G → Emp H := fun hG n hn => hG n ((e n).1 hn)
  cases v with
  | sl τ l => exact LR.iff (.sl τ) l [u] G H h e
  | ow τ l => exact LR.iff (.ow τ) l [u] G H h e
  | bx τ x => exact LR.iff (.bx τ) x [u] G H h e
  | undef => exact he h
  | int => exact ⟨h.1, he h.2⟩
  | bool => exact ⟨h.1, he h.2⟩
  | nilp => exact ⟨h.1, he h.2⟩
  | nils => exact ⟨h.1, he h.2⟩
  | _ => exact h

theorem LfR.lt {w : World} {F : Bs} {v : V} {u : Value} {G : Bs} (h : LfR w F v u G) : ∀ b, G b → b < w.heap.size := by
  intro b hb
  cases v with
  | sl τ l => exact LR.lt (.sl τ) l [u] G h b hb
  | ow τ l => exact LR.lt (.ow τ) l [u] G h b hb
  | bx τ x => exact LR.lt (.bx τ) x [u] G h b hb
  | undef => exact absurd hb (h b)
  | int => exact absurd hb (h.2 b)
  | bool => exact absurd hb (h.2 b)
  | nilp => exact absurd hb (h.2 b)
  | nils => exact absurd hb (h.2 b)
  | agg => exact h.elim
  | tup => exact h.elim
  | ip => exact h.elim
  | hs => exact h.elim
  | hp => exact h.elim
  | fn => exact h.elim

inductive LsR (w : World) (F : Bs) : List V → List Value → Bs → Prop
  | nil {G : Bs} : Emp G → LsR w F [] [] G
  | cons {v : V} {u : Value} {vs : List V} {us : List Value} {G G1 G2 : Bs} : LfR w F v u G1 → LsR w F vs us G2 → Dj G1 G2 → (∀ n, G n ↔ G1 n ∨ G2 n) → LsR w F (v :: vs) (u :: us) G

theorem LsR.length {w : World} {F : Bs} {vs : List V} {us : List Value} {G : Bs} (h : LsR w F vs us G) : us.length = vs.length := by
  induction h with
  | nil => rfl
  | cons _ _ _ _ ih => simp [ih]

theorem LsR.keep {w w' : World} {F F' : Bs} {vs : List V} {us : List Value} {G : Bs} (h : LsR w F vs us G) (hs : Stay w F w' F' G) : LsR w' F' vs us G := by
  induction h with
  | nil h => exact .nil h
  | cons h1 _ hd hG ih => exact .cons (h1.keep (hs.mono fun n hn => (hG n).2 (.inl hn))) (ih (hs.mono fun n hn => (hG n).2 (.inr hn))) hd hG

theorem LsR.sub {w : World} {F F' : Bs} {vs : List V} {us : List Value} {G : Bs} (h : LsR w F vs us G) (hF : ∀ b, F' b → F b) : LsR w F' vs us G := h.keep (Stay.less' hF)

theorem LsR.iff {w : World} {F : Bs} {vs : List V} {us : List Value} {G H : Bs} (h : LsR w F vs us G) (e : ∀ n, H n ↔ G n) : LsR w F vs us H := by
  cases h with
  | nil h => exact .nil fun n hn => h n ((e n).1 hn)
  | cons h1 h2 hd hG => exact .cons h1 h2 hd fun n => (e n).trans (hG n)

theorem LsR.lt {w : World} {F : Bs} {vs : List V} {us : List Value} {G : Bs} (h : LsR w F vs us G) : ∀ b, G b → b < w.heap.size := by
  induction h with
  | nil h => exact fun b hb => absurd hb (h b)
  | cons h1 _ _ hG ih =>
    intro b hb
    rcases (hG b).1 hb with h | h
    · exact h1.lt b h
    · exact ih b h

theorem LsR.append {w : World} {F : Bs} {vs vs' : List V} {us us' : List Value} {G1 G2 : Bs} (h : LsR w F vs us G1) (h' : LsR w F vs' us' G2) (hd : Dj G1 G2) :
    LsR w F (vs ++ vs') (us ++ us') (fun n => G1 n ∨ G2 n) := by
  induction h with
  | nil he => exact h'.iff fun n => ⟨fun hn => hn.resolve_left (he n), .inr⟩
  | cons h1 _ hd' hG ih =>
    rename_i Gt Ga Gb _
    have hdb : Dj Gb G2 := fun b hb hb' => hd b ((hG b).2 (.inr hb)) hb'
    refine .cons h1 (ih hdb) ?_ ?_
    · intro b hb hb'
      rcases hb' with h | h
      · exact hd' b hb h
      · exact hd b ((hG b).2 (.inl hb)) h
    · intro n
      constructor
      · rintro (h | h)
        · rcases (hG n).1 h with h | h
          · exact .inl h
          · exact .inr (.inl h)
        · exact .inr (.inr h)
      · rintro (h | h | h)
        · exact .inl ((hG n).2 (.inl h))
        · exact .inl ((hG n).2 (.inr h))
        · exact .inr h

theorem LsR.split {w : World} {F : Bs} : ∀ {vs vs' : List V} {us : List Value} {G : Bs}, LsR w F (vs ++ vs') us G →
    ∃ us1 us2 G1 G2, us = us1 ++ us2 ∧ LsR w F vs us1 G1 ∧ LsR w F vs' us2 G2 ∧ Dj G1 G2 ∧ ∀ n, G n ↔ G1 n ∨ G2 n
  | [], vs', us, G, h => ⟨[], us, fun _ => False, G, rfl, .nil (fun _ h => h), h, fun _ h => h.elim, fun n => ⟨.inr, fun h => h.resolve_left id⟩⟩
  | v :: vs, vs', _, G, h => by
    cases h with
    | cons h1 h2 hd hG =>
      rename_i u us Ga Gb
      obtain ⟨us1, us2, G1, G2, he, ha, hb, hd2, hG2⟩ := LsR.split (vs := vs) h2
      refine ⟨u :: us1, us2, fun n => Ga n ∨ G1 n, G2, by rw [he]; rfl, .cons h1 ha (fun b hb hb' => hd b hb ((hG2 b).2 (.inl hb'))) (fun n => Iff.rfl), hb, ?_, ?_⟩
      · rintro b (h | h) hb'
        · exact hd b h ((hG2 b).2 (.inr hb'))
        · exact hd2 b h hb'
      · intro n
        constructor
        · intro h
          rcases (hG n).1 h with h | h
          · exact .inl (.inl h)
          · rcases (hG2 n).1 h with h | h
            · exact .inl (.inr h)
            · exact .inr h
        · rintro ((h | h) | h)
          · exact (hG n).2 (.inl h)
          · exact (hG n).2 (.inr ((hG2 n).2 (.inl h)))
          · exact (hG n).2 (.inr ((hG2 n).2 (.inr h)))

theorem LsR.one {w : World} {F : Bs} {v : V} {u : Value} {G : Bs} (h : LfR w F v u G) : LsR w F [v] [u] G :=
  .cons h (.nil (G := fun _ => False) fun _ h => h) (fun _ _ h => h) fun n => ⟨.inl, fun h => h.resolve_right id⟩

theorem LsR.one_inv {w : World} {F : Bs} {v : V} {us : List Value} {G : Bs} (h : LsR w F [v] us G) : ∃ u, us = [u] ∧ LfR w F v u G := by
  cases h with
  | cons h1 h2 hd hG =>
    cases h2 with
    | nil he => exact ⟨_, rfl, h1.iff fun n => ⟨fun hn => ((hG n).1 hn).resolve_right (he n), fun hn => (hG n).2 (.inl hn)⟩⟩

theorem LR.leaves {w : World} {F : Bs} : ∀ (τ : Ty) (x : τ.den) (cs : List Value) (G : Bs), LR w F τ x cs G → LsR w F (τ.leaves x) cs G
  | .int _, _, _, _, ⟨rfl, he⟩ => LsR.one ⟨rfl, he⟩
  | .bool, _, _, _, ⟨rfl, he⟩ => LsR.one ⟨rfl, he⟩
  | .unit, _, _, _, ⟨rfl, he⟩ => .nil he
  | .pair a b, x, _, _, ⟨c1, c2, G1, G2, hc, h1, h2, hd, hG⟩ => by
    subst hc
    exact ((LR.leaves a _ _ _ h1).append (LR.leaves b _ _ _ h2) hd).iff hG
  | .sl a, l, _, G, h => by
    obtain ⟨he, ad, cap, rfl, r⟩ := h
    exact LsR.one (v := .sl a l) (G := G) ⟨he, ad, cap, rfl, r⟩
  | .ow a, l, _, G, h => by
    obtain ⟨u, rfl, r⟩ := h
    exact LsR.one (v := .ow a l) (G := G) ⟨u, rfl, r⟩
  | .bx a, x, _, G, h => by
    obtain ⟨b, row, G', rfl, r⟩ := h
    exact LsR.one (v := .bx a x) (G := G) ⟨b, row, G', rfl, r⟩

theorem Ty.leaves_length : ∀ (τ : Ty) (x : τ.den), (τ.leaves x).length = τ.size
  | .int _, _ | .bool, _ | .unit, _ | .sl _, _ | .ow _, _ | .bx _, _ => rfl
  | .pair a b, x => by simp only [Ty.leaves, List.length_append, Ty.leaves_length a, Ty.leaves_length b]; rfl

/-- What of a footprint is let go when a leaf is read as a value of type τ. -/
theorem ofLeaf_sound {w : World} {F : Bs} {τ : Ty} {v : V} {x : τ.den} {u : Value} {G : Bs} (h : τ.ofLeaf v = some x) (hl : LfR w F v u G) :
    ∃ G1 : Bs, (∀ n, G1 n → G n) ∧ ∀ F' : Bs, (∀ b, F' b → F b) → (∀ b, G b → ¬ G1 b → ¬ F' b) → LR w F' τ x [u] G1 := by
  unfold Ty.ofLeaf at h
  split at h
  · split at h
    · rename_i k k' n hk
      have := kbeq_eq hk
      subst this
      injection h with h; subst h
      exact ⟨G, fun _ h => h, fun _ _ _ => ⟨by rw [hl.1], hl.2⟩⟩
    · cases h
  · injection h with h; subst h
    exact ⟨G, fun _ h => h, fun _ _ _ => ⟨by rw [hl.1], hl.2⟩⟩
  · split at h
    · rename_i a a' l hk
      have := Ty.beq_eq hk
      subst this
      injection h with h; subst h
      exact ⟨G, fun _ h => h, fun F' hF _ => LR.sub (τ := .sl a') hl hF⟩
    · cases h
  · split at h
    · split at h
      · rename_i a a' l hk hp
        have := Ty.beq_eq hk
        subst this
        injection h with h; subst h
        refine ⟨fun _ => False, fun _ h => h.elim, fun F' hF hout => ⟨fun _ h => h, ?_⟩⟩
        obtain ⟨u', hu, ⟨ad, cap, hu', hh⟩, ha⟩ := hl
        injection hu with hu; subst hu
        rw [castL_self]
        have hcap : l.length ≤ cap := by
          rcases hh with ⟨h0, _⟩ | ⟨_, _, _, _, _, _, hn, _⟩
          · omega
          · exact hn
        refine ⟨ad, cap - l.length, by rw [hu', Nat.add_sub_cancel' hcap], ?_⟩
        cases hl : locOf u with
        | none => rw [hl] at ha; exact .inl ha.1
        | some p =>
          obtain ⟨b, off⟩ := p
          rw [hl] at ha
          obtain ⟨row, Gs, hr, hs, hx, he, hd, hb, hG⟩ := ha
          rcases hh with ⟨h0, hc⟩ | ⟨b', o, row', hl', hr', had, hn, hs'⟩
          · exact .inl (List.eq_nil_of_length_eq_zero h0)
          · rw [hl] at hl'
            injection hl' with hl'; injection hl' with h1 h2; subst h1; subst h2
            refine .inr ⟨b, off, row, by simpa using had, hout b ((hG b).2 (.inl rfl)) id, hr.s, hs, fun i x hi => ?_⟩
            exact ⟨Gs i, LR.plain a' _ _ _ hp (hx i x hi), (hx i x hi).sub hF⟩
      · cases h
    · cases h
  · injection h with h; subst h
    obtain ⟨⟨ad, hu⟩, he⟩ := hl
    exact ⟨G, fun _ h => h, fun _ _ _ => ⟨he, ad, 0, by rw [hu]; rfl, .inl rfl⟩⟩
  · split at h
    · rename_i a a' l hk
      have := Ty.beq_eq hk
      subst this
      injection h with h; subst h
      exact ⟨G, fun _ h => h, fun F' hF _ => LR.sub (τ := .ow a') hl hF⟩
    · cases h
  · injection h with h; subst h
    obtain ⟨⟨ad, hu⟩, he⟩ := hl
    subst hu
    refine ⟨G, fun _ h => h, fun _ _ _ => ⟨_, rfl, ⟨ad, 0, rfl, .inl ⟨rfl, rfl⟩⟩, ?_⟩⟩
    have : locOf (.slice ad 0 0) = none := by cases ad <;> rfl
    rw [this]
    exact ⟨rfl, he⟩
  · split at h
    · rename_i a a' x hk
      have := Ty.beq_eq hk
      subst this
      injection h with h; subst h
      exact ⟨G, fun _ h => h, fun F' hF _ => LR.sub (τ := .bx a') hl hF⟩
    · cases h
  · cases h

end Go.Lf

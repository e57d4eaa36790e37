import Derived.Test.YtgfhdajbgkpgkaaLfOpsE
set_option linter.unusedVariables false
/-! Lf: what is taken out of the objects. -/
namespace Go.Lf

theorem get_put {α : Type} (k : Nat) (x : α) : ∀ l : List (Nat × α), get k (put k x l) = some x
  | [] => by simp [put, get]
  | (j, y) :: l => by
    unfold put
    cases h : Nat.beq j k with
    | true => simp [get]
    | false => simp [get, h, get_put k x l]

theorem get_put_ne {α : Type} {k q : Nat} (x : α) (h : k ≠ q) : ∀ l : List (Nat × α), get q (put k x l) = get q l
  | [] => by
    have : Nat.beq k q = false := by cases e : Nat.beq k q with | true => exact absurd (Nat.eq_of_beq_eq_true e) h | false => rfl
    simp [put, get, this]
  | (j, y) :: l => by
    unfold put
    cases e : Nat.beq j k with
    | true =>
      have e1 := Nat.eq_of_beq_eq_true e
      subst e1
      have : Nat.beq j q = false := by cases e : Nat.beq j q with | true => exact absurd (Nat.eq_of_beq_eq_true e) h | false => rfl
      simp [get, this]
    | false =>
      simp only [cond, get]
      rw [get_put_ne x h l]

theorem get_del {α : Type} (k : Nat) : ∀ l : List (Nat × α), get k (del k l) = none
  | [] => rfl
  | (j, y) :: l => by
    unfold del
    cases h : Nat.beq j k with
    | true => exact get_del k l
    | false => simp [get, h, get_del k l]

theorem get_del_ne {α : Type} {k q : Nat} (h : k ≠ q) : ∀ l : List (Nat × α), get q (del k l) = get q l
  | [] => rfl
  | (j, y) :: l => by
    unfold del
    cases e : Nat.beq j k with
    | true =>
      have e1 := Nat.eq_of_beq_eq_true e
      subst e1
      have : Nat.beq j q = false := by cases e : Nat.beq j q with | true => exact absurd (Nat.eq_of_beq_eq_true e) h | false => rfl
      simp only [cond]
      rw [get_del_ne h l]
      simp [get, this]
    | false =>
      simp only [cond, get]
      rw [get_del_ne h l]

theorem applyD_append : ∀ (d d' : Delta) (obs : List (Nat × Ob)), applyD (d ++ d') obs = applyD d' (applyD d obs)
  | [], _, _ => rfl
  | (k, some o) :: d, d', obs => applyD_append d d' (put k o obs)
  | (k, none) :: d, d', obs => applyD_append d d' (del k obs)

theorem keysOf_append : ∀ (d d' : Delta), keysOf (d ++ d') = keysOf d ++ keysOf d'
  | [], _ => rfl
  | (k, _) :: d, d' => by simp [keysOf, keysOf_append d d']

theorem get_applyD {q : Nat} : ∀ (d : Delta) (obs : List (Nat × Ob)), q ∉ keysOf d → get q (applyD d obs) = get q obs
  | [], _, _ => rfl
  | (k, some o) :: d, obs, h => by
    have h1 : k ≠ q := fun e => h (by simp [keysOf, e])
    have h2 : q ∉ keysOf d := fun e => h (by simp [keysOf, e])
    show get q (applyD d (put k o obs)) = _
    rw [get_applyD d _ h2, get_put_ne o h1]
  | (k, none) :: d, obs, h => by
    have h1 : k ≠ q := fun e => h (by simp [keysOf, e])
    have h2 : q ∉ keysOf d := fun e => h (by simp [keysOf, e])
    show get q (applyD d (del k obs)) = _
    rw [get_applyD d _ h2, get_del_ne h1]

/-- What lies at the keys of d behind d doesn't hang on the rest. -/
theorem get_applyD_congr {q : Nat} : ∀ (d : Delta) (obs obs' : List (Nat × Ob)), get q obs' = get q obs → get q (applyD d obs') = get q (applyD d obs)
  | [], _, _, h => h
  | (k, some o) :: d, obs, obs', h => by
    refine get_applyD_congr d _ _ ?_
    by_cases e : k = q
    · subst e; rw [get_put, get_put]
    · rw [get_put_ne o e, get_put_ne o e, h]
  | (k, none) :: d, obs, obs', h => by
    refine get_applyD_congr d _ _ ?_
    by_cases e : k = q
    · subst e; rw [get_del, get_del]
    · rw [get_del_ne e, get_del_ne e, h]

/-- Objects: FA: what no shared cell lies in. -/
structure ObsA (w : World) (E FA F : Bs) (β : Nat → Option (Nat × Nat)) (obs : List (Nat × Ob)) (Gk : Nat → Bs) : Prop where
  rel : ∀ k o, get k obs = some o → ObR w FA o (β k) (Gk k)
  dj : ∀ k k' o o', get k obs = some o → get k' obs = some o' → k ≠ k' → Dj (Gk k) (Gk k')
  cov : ∀ b, F b ↔ E b ∨ ∃ k o, get k obs = some o ∧ Gk k b
  out : ∀ k o, get k obs = some o → Dj (Gk k) E
  elt : ∀ b, E b → b < w.heap.size

theorem ObsR.a {w : World} {E : Bs} {F : Bs} {β : Nat → Option (Nat × Nat)} {obs : List (Nat × Ob)} {Gk : Nat → Bs} (h : ObsR w E F β obs Gk) : ObsA w E F F β obs Gk := ⟨h.rel, h.dj, h.cov, h.out, h.elt⟩
theorem ObsA.r {w : World} {E : Bs} {F : Bs} {β : Nat → Option (Nat × Nat)} {obs : List (Nat × Ob)} {Gk : Nat → Bs} (h : ObsA w E F F β obs Gk) : ObsR w E F β obs Gk := ⟨h.rel, h.dj, h.cov, h.out, h.elt⟩

structure Took (w : World) (E : Bs) (β : Nat → Option (Nat × Nat)) (FA F : Bs) (obs : List (Nat × Ob)) (FA1 F1 G : Bs) (obs1 : List (Nat × Ob)) (Gk1 : Nat → Bs) : Prop where
  ob : ObsA w E FA1 F1 β obs1 Gk1
  sub : ∀ b, FA1 b → FA b
  lost : ∀ b, FA b → ¬ FA1 b → F b ∧ ¬ F1 b ∧ ¬ G b
  less : ∀ b, F1 b → F b
  got : ∀ b, G b → F b
  dj : Dj G F1
  keep : ∀ r, RefKeep w β obs w β obs1 r

theorem Ob.like.trans {a b c : Ob} (h : a.like b) (k : b.like c) : a.like c := by
  cases a <;> cases b <;> cases c <;> first | trivial | exact h.elim | exact k.elim | exact ⟨h.1.trans k.1, h.2.trans k.2⟩

theorem RefKeep.trans {w w' w'' : World} {β β' β'' : Nat → Option (Nat × Nat)} {obs obs' obs'' : List (Nat × Ob)} {r : Ref} (h : RefKeep w β obs w' β' obs' r) (k : RefKeep w' β' obs' w'' β'' obs'' r) : RefKeep w β obs w'' β'' obs'' r := by
  intro o'' loc h2
  obtain ⟨o', h1, l1, s1⟩ := k o'' loc h2
  obtain ⟨o, h0, l0, s0⟩ := h o' loc h1
  refine ⟨o, h0, l0.trans l1, fun b off hl row hr => ?_⟩
  obtain ⟨row', hr', hs'⟩ := s0 b off hl row hr
  obtain ⟨row'', hr'', hs''⟩ := s1 b off hl row' hr'
  exact ⟨row'', hr'', hs''.trans hs'⟩

theorem Took.refl {w : World} {E : Bs} {β : Nat → Option (Nat × Nat)} {FA F : Bs} {obs : List (Nat × Ob)} {Gk : Nat → Bs} (h : ObsA w E FA F β obs Gk) : Took w E β FA F obs FA F (fun _ => False) obs Gk :=
  ⟨h, fun _ h => h, fun _ h h' => absurd h h', fun _ h => h, fun _ h => h.elim, fun _ h => h.elim, fun r => RefKeep.refl w β obs r⟩

theorem Took.trans {w : World} {E : Bs} {β : Nat → Option (Nat × Nat)} {FA F FA1 F1 G1 FA2 F2 G2 : Bs} {obs obs1 obs2 : List (Nat × Ob)} {Gk1 Gk2 : Nat → Bs}
    (h : Took w E β FA F obs FA1 F1 G1 obs1 Gk1) (k : Took w E β FA1 F1 obs1 FA2 F2 G2 obs2 Gk2) : Took w E β FA F obs FA2 F2 (fun b => G1 b ∨ G2 b) obs2 Gk2 := by
  refine ⟨k.ob, fun b hb => h.sub b (k.sub b hb), fun b hb hn => ?_, fun b hb => h.less b (k.less b hb), fun b hb => hb.elim (h.got b) fun hb => h.less b (k.got b hb), fun b hb h2 => ?_, fun r => (h.keep r).trans (k.keep r)⟩
  · by_cases c : FA1 b
    · obtain ⟨h1, h2, h3⟩ := k.lost b c hn
      exact ⟨h.less b h1, h2, fun hg => hg.elim (fun hg => h.dj b hg h1) h3⟩
    · obtain ⟨h1, h2, h3⟩ := h.lost b hb c
      exact ⟨h1, fun h' => h2 (k.less b h'), fun hg => hg.elim h3 fun hg => h2 (k.got b hg)⟩
  · rcases hb with hb | hb
    · exact h.dj b hb (k.less b h2)
    · exact k.dj b hb h2

theorem Took.djG {w : World} {E : Bs} {β : Nat → Option (Nat × Nat)} {FA F FA1 F1 G1 FA2 F2 G2 : Bs} {obs obs1 obs2 : List (Nat × Ob)} {Gk1 Gk2 : Nat → Bs}
    (h : Took w E β FA F obs FA1 F1 G1 obs1 Gk1) (k : Took w E β FA1 F1 obs1 FA2 F2 G2 obs2 Gk2) : Dj G1 G2 := fun b hb h2 => h.dj b hb (k.got b h2)

theorem Took.iff {w : World} {E : Bs} {β : Nat → Option (Nat × Nat)} {FA F FA1 F1 G G' : Bs} {obs obs1 : List (Nat × Ob)} {Gk1 : Nat → Bs} (h : Took w E β FA F obs FA1 F1 G obs1 Gk1) (e : ∀ b, G' b ↔ G b) : Took w E β FA F obs FA1 F1 G' obs1 Gk1 :=
  ⟨h.ob, h.sub, fun b hb hn => let ⟨h1, h2, h3⟩ := h.lost b hb hn; ⟨h1, h2, fun h => h3 ((e b).1 h)⟩, h.less, fun b hb => h.got b ((e b).1 hb), fun b hb => h.dj b ((e b).1 hb), h.keep⟩

/-- Less is kept. -/
theorem Took.drop {w : World} {E : Bs} {β : Nat → Option (Nat × Nat)} {FA F FA1 F1 G G' : Bs} {obs obs1 : List (Nat × Ob)} {Gk1 : Nat → Bs} (h : Took w E β FA F obs FA1 F1 G obs1 Gk1) (e : ∀ b, G' b → G b) :
    Took w E β FA F obs (fun b => FA1 b ∧ (G b → G' b)) F1 G' obs1 Gk1 := by
  have hst : ∀ H : Bs, Stay w FA1 w (fun b => FA1 b ∧ (G b → G' b)) H := fun H => ⟨Nat.le_refl _, fun _ _ => rfl, fun _ _ _ => rfl, fun b hb => .inl hb.1⟩
  refine ⟨⟨fun k o hk => (h.ob.rel k o hk).keep (hst _), h.ob.dj, h.ob.cov, h.ob.out, h.ob.elt⟩, fun b hb => h.sub b hb.1, fun b hb hn => ?_, h.less, fun b hb => h.got b (e b hb), fun b hb => h.dj b (e b hb), h.keep⟩
  by_cases c : FA1 b
  · have : G b ∧ ¬ G' b := by
      refine Classical.byContradiction fun hc => hn ⟨c, fun hg => Classical.byContradiction fun hg' => hc ⟨hg, hg'⟩⟩
    exact ⟨h.got b this.1, h.dj b this.1, this.2⟩
  · obtain ⟨h1, h2, h3⟩ := h.lost b hb c
    exact ⟨h1, h2, fun hg => h3 (e b hg)⟩

section
variable {w : World} {E : Bs} {β : Nat → Option (Nat × Nat)} {FA F FA1 F1 G : Bs} {obs obs1 : List (Nat × Ob)} {Gk Gk1 : Nat → Bs}

/-- An object is taken away. -/
theorem took_del (h : ObsA w E FA F β obs Gk) (hF : ∀ b, F b → FA b) {k : Nat} {o : Ob} (hg : get k obs = some o) :
    Took w E β FA F obs FA (fun b => F b ∧ ¬ Gk k b) (Gk k) (del k obs) Gk := by
  have hne : ∀ q o', get q (del k obs) = some o' → q ≠ k ∧ get q obs = some o' := by
    intro q o' hq
    by_cases e : q = k
    · subst e; rw [get_del] at hq; cases hq
    · exact ⟨e, by rw [get_del_ne (Ne.symm e)] at hq; exact hq⟩
  refine ⟨⟨fun q o' hq => h.rel q o' (hne q o' hq).2, fun q q' o1 o2 h1 h2 => h.dj q q' o1 o2 (hne q o1 h1).2 (hne q' o2 h2).2, fun b => ?_, fun q o' hq => h.out q o' (hne q o' hq).2, h.elt⟩, fun _ h => h, fun b hb hn => absurd hb hn, fun b hb => hb.1, fun b hb => (h.cov b).2 (.inr ⟨k, o, hg, hb⟩), fun b hb h2 => h2.2 hb, fun r => ?_⟩
  · constructor
    · rintro ⟨hb, hn⟩
      rcases (h.cov b).1 hb with hE | ⟨q, o', hq, hqb⟩
      · exact .inl hE
      have hqk : q ≠ k := fun e => hn (e ▸ hqb)
      exact .inr ⟨q, o', by rw [get_del_ne (Ne.symm hqk)]; exact hq, hqb⟩
    · rintro (hE | ⟨q, o', hq, hqb⟩)
      · exact ⟨(h.cov b).2 (.inl hE), fun hk => h.out k o hg b hk hE⟩
      obtain ⟨e, hq'⟩ := hne q o' hq
      exact ⟨(h.cov b).2 (.inr ⟨q, o', hq', hqb⟩), fun hk => h.dj q k o' o hq' hg e b hqb hk⟩
  · intro o' loc hl
    have : atLoc w β obs r = some (o', loc) := by
      unfold atLoc at hl ⊢
      cases hq : get r.root (del k obs) with
      | none => rw [hq] at hl; cases hl
      | some o2 => rw [hq] at hl; rw [(hne _ _ hq).2]; exact hl
    exact ⟨o', this, Ob.like.refl o', fun _ _ _ row hr => ⟨row, hr, rfl⟩⟩

/-- A slice of what is owned, as one that is only read. -/
theorem share {τ : Ty} {l : List τ.den} {loc : Option (Nat × Nat)} {u : Value} {off n : Nat} (ha : ArrAt w τ.size (LR w FA τ) l loc G) (hh : Hd w τ.size loc off n u) (hp : τ.plain = true) (hn : off + n ≤ l.length)
    (F' : Bs) (hF : ∀ b, F' b → FA b) (ho : ∀ b, G b → ¬ F' b) : LR w F' (.sl τ) ((l.drop off).take n) [u] (fun _ => False) := by
  obtain ⟨ad, cap, hu, hd⟩ := hh
  have hlen : ((l.drop off).take n).length = n := by rw [List.length_take, List.length_drop]; omega
  have hc : n ≤ cap := by rcases hd with ⟨h1, h2⟩ | ⟨_, _, _, _, _, _, h, _⟩ <;> omega
  refine ⟨fun _ h => h, ad, cap - n, by rw [hu, hlen, Nat.add_sub_cancel' hc], ?_⟩
  rcases hd with ⟨h1, h2⟩ | ⟨b, c, row, hl, hr, had, _, hs⟩
  · exact .inl (List.eq_nil_of_length_eq_zero (by omega))
  · subst hl
    obtain ⟨row2, Gs, hr2, hs2, hx, he, hdj, hb, hG⟩ := ha
    have e := hr.eq hr2
    subst e
    refine .inr ⟨b, c + off * τ.size, row, had, ho b ((hG b).2 (.inl rfl)), hr.s, ?_, fun i x hi => ?_⟩
    · rw [hlen]
      have : (off + n) * τ.size ≤ l.length * τ.size := Nat.mul_le_mul_right _ hn
      rw [Nat.add_mul] at this
      omega
    · rw [List.getElem?_take] at hi
      split at hi
      · rw [List.getElem?_drop] at hi
        have := hx (off + i) x hi
        refine ⟨Gs (off + i), LR.plain τ _ _ _ hp this, ?_⟩
        rw [Nat.add_mul, ← Nat.add_assoc] at this
        exact this.sub hF
      · cases hi
end
end Go.Lf

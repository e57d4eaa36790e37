import Derived.Test.YtgfhdajbgkpgkaaLfCall1
set_option linter.unusedVariables false
/-! Lf: what a call gives back. -/
namespace Go.Lf

/-- An object that is put anew. -/
structure Ent where
  k : Nat
  ob : Ob
  loc : Option (Nat × Nat)
  G : Bs

def dOf (es : List Ent) : Delta := es.map fun e => (e.k, some e.ob)

def locE (β : Nat → Option (Nat × Nat)) : List Ent → Nat → Option (Nat × Nat)
  | [], q => β q
  | e :: es, q => if e.k = q then e.loc else locE β es q

def gE (Gk : Nat → Bs) : List Ent → Nat → Bs
  | [], q => Gk q
  | e :: es, q => if e.k = q then e.G else gE Gk es q

def keysE (es : List Ent) : List Nat := es.map Ent.k

theorem keysE_append (es es' : List Ent) : keysE (es ++ es') = keysE es ++ keysE es' := List.map_append
theorem dOf_append (es es' : List Ent) : dOf (es ++ es') = dOf es ++ dOf es' := List.map_append
theorem keysOf_dOf : ∀ es : List Ent, keysOf (dOf es) = keysE es
  | [] => rfl
  | e :: es => by show e.k :: keysOf (dOf es) = _; rw [keysOf_dOf es]; rfl

theorem mem_keysE {es : List Ent} {e : Ent} (h : e ∈ es) : e.k ∈ keysE es := List.mem_map.2 ⟨e, h, rfl⟩

section
variable {β : Nat → Option (Nat × Nat)} {Gk : Nat → Bs} {obs : List (Nat × Ob)}

theorem locE_out {q : Nat} : ∀ {es : List Ent}, q ∉ keysE es → locE β es q = β q
  | [], _ => rfl
  | e :: es, h => by
    have h1 : e.k ≠ q := fun x => h (by simp [keysE, x])
    have h2 : q ∉ keysE es := fun x => h (List.mem_cons_of_mem _ x)
    show (if e.k = q then e.loc else locE β es q) = _
    rw [if_neg h1, locE_out h2]

theorem gE_out {q : Nat} : ∀ {es : List Ent}, q ∉ keysE es → gE Gk es q = Gk q
  | [], _ => rfl
  | e :: es, h => by
    have h1 : e.k ≠ q := fun x => h (by simp [keysE, x])
    have h2 : q ∉ keysE es := fun x => h (List.mem_cons_of_mem _ x)
    show (if e.k = q then e.G else gE Gk es q) = _
    rw [if_neg h1, gE_out h2]

theorem locE_mem {e : Ent} : ∀ {es : List Ent}, (keysE es).Nodup → e ∈ es → locE β es e.k = e.loc
  | [], _, h => by cases h
  | f :: es, hn, h => by
    have hn' := List.nodup_cons.1 hn
    show (if f.k = e.k then f.loc else locE β es e.k) = _
    rcases List.mem_cons.1 h with rfl | h
    · rw [if_pos rfl]
    · rw [if_neg (fun x : f.k = e.k => hn'.1 (show f.k ∈ keysE es from x ▸ mem_keysE h)), locE_mem hn'.2 h]

theorem gE_mem {e : Ent} : ∀ {es : List Ent}, (keysE es).Nodup → e ∈ es → gE Gk es e.k = e.G
  | [], _, h => by cases h
  | f :: es, hn, h => by
    have hn' := List.nodup_cons.1 hn
    show (if f.k = e.k then f.G else gE Gk es e.k) = _
    rcases List.mem_cons.1 h with rfl | h
    · rw [if_pos rfl]
    · rw [if_neg (fun x : f.k = e.k => hn'.1 (show f.k ∈ keysE es from x ▸ mem_keysE h)), gE_mem hn'.2 h]

theorem get_dOf {e : Ent} : ∀ {es : List Ent} {obs : List (Nat × Ob)}, (keysE es).Nodup → e ∈ es → get e.k (applyD (dOf es) obs) = some e.ob
  | [], _, _, h => by cases h
  | f :: es, obs, hn, h => by
    have hn' := List.nodup_cons.1 hn
    show get e.k (applyD (dOf es) (put f.k f.ob obs)) = _
    rcases List.mem_cons.1 h with rfl | h
    · rw [get_applyD _ _ (by rw [keysOf_dOf]; exact hn'.1), get_put]
    · exact get_dOf hn'.2 h

theorem mem_of_keysE {q : Nat} {es : List Ent} (h : q ∈ keysE es) : ∃ e ∈ es, e.k = q := by
  obtain ⟨e, h1, h2⟩ := List.mem_map.1 h
  exact ⟨e, h1, h2⟩

variable {w w' : World} {E FA F1 F' : Bs} {obs' : List (Nat × Ob)}

/-- Objects put anew, the others as they were. -/
theorem obs_new (h : ObsA w E FA F1 β obs Gk) {es : List Ent} (hn : (keysE es).Nodup) (hrel : ∀ e ∈ es, ObR w' F' e.ob e.loc e.G) (hdj : es.Pairwise fun e f => Dj e.G f.G)
    (hget : ∀ q, q ∉ keysE es → get q obs' = get q obs) (hnew : ∀ e ∈ es, get e.k obs' = some e.ob)
    (hF : ∀ b, F' b ↔ E b ∨ (∃ q o, q ∉ keysE es ∧ get q obs = some o ∧ Gk q b) ∨ ∃ e ∈ es, e.G b)
    (hE : ∀ e ∈ es, Dj e.G E) (hK : ∀ e ∈ es, ∀ q o, q ∉ keysE es → get q obs = some o → Dj e.G (Gk q))
    (hsize : w.heap.size ≤ w'.heap.size) (hst : ∀ q o, q ∉ keysE es → get q obs = some o → ∀ b, Gk q b → w'.heap[b]? = w.heap[b]?)
    (hout : ∀ b, ¬ FA b → b < w.heap.size → w'.heap[b]? = w.heap[b]?) (hless : ∀ b, F' b → FA b ∨ w.heap.size ≤ b) : ObsR w' E F' (locE β es) obs' (gE Gk es) := by
  have pair : ∀ e ∈ es, ∀ f ∈ es, e.k ≠ f.k → Dj e.G f.G := by
    intro e he f hf hne
    have : ∀ (l : List Ent), l.Pairwise (fun e f => Dj e.G f.G) → e ∈ l → f ∈ l → Dj e.G f.G := by
      intro l
      induction l with
      | nil => intro _ h; cases h
      | cons a l ih =>
        intro hp h1 h2
        have hp' := List.pairwise_cons.1 hp
        rcases List.mem_cons.1 h1 with r1 | h1
        · rcases List.mem_cons.1 h2 with r2 | h2
          · exact absurd (by rw [r1, r2]) hne
          · rw [r1]; exact hp'.1 f h2
        · rcases List.mem_cons.1 h2 with r2 | h2
          · rw [r2]; exact fun b hb hb' => hp'.1 e h1 b hb' hb
          · exact ih hp'.2 h1 h2
    exact this es hdj he hf
  have cases' : ∀ q o, get q obs' = some o → (∃ e ∈ es, e.k = q ∧ e.ob = o) ∨ (q ∉ keysE es ∧ get q obs = some o) := by
    intro q o hq
    by_cases e : q ∈ keysE es
    · obtain ⟨x, hx, rfl⟩ := mem_of_keysE e
      rw [hnew x hx] at hq
      injection hq with hq
      exact .inl ⟨x, hx, rfl, hq⟩
    · exact .inr ⟨e, by rw [hget q e] at hq; exact hq⟩
  refine ⟨fun q o hq => ?_, fun q q' o o' hq hq' hne => ?_, fun b => ?_, fun q o hq => ?_, fun b hb => Nat.lt_of_lt_of_le (h.elt b hb) hsize⟩
  · rcases cases' q o hq with ⟨e, he, rfl, rfl⟩ | ⟨hk, hq⟩
    · rw [locE_mem hn he, gE_mem hn he]; exact hrel e he
    · rw [locE_out hk, gE_out hk]
      exact (h.rel q o hq).keep ⟨hsize, hst q o hk hq, hout, hless⟩
  · rcases cases' q o hq with ⟨e, he, rfl, rfl⟩ | ⟨hk, hq⟩ <;> rcases cases' q' o' hq' with ⟨e', he', rfl, rfl⟩ | ⟨hk', hq'⟩
    · rw [gE_mem hn he, gE_mem hn he']; exact pair e he e' he' hne
    · rw [gE_mem hn he, gE_out hk']; exact hK e he q' o' hk' hq'
    · rw [gE_out hk, gE_mem hn he']; exact fun b hb hb' => hK e' he' q o hk hq b hb' hb
    · rw [gE_out hk, gE_out hk']; exact h.dj q q' o o' hq hq' hne
  · rw [hF b]
    constructor
    · rintro (hb | ⟨q, o, hk, hq, hb⟩ | ⟨e, he, hb⟩)
      · exact .inl hb
      · exact .inr ⟨q, o, by rw [hget q hk]; exact hq, by rw [gE_out hk]; exact hb⟩
      · exact .inr ⟨e.k, e.ob, hnew e he, by rw [gE_mem hn he]; exact hb⟩
    · rintro (hb | ⟨q, o, hq, hb⟩)
      · exact .inl hb
      · rcases cases' q o hq with ⟨e, he, rfl, rfl⟩ | ⟨hk, hq⟩
        · rw [gE_mem hn he] at hb; exact .inr (.inr ⟨e, he, hb⟩)
        · rw [gE_out hk] at hb; exact .inr (.inl ⟨q, o, hk, hq, hb⟩)
  · rcases cases' q o hq with ⟨e, he, rfl, rfl⟩ | ⟨hk, hq⟩
    · rw [gE_mem hn he]; exact hE e he
    · rw [gE_out hk]; exact h.out q o hq
end

/-- Results in slots, with objects of their own. -/
structure FreshOk (w : World) (F : Bs) (k : Nat) (G : Bs) (es : List Ent) : Prop where
  range : ∀ e ∈ es, k ≤ e.k ∧ e.k < k + es.length
  keys : (keysE es).Nodup
  dj : es.Pairwise fun e f => Dj e.G f.G
  rel : ∀ e ∈ es, ObR w F e.ob e.loc e.G
  cov : ∀ b, G b ↔ ∃ e ∈ es, e.G b

def At (β : Nat → Option (Nat × Nat)) (obs : List (Nat × Ob)) (es : List Ent) : Prop := ∀ e ∈ es, β e.k = e.loc ∧ get e.k obs = some e.ob

section
variable {w : World} {F : Bs}

theorem FreshOk.nil {k : Nat} {G : Bs} (h : Emp G) : FreshOk w F k G [] :=
  ⟨fun e he => (by cases he), List.nodup_nil, .nil, fun e he => (by cases he), fun b => ⟨fun hb => absurd hb (h b), fun ⟨e, he, _⟩ => (by cases he)⟩⟩

theorem FreshOk.one {k : Nat} {G : Bs} {ob : Ob} {loc : Option (Nat × Nat)} (h : ObR w F ob loc G) : FreshOk w F k G [⟨k, ob, loc, G⟩] :=
  ⟨fun e he => by rw [List.mem_singleton.1 he]; exact ⟨Nat.le_refl _, Nat.lt_succ_self _⟩, List.nodup_cons.2 ⟨fun h => (by cases h), List.nodup_nil⟩, List.pairwise_cons.2 ⟨fun e he => (by cases he), .nil⟩,
    fun e he => by rw [List.mem_singleton.1 he]; exact h, fun b => ⟨fun hb => ⟨_, List.mem_singleton.2 rfl, hb⟩, fun ⟨e, he, hb⟩ => by rw [List.mem_singleton.1 he] at hb; exact hb⟩⟩

theorem FreshOk.append {k : Nat} {G G1 G2 : Bs} {es es' : List Ent} (h : FreshOk w F k G1 es) (h' : FreshOk w F (k + es.length) G2 es') (hd : Dj G1 G2) (hG : ∀ b, G b ↔ G1 b ∨ G2 b) : FreshOk w F k G (es ++ es') := by
  refine ⟨fun e he => ?_, ?_, ?_, fun e he => (List.mem_append.1 he).elim (h.rel e) (h'.rel e), fun b => ?_⟩
  · rw [List.length_append]
    rcases List.mem_append.1 he with he | he
    · have := h.range e he; omega
    · have := h'.range e he; omega
  · rw [keysE_append]
    refine List.nodup_append.2 ⟨h.keys, h'.keys, fun a ha b hb e => ?_⟩
    obtain ⟨x, hx, rfl⟩ := mem_of_keysE ha
    obtain ⟨y, hy, rfl⟩ := mem_of_keysE hb
    have h1 := h.range x hx
    have h2 := h'.range y hy
    omega
  · exact List.pairwise_append.2 ⟨h.dj, h'.dj, fun e he f hf b hb hb' => hd b ((h.cov b).2 ⟨e, he, hb⟩) ((h'.cov b).2 ⟨f, hf, hb'⟩)⟩
  · rw [hG b, h.cov b, h'.cov b]
    constructor
    · rintro (⟨e, he, hb⟩ | ⟨e, he, hb⟩)
      · exact ⟨e, List.mem_append.2 (.inl he), hb⟩
      · exact ⟨e, List.mem_append.2 (.inr he), hb⟩
    · rintro ⟨e, he, hb⟩
      exact (List.mem_append.1 he).imp (fun he => ⟨e, he, hb⟩) fun he => ⟨e, he, hb⟩

/-- Ways into new objects alone. -/
def NewRefs (k n : Nat) (rs : List Ref) : Prop := ∀ r ∈ rs, k ≤ r.root ∧ r.root < k + n ∧ r.path = []

theorem freshLeaf_ok {v : V} {u : Value} {G : Bs} (k : Nat) (h : LfR w F v u G) :
    ∃ v' es, freshLeaf k v = (v', dOf es, k + es.length) ∧ FreshOk w F k G es ∧ NewRefs k es.length (refOf v') ∧ ∀ β obs, At β obs es → VRl w β obs F v' u := by
  cases v with
  | ow τ l =>
    obtain ⟨u', hu, hh, ha⟩ := h
    injection hu with hu; subst hu
    refine ⟨_, [⟨k, .arr τ l, locOf u, G⟩], rfl, FreshOk.one ha, fun r hr => by simp [refOf] at hr; subst hr; exact ⟨Nat.le_refl _, Nat.lt_succ_self _, rfl⟩, fun β obs hat => ?_⟩
    obtain ⟨hb, hg⟩ := hat _ (List.mem_singleton.2 rfl)
    obtain ⟨ad, cap, hu, _⟩ := id hh
    refine ⟨ad, cap, hu, fun o loc hl => ?_⟩
    unfold atLoc at hl
    simp only [hg, hb, way] at hl
    injection hl with hl; injection hl with e1 e2; subst e1; subst e2
    exact ⟨τ, l, rfl, hh, by omega, fun _ => ⟨rfl, rfl⟩⟩
  | bx τ x =>
    obtain ⟨b, row, G', hu, hr, hl, hb, hG⟩ := h
    injection hu with hu; subst hu
    refine ⟨_, [⟨k, .box (some τ) (τ.leaves x), some (b, 0), G⟩], rfl, FreshOk.one ⟨b, row, G', rfl, hr, LR.leaves τ x _ _ hl, hb, hG⟩, fun r hr => by simp [refOf] at hr; subst hr; exact ⟨Nat.le_refl _, Nat.lt_succ_self _, rfl⟩, fun β obs hat => ?_⟩
    obtain ⟨hb, hg⟩ := hat _ (List.mem_singleton.2 rfl)
    exact hp_new (F' := F) hg hb
  | undef => exact ⟨_, [], rfl, FreshOk.nil h, fun r hr => (by cases hr), fun β obs _ => trivial⟩
  | int => exact ⟨_, [], rfl, FreshOk.nil h.2, fun r hr => (by cases hr), fun β obs _ => h.1⟩
  | bool => exact ⟨_, [], rfl, FreshOk.nil h.2, fun r hr => (by cases hr), fun β obs _ => h.1⟩
  | nilp => exact ⟨_, [], rfl, FreshOk.nil h.2, fun r hr => (by cases hr), fun β obs _ => h.1⟩
  | nils => exact ⟨_, [], rfl, FreshOk.nil h.2, fun r hr => (by cases hr), fun β obs _ => h.1⟩
  | sl τ l => exact ⟨_, [], rfl, FreshOk.nil h.1, fun r hr => (by cases hr), fun β obs _ => ⟨G, h⟩⟩
  | _ => exact h.elim

theorem freshLeaves_ok : ∀ {vs : List V} {us : List Value} {G : Bs} (k : Nat), LsR w F vs us G →
    ∃ vs' es, freshLeaves k vs = (vs', dOf es, k + es.length) ∧ FreshOk w F k G es ∧ NewRefs k es.length (vs'.flatMap refOf) ∧ ∀ β obs, At β obs es → All2 (VRl w β obs F) vs' us
  | [], _, _, k, h => by
    cases h with
    | nil h => exact ⟨[], [], rfl, FreshOk.nil h, fun r hr => (by cases hr), fun β obs _ => .nil⟩
  | v :: vs, _, _, k, h => by
    cases h with
    | cons h1 h2 hd hG =>
      obtain ⟨v', es, e1, ok1, nr1, vr1⟩ := freshLeaf_ok k h1
      obtain ⟨vs', es', e2, ok2, nr2, vr2⟩ := freshLeaves_ok (k + es.length) h2
      refine ⟨v' :: vs', es ++ es', ?_, ok1.append ok2 hd hG, fun r hr => ?_, fun β obs hat => .cons (vr1 β obs fun e he => hat e (List.mem_append.2 (.inl he))) (vr2 β obs fun e he => hat e (List.mem_append.2 (.inr he)))⟩
      · unfold freshLeaves
        simp only [e1, e2, dOf_append, List.length_append, Nat.add_assoc]
      · rw [List.flatMap_cons] at hr
        rw [List.length_append]
        rcases List.mem_append.1 hr with hr | hr
        · have := nr1 r hr; exact ⟨this.1, by omega, this.2.2⟩
        · have := nr2 r hr; exact ⟨by omega, by omega, this.2.2⟩

theorem freshV_ok {τ : Ty} {x : τ.den} {u : Value} {G : Bs} (k : Nat) (h : ValR w F τ x u G) :
    ∃ v' es, freshV k (τ.toV x) = (v', dOf es, k + es.length) ∧ FreshOk w F k G es ∧ NewRefs k es.length (refsOfA v') ∧ ∀ β obs, At β obs es → VRa w β obs F v' u := by
  obtain ⟨hl, ha⟩ := h
  have hls := LR.leaves τ x _ _ hl
  have leaf : ∀ v, τ.leaves x = [v] → τ.isA = false → ∀ (_ : freshV k v = freshLeaf k v) (_ : ∀ f fs, v ≠ .fn f fs) (_ : ∀ fs, v ≠ .agg fs),
      ∃ v' es, freshV k v = (v', dOf es, k + es.length) ∧ FreshOk w F k G es ∧ NewRefs k es.length (refsOfA v') ∧ ∀ β obs, At β obs es → VRa w β obs F v' u := by
    intro v hv hf he hnf hna
    rw [hv] at hls
    have hu : u.cells.toList = [u] := by
      cases u with
      | agg us => rw [hf] at ha; exact absurd (ha.1 ⟨us, rfl⟩) nofun
      | _ => rfl
    rw [hu] at hls
    obtain ⟨u', hu', hlf⟩ := LsR.one_inv hls
    injection hu' with hu'; subst hu'
    obtain ⟨v', es, e1, ok1, nr1, vr1⟩ := freshLeaf_ok k hlf
    have hva : ∀ (hx : ∀ f fs, v' ≠ .fn f fs) (hy : ∀ fs, v' ≠ .agg fs), refsOfA v' = refOf v' ∧ ∀ β obs, VRl w β obs F v' u → VRa w β obs F v' u := by
      intro hx hy
      cases v' <;> first | exact ⟨rfl, fun _ _ h => h⟩ | exact absurd rfl (hx _ _) | exact absurd rfl (hy _)
    have hv' : (∀ f fs, v' ≠ .fn f fs) ∧ ∀ fs, v' ≠ .agg fs := by
      have := congrArg Prod.fst e1
      refine ⟨fun f fs e => ?_, fun fs e => ?_⟩ <;> subst e <;> cases v <;> first | exact absurd rfl (hnf _ _) | exact absurd rfl (hna _) | (cases this; done)
    obtain ⟨hr, hvr⟩ := hva hv'.1 hv'.2
    exact ⟨v', es, he.trans e1, ok1, by rw [hr]; exact nr1, fun β obs hat => hvr β obs (vr1 β obs hat)⟩
  have aggr : τ.toV x = .agg (τ.leaves x) → τ.isA = true →
      ∃ v' es, freshV k (τ.toV x) = (v', dOf es, k + es.length) ∧ FreshOk w F k G es ∧ NewRefs k es.length (refsOfA v') ∧ ∀ β obs, At β obs es → VRa w β obs F v' u := by
    intro hv hf
    obtain ⟨us, rfl⟩ := ha.2 hf
    obtain ⟨vs', es, e1, ok1, nr1, vr1⟩ := freshLeaves_ok k hls
    refine ⟨.agg vs', es, ?_, ok1, nr1, fun β obs hat => ⟨us, rfl, vr1 β obs hat⟩⟩
    rw [hv]
    simp only [freshV, e1]
  cases τ with
  | int kk => exact leaf _ rfl rfl rfl nofun nofun
  | bool => exact leaf _ rfl rfl rfl nofun nofun
  | sl a => exact leaf _ rfl rfl rfl nofun nofun
  | ow a => exact leaf _ rfl rfl rfl nofun nofun
  | bx a => exact leaf _ rfl rfl rfl nofun nofun
  | unit => exact aggr rfl rfl
  | pair a b => exact aggr rfl rfl

theorem freshTup_ok : ∀ (ts : List Ty) {y : Tys ts} {us : List Value} {G : Bs} (k : Nat), ResR w F ts y us G →
    ∃ vs' es, freshTup ts y k = (vs', dOf es, k + es.length) ∧ FreshOk w F k G es ∧ NewRefs k es.length (vs'.flatMap refsOfA) ∧ ∀ β obs, At β obs es → All2 (VRa w β obs F) vs' us
  | [], _, _, _, k, ⟨hu, hE⟩ => by
    subst hu
    exact ⟨[], [], rfl, FreshOk.nil hE, fun r hr => (by cases hr), fun β obs _ => .nil⟩
  | t :: ts, y, _, _, k, ⟨u, us, G1, G2, hu, h1, h2, hd, hG⟩ => by
    subst hu
    obtain ⟨v', es, e1, ok1, nr1, vr1⟩ := freshV_ok k h1
    obtain ⟨vs', es', e2, ok2, nr2, vr2⟩ := freshTup_ok ts (k + es.length) h2
    refine ⟨v' :: vs', es ++ es', ?_, ok1.append ok2 hd hG, fun r hr => ?_, fun β obs hat => .cons (vr1 β obs fun e he => hat e (List.mem_append.2 (.inl he))) (vr2 β obs fun e he => hat e (List.mem_append.2 (.inr he)))⟩
    · unfold freshTup
      simp only [e1, e2, dOf_append, List.length_append, Nat.add_assoc]
    · rw [List.flatMap_cons] at hr
      rw [List.length_append]
      rcases List.mem_append.1 hr with hr | hr
      · have := nr1 r hr; exact ⟨this.1, by omega, this.2.2⟩
      · have := nr2 r hr; exact ⟨by omega, by omega, this.2.2⟩

theorem VRa.vr {β : Nat → Option (Nat × Nat)} {obs : List (Nat × Ob)} {v : V} {u : Value} (h : VRa w β obs F v u) : VR w β obs F v u ∧ refsOf v = refsOfA v := by
  cases v <;> first | exact ⟨h, rfl⟩ | exact h.elim

/-- One result, or some. -/
theorem one_ok {β : Nat → Option (Nat × Nat)} {obs : List (Nat × Ob)} {vs : List V} {us : List Value} (h : All2 (VRa w β obs F) vs us) : VR w β obs F (one vs) (pack us) ∧ ∀ r ∈ refsOf (one vs), r ∈ vs.flatMap refsOfA := by
  cases h with
  | nil => exact ⟨⟨#[], rfl, .nil⟩, fun r hr => hr⟩
  | cons h1 h2 =>
    rename_i v u vs us
    cases h2 with
    | nil =>
      obtain ⟨h3, h4⟩ := h1.vr
      refine ⟨h3, fun r hr => ?_⟩
      have hr' : r ∈ refsOf v := hr
      rw [h4] at hr'
      exact List.mem_flatMap.2 ⟨v, by simp, hr'⟩
    | cons h3 h4 =>
      rename_i v2 u2 vs2 us2
      refine ⟨⟨(u :: u2 :: us2).toArray, ?_, .cons h1 (.cons h3 h4)⟩, fun r hr => hr⟩
      unfold pack
      rw [dif_neg (by simp)]

theorem LR.nosl {F' : Bs} : ∀ (τ : Ty) (x : τ.den) (cs : List Value) (G : Bs), τ.hasSl = false → LR w F τ x cs G → LR w F' τ x cs G
  | .int _, _, _, _, _, h => h
  | .bool, _, _, _, _, h => h
  | .unit, _, _, _, _, h => h
  | .pair a b, x, _, _, hs, ⟨c1, c2, G1, G2, hc, h1, h2, hd, hG⟩ => by
    have hs' : (a.hasSl || b.hasSl) = false := hs
    rw [Bool.or_eq_false_iff] at hs'
    exact ⟨c1, c2, G1, G2, hc, LR.nosl a _ _ _ hs'.1 h1, LR.nosl b _ _ _ hs'.2 h2, hd, hG⟩
  | .sl a, _, _, _, hs, _ => by cases hs
  | .ow a, l, _, G, hs, ⟨u, hc, hh, ha⟩ => ⟨u, hc, hh, ArrAt.keep ha (fun _ _ => rfl) fun x cs G' hl _ => LR.nosl a x cs G' hs hl⟩
  | .bx a, x, _, _, hs, ⟨b, row, G', hc, hr, hl, hb, hG⟩ => ⟨b, row, G', hc, hr, LR.nosl a _ _ _ hs hl, hb, hG⟩

theorem ResR.cast {F' : Bs} : ∀ (rs : List Ty) {y : Tys rs} {us : List Value} {G : Bs}, ((∀ b, F' b → F b) ∨ hasSl rs = false) → ResR w F rs y us G → ResR w F' rs y us G
  | [], _, _, _, _, h => h
  | t :: ts, y, _, _, hc, ⟨u, us, G1, G2, hu, ⟨h1, ha⟩, h2, hd, hG⟩ => by
    have hc' : ((∀ b, F' b → F b) ∨ t.hasSl = false) ∧ ((∀ b, F' b → F b) ∨ hasSl ts = false) := by
      rcases hc with hc | hc
      · exact ⟨.inl hc, .inl hc⟩
      · have : (t.hasSl || hasSl ts) = false := hc
        rw [Bool.or_eq_false_iff] at this
        exact ⟨.inr this.1, .inr this.2⟩
    exact ⟨u, us, G1, G2, hu, ⟨hc'.1.elim (fun h => h1.sub h) (fun h => LR.nosl t _ _ _ h h1), ha⟩, ResR.cast ts hc'.2 h2, hd, hG⟩

theorem BackR.cast {F' : Bs} : ∀ (ps : List PT) {y : Upds ps} {us : List Value} {G : Bs}, ((∀ b, F' b → F b) ∨ borSl ps = false) → BackR w F ps y us G → BackR w F' ps y us G
  | [], _, _, _, _, h => h
  | .imm _ :: ps, y, _, _, hc, ⟨u, us, hu, h⟩ => ⟨u, us, hu, BackR.cast ps hc h⟩
  | .bor τ true :: ps, y, _, _, hc, ⟨u, us, G1, G2, hu, h1, h2, hd, hG⟩ => by
    have hc' : ((∀ b, F' b → F b) ∨ τ.hasSl = false) ∧ ((∀ b, F' b → F b) ∨ borSl ps = false) := by
      rcases hc with hc | hc
      · exact ⟨.inl hc, .inl hc⟩
      · have : (τ.hasSl || borSl ps) = false := hc
        rw [Bool.or_eq_false_iff] at this
        exact ⟨.inr this.1, .inr this.2⟩
    exact ⟨u, us, G1, G2, hu, hc'.1.elim (fun h => h1.sub h) (fun h => LR.nosl (.bx τ) _ _ _ h h1), BackR.cast ps hc'.2 h2, hd, hG⟩
  | .bor _ false :: _, _, _, _, _, h => h.elim

/-- What comes back. -/
theorem back_ok {w0 : World} {F0 : Bs} {β : Nat → Option (Nat × Nat)} : ∀ (ps : List PT) {x : Args ps} {y : Upds ps} {us : List Value} {bs : List Nat} {G0 G : Bs}, ArgsR w0 F0 ps x us G0 → BackR w F ps y us G → Links β ps us bs →
    ∃ es, backD ps y bs = (dOf es, bs.map fun k => (⟨k, []⟩, false)) ∧ keysE es = bs ∧ (es.Pairwise fun e f => Dj e.G f.G) ∧ (∀ e ∈ es, ObR w F e.ob e.loc e.G) ∧ (∀ b, G b ↔ ∃ e ∈ es, e.G b) ∧
      ∀ e ∈ es, β e.k = e.loc ∧ (∃ t fs, e.ob = .box t fs) ∧ ∃ b row row', e.loc = some (b, 0) ∧ Row w0 b row ∧ Row w b row' ∧ row'.size = row.size
  | [], _, _, _, _, _, _, _, ⟨_, hE⟩, ⟨_, hb⟩ => by
    subst hb
    exact ⟨[], rfl, rfl, .nil, fun e he => (by cases he), fun b => ⟨fun h => absurd h (hE b), fun ⟨e, he, _⟩ => (by cases he)⟩, fun e he => (by cases he)⟩
  | .imm _ :: ps, x, y, _, bs, _, _, ⟨u, us, hu, _, _, ha⟩, ⟨u', us', hu', hb⟩, ⟨u2, us2, hu2, hl⟩ => by
    subst hu
    injection hu' with _ e1; subst e1
    injection hu2 with _ e2; subst e2
    obtain ⟨es, h1, h⟩ := back_ok ps ha hb hl
    exact ⟨es, h1, h⟩
  | .bor τ true :: ps, x, y, _, bs, _, _, ⟨u, us, G1, G2, hu, h1, ha, hd, hG⟩, ⟨u', us', H1, H2, hu', h1', hb, hd', hG'⟩, ⟨b, us2, k, bs', hu2, hbs, hk, hl⟩ => by
    subst hu
    injection hu' with e0 e1; subst e1; subst e0
    injection hu2 with e3 e2; subst e2; subst e3
    subst hbs
    obtain ⟨es, h2, h3, h4, h5, h6, h7⟩ := back_ok ps ha hb hl
    obtain ⟨b1, row, Ga, hc, hr, hlr, hnb, hGa⟩ := h1
    injection hc with hc; injection hc with hc; injection hc with hc; injection hc with hc; subst hc
    obtain ⟨b2, row', Gb, hc, hr', hlr', hnb', hGb⟩ := h1'
    injection hc with hc; injection hc with hc; injection hc with hc; injection hc with hc; subst hc
    refine ⟨⟨k, .box (some τ) (τ.leaves y.1), some (b, 0), H1⟩ :: es, ?_, ?_, ?_, fun e he => ?_, fun n => ?_, fun e he => ?_⟩
    · unfold backD
      simp only [h2]
      rfl
    · show k :: keysE es = _
      rw [h3]
    · exact List.pairwise_cons.2 ⟨fun e he n hn hn' => hd' n hn ((h6 n).2 ⟨e, he, hn'⟩), h4⟩
    · rcases List.mem_cons.1 he with rfl | he
      · exact ⟨b, row', Gb, rfl, hr', LR.leaves τ _ _ _ hlr', hnb', hGb⟩
      · exact h5 e he
    · rw [hG' n, h6 n]
      constructor
      · rintro (h | ⟨e, he, h⟩)
        · exact ⟨_, List.mem_cons_self, h⟩
        · exact ⟨e, List.mem_cons_of_mem _ he, h⟩
      · rintro ⟨e, he, h⟩
        rcases List.mem_cons.1 he with rfl | he
        · exact .inl h
        · exact .inr ⟨e, he, h⟩
    · rcases List.mem_cons.1 he with rfl | he
      · refine ⟨hk, ⟨_, _, rfl⟩, b, row, row', rfl, hr, hr', ?_⟩
        have l1 := LR.length τ _ _ _ hlr
        have l2 := LR.length τ _ _ _ hlr'
        rw [Array.length_toList] at l1 l2
        omega
      · exact h7 e he
  | .bor _ false :: _, _, _, _, _, _, _, _, h, _ => h.elim
end
end Go.Lf

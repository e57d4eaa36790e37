import Derived.Test.YtgfhdajbgkpgkaaLfAny3
set_option linter.unusedVariables false
/-! Lf: patterns. -/
namespace Go.Lf

section
variable {w : World} {F : Bs} {β : Nat → Option (Nat × Nat)} {obs : List (Nat × Ob)}

theorem tysOf_sound : ∀ {ts : List Ty} {F : Bs} {fs : List V} {xs : Tys ts} {us : List Value} {G : Bs}, tysOf ts fs = some xs → LsR w F fs us G →
    ∃ G1 : Bs, (∀ n, G1 n → G n) ∧ ∀ F' : Bs, (∀ b, F' b → F b) → (∀ b, G b → ¬ G1 b → ¬ F' b) → LsR w F' (boxOf ts xs) us G1
  | [], F, [], xs, us, G, _, hl => ⟨G, fun _ h => h, fun F' hF _ => hl.sub hF⟩
  | [], F, f :: fs, xs, us, G, h, _ => by cases h
  | t :: ts, F, fs, xs, us, G, h, hl => by
    have h' : (match t.ofLeaves fs with
      | some (x, vs') => match tysOf ts vs' with
        | some xs => some (x, xs)
        | none => none
      | none => none) = some xs := h
    split at h'
    · rename_i x vs' hx
      split at h'
      · rename_i ys hy
        injection h' with h'; subst h'
        obtain ⟨us1, us2, G1, G2, hus, s1, s2, hd, H⟩ := ofLeaves_sound hx hl
        have h0 := H (fun b => F b ∧ (G b → G1 b ∨ G2 b)) (fun b hb => hb.1) (fun b hg n1 n2 hf => (hf.2 hg).elim n1 n2)
        obtain ⟨G3, s3, H3⟩ := tysOf_sound hy h0.2
        refine ⟨fun b => G1 b ∨ G3 b, fun b hb => hb.elim (s1 b) fun h => s2 b (s3 b h), fun F' hF hn => ?_⟩
        have A := (H F' hF fun b hg n1 n2 hf => hn b hg (fun h => h.elim n1 fun h => n2 (s3 b h)) hf).1
        have B := H3 F' (fun b hb => ⟨hF b hb, fun hg => Classical.byContradiction fun hc => hn b hg (fun h => hc (h.imp id (s3 b))) hb⟩) (fun b hg n3 hf => hn b (s2 b hg) (fun h => h.elim (fun h1 => hd b h1 hg) n3) hf)
        rw [hus]
        exact LsR.append (LR.leaves t x _ _ A) B fun b h1 h3 => hd b h1 (s3 b h3)
      · cases h'
    · cases h'

/-- Leaves that are nobody's. -/
theorem plain_ofLeaves : ∀ {τ : Ty} {vs rest : List V} {x : τ.den} {us : List Value}, τ.plain = true → τ.ofLeaves vs = some (x, rest) → All2 (VRl w β obs F) vs us →
    ∃ us1 us2, us = us1 ++ us2 ∧ LR w F τ x us1 (fun _ => False) ∧ All2 (VRl w β obs F) rest us2
  | .unit, vs, rest, x, us, _, h, hv => by
    have h' : some ((), vs) = some (x, rest) := h
    injection h' with h'; injection h' with _ h'; subst h'
    exact ⟨[], us, rfl, ⟨rfl, fun _ h => h⟩, hv⟩
  | .pair a b, vs, rest, x, us, hp, h, hv => by
    have hp' : (a.plain && b.plain) = true := hp
    rw [Bool.and_eq_true] at hp'
    have h' : (match a.ofLeaves vs with
      | some (x, vs) => match b.ofLeaves vs with
        | some (y, vs) => some ((x, y), vs)
        | none => none
      | none => none) = some (x, rest) := h
    split at h'
    · rename_i y vs1 hy
      split at h'
      · rename_i z vs2 hz
        injection h' with h'; injection h' with h1 h2; subst h1; subst h2
        obtain ⟨us1, us2, e1, l1, v1⟩ := plain_ofLeaves hp'.1 hy hv
        obtain ⟨us3, us4, e2, l2, v2⟩ := plain_ofLeaves hp'.2 hz v1
        exact ⟨us1 ++ us3, us4, by rw [e1, e2, List.append_assoc], ⟨us1, us3, _, _, rfl, l1, l2, fun _ h => h.elim, fun n => ⟨fun h => h.elim, fun h => h.elim id id⟩⟩, v2⟩
      · cases h'
    · cases h'
  | .int k, vs, rest, x, us, _, h, hv => by
    cases hv with
    | nil => cases h
    | cons h1 h2 =>
      rename_i v u vs us
      have h' : withRest ((Ty.int k).ofLeaf v) vs = some (x, rest) := h
      cases v with
      | int k' n =>
        have h2' : withRest (if kbeq k' k = true then some n else none) vs = some (x, rest) := h'
        split at h2'
        · rename_i hk
          have := kbeq_eq hk
          subst this
          injection h2' with h2'; injection h2' with e1 e2; subst e1; subst e2
          exact ⟨[u], us, rfl, ⟨by rw [show u = .int k' n from h1], fun _ h => h⟩, h2⟩
        · cases h2'
      | _ => cases h'
  | .bool, vs, rest, x, us, _, h, hv => by
    cases hv with
    | nil => cases h
    | cons h1 h2 =>
      rename_i v u vs us
      have h' : withRest (Ty.bool.ofLeaf v) vs = some (x, rest) := h
      cases v with
      | bool b =>
        have h2' : some (b, vs) = some (x, rest) := h'
        injection h2' with h2'; injection h2' with e1 e2; subst e1; subst e2
        exact ⟨[u], us, rfl, ⟨by rw [show u = .bool b from h1], fun _ h => h⟩, h2⟩
      | _ => cases h'
  | .sl a, vs, rest, x, us, _, h, hv => by
    cases hv with
    | nil => cases h
    | cons h1 h2 =>
      rename_i v u vs us
      have h' : withRest ((Ty.sl a).ofLeaf v) vs = some (x, rest) := h
      cases v with
      | sl a' l =>
        have h2' : withRest (if h : Ty.beq a' a = true then some (castL h l) else none) vs = some (x, rest) := h'
        split at h2'
        · rename_i hb
          have := Ty.beq_eq hb
          subst this
          injection h2' with h2'; injection h2' with e1 e2; subst e1; subst e2
          obtain ⟨G, hl⟩ := h1
          exact ⟨[u], us, rfl, LR.iff (.sl a') l [u] G _ hl fun n => ⟨fun h => h.elim, fun h => hl.1 n h⟩, h2⟩
        · cases h2'
      | ow => exact h1.elim
      | nils =>
        have h2' : some (([] : List a.den), vs) = some (x, rest) := h'
        injection h2' with h2'; injection h2' with e1 e2; subst e1; subst e2
        obtain ⟨ad, e⟩ := h1
        exact ⟨[u], us, rfl, ⟨fun _ h => h, ad, 0, by rw [e]; rfl, .inl rfl⟩, h2⟩
      | _ => cases h'
  | .ow a, vs, rest, x, us, hp, h, hv => by cases hp
  | .bx a, vs, rest, x, us, hp, h, hv => by cases hp

theorem plainLeaves : ∀ {τ : Ty} (x : τ.den), τ.plain = true → ∀ v ∈ τ.leaves x, isOwned v = false
  | .int _, x, _, v, h => by rw [List.mem_singleton.1 h]; rfl
  | .bool, x, _, v, h => by rw [List.mem_singleton.1 h]; rfl
  | .unit, x, _, v, h => by cases h
  | .sl _, x, _, v, h => by rw [List.mem_singleton.1 h]; rfl
  | .pair a b, x, hp, v, h => by
    have hp' : (a.plain && b.plain) = true := hp
    rw [Bool.and_eq_true] at hp'
    rcases List.mem_append.1 (show v ∈ a.leaves x.1 ++ b.leaves x.2 from h) with h | h
    · exact plainLeaves x.1 hp'.1 v h
    · exact plainLeaves x.2 hp'.2 v h
  | .ow _, x, hp, _, _ => by cases hp
  | .bx _, x, hp, _, _ => by cases hp

theorem LfR.vrl {v : V} {u : Value} {G : Bs} (h : LfR w F v u G) (ho : isOwned v = false) : VRl w β obs F v u := by
  cases v with
  | undef => trivial
  | int => exact h.1
  | bool => exact h.1
  | nilp => exact h.1
  | nils => exact h.1
  | sl τ l => exact ⟨G, h⟩
  | ow => cases ho
  | bx => cases ho
  | _ => exact h.elim

theorem LsR.vrl {vs : List V} {us : List Value} {G : Bs} (h : LsR w F vs us G) (ho : ∀ v ∈ vs, isOwned v = false) : All2 (VRl w β obs F) vs us := by
  induction h with
  | nil => exact .nil
  | cons h1 _ _ _ ih => exact .cons (h1.vrl (ho _ (by simp))) (ih fun v hv => ho v (by simp [hv]))

/-- A value of a plain code, in a slot. -/
theorem ValR.vr {τ : Ty} {x : τ.den} {u : Value} {G : Bs} (hp : τ.plain = true) (h : ValR w F τ x u G) : VR w β obs F (τ.toV x) u := by
  obtain ⟨hl, ha⟩ := h
  have hls := (LR.leaves τ x _ _ hl).vrl (β := β) (obs := obs) (plainLeaves x hp)
  have leaf : ∀ v, τ.leaves x = [v] → τ.isA = false → VRl w β obs F v u := by
    intro v hv hf
    rw [hv] at hls
    have hu : u.cells.toList = [u] := by
      cases u with
      | agg us => rw [hf] at ha; exact absurd (ha.1 ⟨us, rfl⟩) nofun
      | _ => rfl
    rw [hu] at hls
    cases hls with
    | cons h1 _ => exact h1
  cases τ with
  | int kk => exact (leaf _ rfl rfl).vr
  | bool => exact (leaf _ rfl rfl).vr
  | sl a => exact (leaf _ rfl rfl).vr
  | ow a => cases hp
  | bx a => cases hp
  | unit => obtain ⟨us, rfl⟩ := ha.2 rfl; exact ⟨us, rfl, hls⟩
  | pair a b => obtain ⟨us, rfl⟩ := ha.2 rfl; exact ⟨us, rfl, hls⟩

theorem ofV_ok {τ : Ty} {v : V} {x : τ.den} {u : Value} (hp : τ.plain = true) (h : τ.ofV v = some x) (hv : VR w β obs F v u) : ValR w F τ x u (fun _ => False) := by
  unfold Ty.ofV at h
  cases hl : likeA τ v with
  | false => rw [hl] at h; cases h
  | true =>
    rw [hl] at h
    have h' : τ.ofAll v.fields = some x := h
    unfold Ty.ofAll at h'
    split at h'
    · rename_i x' hx
      injection h' with h'; subst h'
      have hnu : v ≠ .undef := by
        intro e; subst e
        cases τ <;> first | cases hx | (unfold likeA at hl; cases hl) | cases hp
      have hall : All2 (VRl w β obs F) v.fields u.cells.toList := by
        cases v with
        | agg fs => obtain ⟨us, hu, hall⟩ := hv; subst hu; exact hall
        | undef => exact absurd rfl hnu
        | tup => cases τ <;> first | cases hx | (unfold likeA at hl; cases hl) | cases hp
        | fn => cases τ <;> first | cases hx | (unfold likeA at hl; cases hl) | cases hp
        | ow => exact hv.elim
        | bx => exact hv.elim
        | _ => exact fields_rel hv rfl
      obtain ⟨us1, us2, e1, l1, v1⟩ := plain_ofLeaves hp hx hall
      cases v1
      rw [List.append_nil] at e1
      exact ⟨by rw [e1]; exact l1, likeA_iff hl hv hnu⟩
    · cases h'
end

/-! ### Roots -/
def rootAt : (l : List RP) → RPs l → Nat → Option Ob
  | [], _, _ => none
  | p :: _, x, 0 => some (p.ob x.1)
  | _ :: l, x, i + 1 => rootAt l x.2 i

theorem get_buildR : ∀ (l : List RP) (ys : RPs l) (base q : Nat), get q (buildR base l ys) = if base ≤ q then rootAt l ys (q - base) else none
  | [], _, base, q => by simp [buildR, get, rootAt]
  | p :: l, ys, base, q => by
    unfold buildR get
    cases e : Nat.beq base q with
    | true =>
      have := Nat.eq_of_beq_eq_true e
      subst this
      simp [rootAt]
    | false =>
      have hne : base ≠ q := fun h => by subst h; rw [Nat.beq_refl] at e; cases e
      show get q (buildR (base + 1) l ys.2) = _
      rw [get_buildR l ys.2 (base + 1) q]
      by_cases h : base ≤ q
      · have h1 : base + 1 ≤ q := by omega
        rw [if_pos h, if_pos h1]
        have : q - base = (q - (base + 1)) + 1 := by omega
        rw [this]
        rfl
      · rw [if_neg h, if_neg (by omega)]

theorem rootAt_lt : ∀ {l : List RP} {ys : RPs l} {i : Nat} {o : Ob}, rootAt l ys i = some o → i < l.length
  | [], _, _, _, h => by cases h
  | p :: l, ys, 0, o, _ => by simp
  | p :: l, ys, i + 1, o, h => by
    have := rootAt_lt (l := l) (ys := ys.2) h
    simp; omega

theorem rootAt_some : ∀ {l : List RP} {ys : RPs l} {i : Nat}, i < l.length → ∃ o, rootAt l ys i = some o
  | [], _, _, h => by simp at h
  | p :: l, ys, 0, _ => ⟨_, rfl⟩
  | p :: l, ys, i + 1, h => rootAt_some (l := l) (ys := ys.2) (by simp at h; omega)

theorem rootLen_arr : ∀ {l : List RP} {ys : RPs l} {i : Nat} {τ : Ty} {xs : List τ.den}, rootAt l ys i = some (.arr τ xs) → rootLen l ys i = xs.length
  | [], _, _, _, _, h => by cases h
  | p :: l, ys, 0, τ, xs, h => by
    injection h with h
    cases p with
    | box t ts => cases h
    | arr τ' =>
      injection h with e1 e2
      subst e1
      have e2 := eq_of_heq e2
      show ys.1.length = xs.length
      rw [e2]
  | p :: l, ys, i + 1, τ, xs, h => rootLen_arr (l := l) (ys := ys.2) h

theorem matchR_spec {m : RMap} {obs : List (Nat × Ob)} : ∀ {l : List RP} {i0 : Nat} {ys : RPs l}, matchR m obs i0 l = some ys → ∀ i o, rootAt l ys i = some o → ∃ k p x, get (i0 + i) m = some k ∧ RP.atK p obs k = some x ∧ o = RP.ob p x
  | [], _, _, _, _, _, h => by cases h
  | p :: l, i0, ys, hm, i, o, h => by
    unfold matchR at hm
    split at hm
    · cases hm
    · rename_i k hk
      split at hm
      · rename_i x hx
        split at hm
        · rename_i xs hxs
          injection hm with hm; subst hm
          cases i with
          | zero =>
            injection h with h
            exact ⟨k, p, x, hk, hx, h.symm⟩
          | succ i =>
            have := matchR_spec hxs i o h
            rwa [Nat.add_assoc, Nat.add_comm 1 i] at this
        · cases hm
      · cases hm

theorem mRoots_mem {i k : Nat} : ∀ {m : RMap}, get i m = some (some k) → k ∈ mRoots m
  | [], h => by cases h
  | (j, v) :: m, h => by
    unfold get at h
    cases e : Nat.beq j i with
    | true =>
      rw [e] at h
      injection h with h; subst h
      exact List.mem_cons_self
    | false =>
      rw [e] at h
      have := mRoots_mem (m := m) h
      cases v with
      | none => exact this
      | some k' => exact List.mem_cons_of_mem _ this

theorem mRoots_inj {i i' k : Nat} : ∀ {m : RMap}, (mRoots m).Nodup → get i m = some (some k) → get i' m = some (some k) → i = i'
  | [], _, h, _ => by cases h
  | (j, v) :: m, hn, h, h' => by
    unfold get at h h'
    have hn2 : (mRoots m).Nodup := by
      cases v with
      | none => exact hn
      | some k' => exact (List.nodup_cons.1 hn).2
    cases e : Nat.beq j i with
    | true =>
      rw [e] at h
      injection h with h; subst h
      have hn1 := (List.nodup_cons.1 hn).1
      cases e' : Nat.beq j i' with
      | true => exact (Nat.eq_of_beq_eq_true e).symm.trans (Nat.eq_of_beq_eq_true e')
      | false => rw [e'] at h'; exact absurd (mRoots_mem h') hn1
    | false =>
      rw [e] at h
      cases e' : Nat.beq j i' with
      | true =>
        rw [e'] at h'
        injection h' with h'; subst h'
        exact absurd (mRoots_mem h) (List.nodup_cons.1 hn).1
      | false => rw [e'] at h'; exact mRoots_inj hn2 h h'

theorem bindR_spec {i k : Nat} {m m' : RMap} (h : bindR i k m = some m') : get i m' = some (some k) ∧ ∀ j v, get j m = some v → get j m' = some v := by
  unfold bindR at h
  split at h
  · rename_i hg
    injection h with h; subst h
    refine ⟨by simp [get], fun j v hv => ?_⟩
    unfold get
    cases e : Nat.beq i j with
    | true => have := Nat.eq_of_beq_eq_true e; subst this; rw [hg] at hv; cases hv
    | false => exact hv
  · rename_i k' hg
    cases e : Nat.beq k k' with
    | false => rw [e] at h; cases h
    | true =>
      rw [e] at h
      injection h with h; subst h
      have := Nat.eq_of_beq_eq_true e
      subst this
      exact ⟨hg, fun _ _ h => h⟩
  · cases h

/-- What a slot of a pattern was. -/
def SlotOk (tm : List (Nat × V)) (m : RMap) (rs : List RP) (ys : RPs rs) (base t : Nat) (v : V) : Prop :=
  (∃ τ x v0, v = Ty.toV τ x ∧ get t tm = some v0 ∧ τ.plain = true ∧ τ.ofV v0 = some x) ∨
  (∃ i k, i < rs.length ∧ v = .hp ⟨base + i, []⟩ 0 0 ∧ get t tm = some (.hp ⟨k, []⟩ 0 0) ∧ get i m = some (some k)) ∨
  (∃ i, i < rs.length ∧ v = .hs ⟨base + i, []⟩ 0 (rootLen rs ys i) true ∧ ((∃ k n, get t tm = some (.hs ⟨k, []⟩ 0 n true) ∧ get i m = some (some k)) ∨ (get t tm = some .nils ∧ get i m = some none)))

theorem matchS_spec {tm : List (Nat × V)} {rs : List RP} {ys : RPs rs} {base : Nat} : ∀ {l : List (Nat × SP)} {m0 m : RMap} {xs : SPs l}, okS rs.length l = true → matchS l tm m0 = some (xs, m) →
    (∀ j v, get j m0 = some v → get j m = some v) ∧ ∀ t v, get t (buildS rs ys base l xs) = some v → SlotOk tm m rs ys base t v
  | [], m0, m, xs, _, h => by
    injection h with h; injection h with _ h; subst h
    exact ⟨fun _ _ h => h, fun t v h => by cases h⟩
  | (t0, .val τ) :: l, m0, m, xs, hok, h => by
    have h' : (match get t0 tm with
      | some v => match (bif τ.plain then τ.ofV v else none) with
        | some x => match matchS l tm m0 with
          | some (xs, m') => some ((x, xs), m')
          | none => none
        | none => none
      | none => none) = some (xs, m) := h
    split at h'
    · rename_i v0 hg
      split at h'
      · rename_i x hx
        split at h'
        · rename_i xs' m' hm
          injection h' with h'; injection h' with e1 e2; subst e1; subst e2
          obtain ⟨h1, h2⟩ := matchS_spec (l := l) (rs := rs) (ys := ys) (base := base) (show okS rs.length l = true from hok) hm
          refine ⟨h1, fun t v hv => ?_⟩
          have hv' : get t ((t0, τ.toV x) :: buildS rs ys base l xs') = some v := hv
          unfold get at hv'
          cases e : Nat.beq t0 t with
          | true =>
            rw [e] at hv'
            injection hv' with hv'
            have := Nat.eq_of_beq_eq_true e
            subst this
            cases hp : τ.plain with
            | false => rw [hp] at hx; cases hx
            | true => rw [hp] at hx; exact .inl ⟨τ, x, v0, hv'.symm, hg, hp, hx⟩
          | false => rw [e] at hv'; exact h2 t v hv'
        · cases h'
      · cases h'
    · cases h'
  | (t0, .ptr i) :: l, m0, m, xs, hok, h => by
    have hok' : (Nat.blt i rs.length && okS rs.length l) = true := hok
    rw [Bool.and_eq_true] at hok'
    have h' : (match get t0 tm with
      | some (.hp ⟨k, []⟩ 0 0) => match bindR i k m0 with
        | some m' => matchS l tm m'
        | none => none
      | _ => none) = some (xs, m) := h
    split at h'
    · rename_i k hg
      split at h'
      · rename_i m' hb
        obtain ⟨b1, b2⟩ := bindR_spec hb
        obtain ⟨h1, h2⟩ := matchS_spec (rs := rs) (ys := ys) (base := base) hok'.2 h'
        refine ⟨fun j v hv => h1 j v (b2 j v hv), fun t v hv => ?_⟩
        have hv' : get t ((t0, .hp ⟨base + i, []⟩ 0 0) :: buildS rs ys base l xs) = some v := hv
        unfold get at hv'
        cases e : Nat.beq t0 t with
        | true =>
          rw [e] at hv'
          injection hv' with hv'
          have := Nat.eq_of_beq_eq_true e
          subst this
          exact .inr (.inl ⟨i, k, by simpa [Nat.blt_eq] using hok'.1, hv'.symm, hg, h1 i _ b1⟩)
        | false => rw [e] at hv'; exact h2 t v hv'
      · cases h'
    · cases h'
  | (t0, .arr i) :: l, m0, m, xs, hok, h => by
    have hok' : (Nat.blt i rs.length && okS rs.length l) = true := hok
    rw [Bool.and_eq_true] at hok'
    have h' : (match get t0 tm with
      | some (.hs ⟨k, []⟩ 0 _ true) => match bindR i k m0 with
        | some m' => matchS l tm m'
        | none => none
      | some .nils => match get i m0 with
        | none => matchS l tm ((i, none) :: m0)
        | _ => none
      | _ => none) = some (xs, m) := h
    split at h'
    · rename_i k n hg
      split at h'
      · rename_i m' hb
        obtain ⟨b1, b2⟩ := bindR_spec hb
        obtain ⟨h1, h2⟩ := matchS_spec (rs := rs) (ys := ys) (base := base) hok'.2 h'
        refine ⟨fun j v hv => h1 j v (b2 j v hv), fun t v hv => ?_⟩
        have hv' : get t ((t0, .hs ⟨base + i, []⟩ 0 (rootLen rs ys i) true) :: buildS rs ys base l xs) = some v := hv
        unfold get at hv'
        cases e : Nat.beq t0 t with
        | true =>
          rw [e] at hv'
          injection hv' with hv'
          have := Nat.eq_of_beq_eq_true e
          subst this
          exact .inr (.inr ⟨i, by simpa [Nat.blt_eq] using hok'.1, hv'.symm, .inl ⟨k, n, hg, h1 i _ b1⟩⟩)
        | false => rw [e] at hv'; exact h2 t v hv'
      · cases h'
    · rename_i hg
      split at h'
      · rename_i hi
        obtain ⟨h1, h2⟩ := matchS_spec (rs := rs) (ys := ys) (base := base) hok'.2 h'
        refine ⟨fun j v hv => h1 j v ?_, fun t v hv => ?_⟩
        · unfold get
          cases e : Nat.beq i j with
          | true => have := Nat.eq_of_beq_eq_true e; subst this; rw [hi] at hv; cases hv
          | false => exact hv
        · have hv' : get t ((t0, .hs ⟨base + i, []⟩ 0 (rootLen rs ys i) true) :: buildS rs ys base l xs) = some v := hv
          unfold get at hv'
          cases e : Nat.beq t0 t with
          | true =>
            rw [e] at hv'
            injection hv' with hv'
            have := Nat.eq_of_beq_eq_true e
            subst this
            exact .inr (.inr ⟨i, by simpa [Nat.blt_eq] using hok'.1, hv'.symm, .inr ⟨hg, h1 i _ (by simp [get])⟩⟩)
          | false => rw [e] at hv'; exact h2 t v hv'
      · cases h'
    · cases h'
end Go.Lf

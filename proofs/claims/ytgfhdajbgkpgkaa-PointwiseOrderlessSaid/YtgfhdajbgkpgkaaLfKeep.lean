import Derived.Test.YtgfhdajbgkpgkaaLfUniq
set_option linter.unusedVariables false
/-! Lf: ways behind a write. -/
namespace Go.Lf

def inRange : Ob → Nat → Nat → Nat → Nat → Nat → Prop
  | .box _ _, _, j, n, _, j1 => j ≤ j1 ∧ j1 < j + n
  | .arr _ _, i, j, n, i1, j1 => i1 = i ∧ j ≤ j1 ∧ j1 < j + n

theorem inRange_dec (o : Ob) (i j n i1 j1 : Nat) : inRange o i j n i1 j1 ∨ ¬ inRange o i j n i1 j1 := Classical.em _

theorem writeK_like {o o' : Ob} {i j : Nat} {vs : List V} (h : o.writeK i j vs some = some o') : o.like o' := by
  cases o with
  | box t fs =>
    have h' : (bif Nat.ble (j + vs.length) fs.length then some (.box t (setAt j vs fs)) else none) = some o' := h
    cases hb : Nat.ble (j + vs.length) fs.length with
    | false => rw [hb] at h'; cases h'
    | true => rw [hb] at h'; injection h' with h'; subst h'; trivial
  | arr τ l =>
    have h' : ((l[i]?).bind fun x => match τ.ofAll (setAt j vs (τ.leaves x)) with | some y => some (.arr τ (l.set i y)) | none => none) = some o' := h
    obtain ⟨x, _, h2⟩ := some_of_bind h'
    split at h2
    · injection h2 with h2; subst h2
      exact ⟨rfl, by simp⟩
    · cases h2

/-- The leaves beside a write. -/
theorem writeK_out {o o' : Ob} {i j : Nat} {vs : List V} (h : o.writeK i j vs some = some o') {i1 j1 : Nat} (hn : ¬ inRange o i j vs.length i1 j1) : leafAt o' i1 j1 = leafAt o i1 j1 := by
  cases o with
  | box t fs =>
    have h' : (bif Nat.ble (j + vs.length) fs.length then some (.box t (setAt j vs fs)) else none) = some o' := h
    cases hb : Nat.ble (j + vs.length) fs.length with
    | false => rw [hb] at h'; cases h'
    | true =>
      rw [hb] at h'; injection h' with h'; subst h'
      simp only [leafAt]
      rw [setAt_get (Nat.le_of_ble_eq_true hb)]
      simp only [inRange] at hn
      by_cases c : j1 < j
      · rw [if_pos c]
      · rw [if_neg c, if_neg (by omega)]
  | arr τ l =>
    have h' : ((l[i]?).bind fun x => match τ.ofAll (setAt j vs (τ.leaves x)) with | some y => some (.arr τ (l.set i y)) | none => none) = some o' := h
    obtain ⟨x, hx, h2⟩ := some_of_bind h'
    split at h2
    · rename_i y hy
      injection h2 with h2; subst h2
      simp only [leafAt]
      rw [List.getElem?_set]
      have hil : i < l.length := (List.getElem?_eq_some_iff.1 hx).1
      by_cases e : i = i1
      · subst e
        have hn' : ¬ (j ≤ j1 ∧ j1 < j + vs.length) := fun h => hn ⟨rfl, h⟩
        rw [if_pos rfl, if_pos hil, hx]
        simp only [Option.bind]
        have hlen := ofAll_length hy
        have hl2 := Ty.leaves_length τ y
        have hl3 := Ty.leaves_length τ x
        by_cases c : j1 < τ.size
        · obtain ⟨v, hv⟩ : ∃ v, (τ.leaves x)[j1]? = some v := ⟨_, List.getElem?_eq_getElem (by omega)⟩
          have hv2 : (setAt j vs (τ.leaves x))[j1]? = some v := by
            by_cases hvs : vs = []
            · subst hvs; simp [setAt]; exact hv
            · rw [setAt_get (setAt_fits (by rw [hlen, hl3]) hvs)]
              by_cases c1 : j1 < j
              · rw [if_pos c1]; exact hv
              · rw [if_neg c1, if_neg (by omega)]; exact hv
          rw [leaf_same hy hv hv2, hv]
        · rw [List.getElem?_eq_none (by omega), List.getElem?_eq_none (by omega)]
      · rw [if_neg e]
    · cases h2

/-- The leaves of a write. -/
theorem writeK_in {o o' : Ob} {i j : Nat} {vs : List V} (h : o.writeK i j vs some = some o') {i1 j1 : Nat} (hn : inRange o i j vs.length i1 j1) {v' : V} (hv' : leafAt o' i1 j1 = some v') {os : Ob} (ho : obOf v' = some os) :
    ∃ v, vs[j1 - j]? = some v ∧ (isOwned v = true ∨ v = .nils) := by
  cases o with
  | box t fs =>
    have h' : (bif Nat.ble (j + vs.length) fs.length then some (.box t (setAt j vs fs)) else none) = some o' := h
    cases hb : Nat.ble (j + vs.length) fs.length with
    | false => rw [hb] at h'; cases h'
    | true =>
      rw [hb] at h'; injection h' with h'; subst h'
      simp only [leafAt] at hv'
      simp only [inRange] at hn
      rw [setAt_get (Nat.le_of_ble_eq_true hb), if_neg (by omega), if_pos (by omega)] at hv'
      refine ⟨v', hv', .inl ?_⟩
      cases v' <;> first | rfl | cases ho
  | arr τ l =>
    have h' : ((l[i]?).bind fun x => match τ.ofAll (setAt j vs (τ.leaves x)) with | some y => some (.arr τ (l.set i y)) | none => none) = some o' := h
    obtain ⟨x, hx, h2⟩ := some_of_bind h'
    split at h2
    · rename_i y hy
      injection h2 with h2; subst h2
      simp only [inRange] at hn
      obtain ⟨e, h1, h3⟩ := hn
      subst e
      have hil : i1 < l.length := (List.getElem?_eq_some_iff.1 hx).1
      simp only [leafAt] at hv'
      rw [List.getElem?_set, if_pos rfl, if_pos hil] at hv'
      have hv2 : (τ.leaves y)[j1]? = some v' := hv'
      have hj : j1 < τ.size := by rw [← Ty.leaves_length τ y]; exact (List.getElem?_eq_some_iff.1 hv2).1
      obtain ⟨σ, v, z, w', a1, a2, a3, a4, a5⟩ := leaf_read_all hy j1 hj
      rw [hv2] at a5; injection a5 with a5; subst a5
      have hvs : vs ≠ [] := fun e => by rw [e] at h3; simp at h3; omega
      rw [setAt_get (setAt_fits (by rw [ofAll_length hy, Ty.leaves_length]) hvs), if_neg (by omega), if_pos h3] at a2
      refine ⟨v, a2, ?_⟩
      cases σ with
      | pair => exact (Ty.lty_leaf a1).elim
      | unit => exact (Ty.lty_leaf a1).elim
      | int => injection a4 with a4 _; subst a4; cases ho
      | bool => injection a4 with a4 _; subst a4; cases ho
      | sl => injection a4 with a4 _; subst a4; cases ho
      | ow a =>
        unfold Ty.ofLeaf at a3
        cases v <;> first | exact .inl rfl | exact .inr rfl | cases a3
      | bx a =>
        unfold Ty.ofLeaf at a3
        cases v <;> first | exact .inl rfl | cases a3
    · cases h2

/-- The one leaf that stands for an object. -/
theorem writeK_rest {o o' os : Ob} {i j : Nat} {v v' : V} (h : o.writeK i j [v'] some = some o') (hv : leafAt o i j = some v) (hr : os.rest v = some v') {i1 j1 : Nat} (hn : inRange o i j 1 i1 j1) : leafAt o' i1 j1 = some v' := by
  cases o with
  | box t fs =>
    have h' : (bif Nat.ble (j + 1) fs.length then some (.box t (setAt j [v'] fs)) else none) = some o' := h
    cases hb : Nat.ble (j + 1) fs.length with
    | false => rw [hb] at h'; cases h'
    | true =>
      rw [hb] at h'; injection h' with h'; subst h'
      simp only [inRange] at hn
      have e : j1 = j := by omega
      subst e
      simp only [leafAt]
      rw [setAt_get (vs := [v']) (Nat.le_of_ble_eq_true hb), if_neg (by omega), if_pos (by simp)]
      simp
  | arr τ l =>
    have h' : ((l[i]?).bind fun x => match τ.ofAll (setAt j [v'] (τ.leaves x)) with | some y => some (.arr τ (l.set i y)) | none => none) = some o' := h
    obtain ⟨x, hx, h2⟩ := some_of_bind h'
    split at h2
    · rename_i y hy
      injection h2 with h2; subst h2
      simp only [inRange] at hn
      have e1 : i1 = i := hn.1
      have e2 : j1 = j := by omega
      subst e1; subst e2
      have hil : i1 < l.length := (List.getElem?_eq_some_iff.1 hx).1
      simp only [leafAt] at hv ⊢
      rw [hx] at hv
      rw [List.getElem?_set, if_pos rfl, if_pos hil]
      have hv2 : (τ.leaves x)[j1]? = some v := hv
      refine leaf_rest hy hv2 ?_ hr
      rw [setAt_get (vs := [v']) (setAt_fits (by rw [ofAll_length hy, Ty.leaves_length]) (by simp)), if_neg (by omega), if_pos (by simp)]
      simp
    · cases h2

theorem leafK_nat {R : Type} (o : Ob) (i j : Nat) (K : V → Option R) : o.leafK i j K = (leafAt o i j).bind K := by
  cases h : leafAt o i j with
  | none =>
    cases hk : o.leafK i j K with
    | none => rfl
    | some r =>
      obtain ⟨v, hv, _⟩ := leafK_some hk
      rw [h] at hv; cases hv
  | some v => exact leafK_eq h K

theorem writeK_nat {R : Type} (o : Ob) (i j : Nat) (vs : List V) (K : Ob → Option R) : o.writeK i j vs K = (o.writeK i j vs some).bind K := by
  cases o with
  | box t fs =>
    unfold Ob.writeK
    simp only
    cases Nat.ble (j + vs.length) fs.length <;> rfl
  | arr τ l =>
    unfold Ob.writeK
    simp only
    cases l[i]? with
    | none => rfl
    | some x =>
      simp only [Option.bind]
      split <;> rfl

theorem updK_nat {R : Type} {o1' : Ob} : ∀ (p : List (Nat × Nat)) (o0 : Ob) (K : Ob → Option R), Ob.updK p o0 (fun _ K' => K' o1') K = (Ob.updK p o0 (fun _ K' => K' o1') some).bind K
  | [], o0, K => rfl
  | (i, j) :: p, o0, K => by
    rw [updK_cons, updK_cons, leafK_nat, leafK_nat]
    cases leafAt o0 i j with
    | none => rfl
    | some v =>
      simp only [Option.bind]
      cases obOf v with
      | none => rfl
      | some os =>
        refine (updK_nat p os _).trans (Eq.trans ?_ (congrArg (fun z => Option.bind z K) (updK_nat p os _)).symm)
        cases Ob.updK p os (fun _ K' => K' o1') some with
        | none => rfl
        | some os' =>
          simp only [Option.bind]
          cases os'.rest v with
          | none => rfl
          | some v' => exact writeK_nat o0 i j [v'] K

theorem updK_go {R : Type} : ∀ {p : List (Nat × Nat)} {o0 : Ob} {Fn : Ob → (Ob → Option R) → Option R} {K : Ob → Option R} {r : R}, Ob.updK p o0 Fn K = some r → ∃ o1, o0.goK p some = some o1
  | [], o0, Fn, K, r, h => ⟨o0, rfl⟩
  | (i, j) :: p, o0, Fn, K, r, h => by
    rw [updK_cons] at h
    obtain ⟨v, hv, h⟩ := leafK_some h
    cases ho : obOf v with
    | none => rw [ho] at h; cases h
    | some os =>
      rw [ho] at h
      obtain ⟨o1, h1⟩ := updK_go (p := p) (o0 := os) h
      refine ⟨o1, ?_⟩
      rw [goK_cons, leafK_eq hv]
      simp only [ho]
      exact h1

/-- Which ways a write along q lets be. -/
def okq : List (Nat × Nat) → (List (Nat × Nat) → Prop) → List (Nat × Nat) → Prop
  | [], ok, p => ok p
  | _ :: _, _, [] => True
  | (_, j) :: q, ok, (_, j1) :: p => j1 = j → okq q ok p

theorem way_step {w : World} {o : Ob} {b off i j : Nat} {p : List (Nat × Nat)} {x : Ob × Option (Nat × Nat)} (h : way w o (some (b, off)) ((i, j) :: p) = some x) :
    ∃ v o1 u, leafAt o i j = some v ∧ obOf v = some o1 ∧ w.cell? ⟨b, off + ix o i j, none⟩ = some u ∧ (∀ τ y, v = .bx τ y → ∃ ad, u = .pointer (some ad)) ∧ way w o1 (locOfV v u) p = some x := by
  simp only [way] at h
  split at h
  · rename_i τ l u hv hu
    exact ⟨_, _, u, hv, rfl, hu, fun _ _ e => (by cases e), h⟩
  · rename_i τ y ad hv hu
    exact ⟨_, _, _, hv, rfl, hu, fun _ _ _ => ⟨ad, rfl⟩, h⟩
  · cases h

theorem way_mk {w : World} {o o1 : Ob} {b off i j : Nat} {p : List (Nat × Nat)} {v : V} {u : Value} (hv : leafAt o i j = some v) (ho : obOf v = some o1) (hu : w.cell? ⟨b, off + ix o i j, none⟩ = some u) (hb : ∀ τ y, v = .bx τ y → ∃ ad, u = .pointer (some ad)) :
    way w o (some (b, off)) ((i, j) :: p) = way w o1 (locOfV v u) p := by
  simp only [way, hv, hu]
  cases v with
  | ow τ l => injection ho with ho; subst ho; rfl
  | bx τ x =>
    injection ho with ho; subst ho
    obtain ⟨ad, e⟩ := hb τ x rfl
    subst e
    rfl
  | _ => cases ho

/-- What stands for o' where it lies at rest. -/
def StdOf (o o' o'' : Ob) : Prop :=
  o'' = o' ∨ ∃ (τ : Ty) (x : τ.den) (t : Option Ty) (fs : List V) (y : τ.den), o = .box (some τ) (τ.leaves x) ∧ o' = .box t fs ∧ τ.ofAll fs = some y ∧ o'' = .box (some τ) (τ.leaves y)

theorem std_like {o o' o'' : Ob} (h : StdOf o o' o'') (hl : o.like o') : o.like o'' := by
  rcases h with rfl | ⟨τ, x, t, fs, y, rfl, _, _, rfl⟩
  · exact hl
  · trivial

theorem no_nils {t : Option Ty} {τ : Ty} {x : τ.den} {i j : Nat} : leafAt (.box t (τ.leaves x)) i j ≠ some .nils := by
  intro h
  obtain ⟨σ, hσ, z, hz, hr⟩ := leaf_own τ x j .nils h
  cases σ with
  | pair => exact (Ty.lty_leaf hσ).elim
  | unit => exact (Ty.lty_leaf hσ).elim
  | _ => injection hz with hz _; cases hz

theorem std_leaf {o o' o'' os : Ob} {i j : Nat} {v : V} (h : StdOf o o' o'') (hv : leafAt o'' i j = some v) (ho : obOf v = some os) : leafAt o' i j = some v ∨ (leafAt o' i j = some .nils ∧ leafAt o i j ≠ some .nils ∧ ∃ t fs t' fs', o' = .box t fs ∧ o = .box t' fs') := by
  rcases h with rfl | ⟨τ, x, t, fs, y, rfl, rfl, hy, rfl⟩
  · exact .inl hv
  · have hj : j < τ.size := by rw [← Ty.leaves_length τ y]; exact (List.getElem?_eq_some_iff.1 (show (τ.leaves y)[j]? = some v from hv)).1
    obtain ⟨σ, w, z, w', a1, a2, a3, a4, a5⟩ := leaf_read_all hy j hj
    rw [show (τ.leaves y)[j]? = some v from hv] at a5; injection a5 with a5; subst a5
    cases σ with
    | pair => exact (Ty.lty_leaf a1).elim
    | unit => exact (Ty.lty_leaf a1).elim
    | int => injection a4 with a4 _; subst a4; cases ho
    | bool => injection a4 with a4 _; subst a4; cases ho
    | sl => injection a4 with a4 _; subst a4; cases ho
    | ow a =>
      injection a4 with a4 _
      unfold Ty.ofLeaf at a3
      cases w <;> first
        | (cases a3; done)
        | exact .inr ⟨a2, no_nils, _, _, _, _, rfl, rfl⟩
        | (simp only at a3
           split at a3
           · rename_i hb
             have e := Ty.beq_eq hb
             subst e
             injection a3 with a3
             subst a3
             rw [castL_self] at a4
             exact .inl (by rw [← a4]; exact a2)
           · cases a3)
    | bx a =>
      injection a4 with a4 _
      unfold Ty.ofLeaf at a3
      cases w <;> first
        | (cases a3; done)
        | (simp only at a3
           split at a3
           · rename_i hb
             have e := Ty.beq_eq hb
             subst e
             injection a3 with a3
             subst a3
             rw [castTo_self] at a4
             exact .inl (by rw [← a4]; exact a2)
           · cases a3)

/-- What a leaf that has been laid to rest stands for. -/
theorem rest_std {os os' os'' : Ob} {v v' : V} (ho : obOf v = some os) (hr : os'.rest v = some v') (h : obOf v' = some os'') : StdOf os os' os'' ∧ ∀ u, locOfV v' u = locOfV v u := by
  unfold Ob.rest at hr
  split at hr
  · injection hr with hr; subst hr
    injection h with h; subst h
    exact ⟨.inl rfl, fun _ => rfl⟩
  · split at hr
    · rename_i y hy
      injection hr with hr; subst hr
      injection ho with ho; subst ho
      injection h with h; subst h
      exact ⟨.inr ⟨_, _, _, _, _, rfl, rfl, hy, rfl⟩, fun u => by cases u with | pointer a => cases a <;> rfl | _ => rfl⟩
    · cases hr
  · cases hr

theorem rest_bx {o : Ob} {v v' : V} {τ : Ty} {y : τ.den} (h : o.rest v = some v') (e : v' = .bx τ y) : ∃ y0, v = .bx τ y0 := by
  unfold Ob.rest at h
  split at h
  · injection h with h; subst h; cases e
  · split at h
    · injection h with h; subst h
      injection e with e1 e2; subst e1
      exact ⟨_, rfl⟩
    · cases h
  · cases h

theorem ix_std {o o' : Ob} (h : o.like o') (i j : Nat) : ix o' i j = ix o i j := (ix_like h i j).symm

theorem not_inRange_one {o : Ob} {i j i1 j1 : Nat} (h : ¬ inRange o i j 1 i1 j1) : apartL o i j i1 j1 := by
  cases o with
  | box t fs => simp only [inRange] at h; simp only [apartL]; omega
  | arr τ l => simp only [inRange] at h; simp only [apartL]; omega

theorem inRange_one {o : Ob} {i j i1 j1 : Nat} (h : inRange o i j 1 i1 j1) : j1 = j := by
  cases o with
  | box t fs => simp only [inRange] at h; omega
  | arr τ l => simp only [inRange] at h; omega

/-- Ways behind a write along q. -/
theorem way_upd {w w' : World} {F : Bs} {Gx G1 : Bs} {o1 o1' : Ob} {loc1 : Option (Nat × Nat)} {ok : List (Nat × Nat) → Prop} (hsize : w.heap.size ≤ w'.heap.size) (hout : ∀ b, ¬ F b → b < w.heap.size → w'.heap[b]? = w.heap[b]?)
    (h1 : ObR w F o1 loc1 G1) (hGx : ∀ n, Gx n → G1 n)
    (hbase : ∀ o1'', StdOf o1 o1' o1'' → ∀ p, ok p → ∀ o' loc, way w' o1'' loc1 p = some (o', loc) → ∃ o, way w o1 loc1 p = some (o, loc) ∧ o.like o') :
    ∀ (q : List (Nat × Nat)) {o0 : Ob} {loc0 : Option (Nat × Nat)} {G0 : Bs} {o0' : Ob}, ObR w F o0 loc0 G0 → way w o0 loc0 q = some (o1, loc1) → (∀ c, G0 c → ¬ Gx c → w'.heap[c]? = w.heap[c]?) → Ob.updK q o0 (fun _ K' => K' o1') some = some o0' →
      ∀ o0'', StdOf o0 o0' o0'' → ∀ p, okq q ok p → ∀ o' loc, way w' o0'' loc0 p = some (o', loc) → ∃ o, way w o0 loc0 p = some (o, loc) ∧ o.like o'
  | [], o0, loc0, G0, o0', h0, hw, hm, hu, o0'', hstd, p, hp, o', loc, hl => by
    have hw' : some (o0, loc0) = some (o1, loc1) := hw
    injection hw' with hw'; injection hw' with e1 e2; subst e1; subst e2
    have hu' : some o1' = some o0' := hu
    injection hu' with hu'; subst hu'
    exact hbase o0'' hstd p hp o' loc hl
  | (i, j) :: q, o0, loc0, G0, o0', h0, hw, hm, hu, o0'', hstd, p, hp, o', loc, hl => by
    cases loc0 with
    | none => cases hw
    | some bo =>
      obtain ⟨b, off⟩ := bo
      obtain ⟨v, os, u, hv, ho, hc, hbx, hwq⟩ := way_step hw
      obtain ⟨b2, off2, u2, Gm, hl2, hb, hc2, hlf, hsm, hnb⟩ := leaf_rel h0 hv
      injection hl2 with hl2; injection hl2 with e1 e2; subst e1; subst e2
      rw [hc] at hc2; injection hc2 with hc2; subst hc2
      have hsub := ob_of_leaf hlf ho
      rw [updK_cons, leafK_eq hv] at hu
      simp only [ho] at hu
      rw [updK_nat] at hu
      obtain ⟨os', hu1, hu2⟩ := some_of_bind hu
      -- what the write touches lies in the leaf's own blocks
      have hxm : ∀ n, Gx n → Gm n := by
        intro n hn
        obtain ⟨G1', hG1', s1⟩ := way_ob q hsub hwq
        exact s1 n ((h1.uniq hG1' n).1 (hGx n hn))
      cases hr : os'.rest v with
      | none => rw [hr] at hu2; cases hu2
      | some v' =>
        rw [hr] at hu2
        have hu3 : o0.writeK i j [v'] some = some o0' := hu2
        have hlike := writeK_like hu3
        have hlike2 := std_like hstd hlike
        have hbsame : w'.heap[b]? = w.heap[b]? := hm b hb fun hx => hnb b (hxm b hx) rfl
        cases p with
        | nil =>
          have hl' : some (o0'', some (b, off)) = some (o', loc) := hl
          injection hl' with hl'; injection hl' with e1 e2; subst e1; subst e2
          exact ⟨o0, rfl, hlike2⟩
        | cons ij p =>
          obtain ⟨i1, j1⟩ := ij
          obtain ⟨v1, os1, u1, hv1, ho1, hc1, hbx1, hw1⟩ := way_step hl
          have hc1' : w.cell? ⟨b, off + ix o0 i1 j1, none⟩ = some u1 := by
            rw [ix_std hlike2] at hc1
            rw [← cell_same hbsame]; exact hc1
          by_cases hin : inRange o0 i j 1 i1 j1
          · -- through the leaf
            have hv' := writeK_rest hu3 hv hr hin
            have e : v1 = v' := by
              rcases std_leaf hstd hv1 ho1 with h | ⟨h, _⟩
              · rw [hv'] at h; injection h with h; exact h.symm
              · rw [hv'] at h; injection h with h; subst h
                unfold Ob.rest at hr
                split at hr
                · cases hr
                · split at hr <;> cases hr
                · cases hr
            subst e
            obtain ⟨hs2, hloc⟩ := rest_std ho hr ho1
            have ej := inRange_one hin
            have hix : ix o0 i1 j1 = ix o0 i j := by
              cases o0 with
              | box t fs => exact ej
              | arr τ l => simp only [inRange] at hin; simp only [ix]; rw [hin.1, ej]
            have hu1c : u1 = u := by
              rw [hix, hc] at hc1'; injection hc1' with h; exact h.symm
            subst hu1c
            rw [hloc] at hw1
            obtain ⟨o, hwo, hlk⟩ := way_upd hsize hout h1 hGx hbase q hsub hwq (fun c hc hx => hm c (hsm c hc) hx) hu1 os1 hs2 p (hp ej) o' loc hw1
            refine ⟨o, ?_, hlk⟩
            have hv0 : leafAt o0 i1 j1 = some v := by
              cases o0 with
              | box t fs => simp only [leafAt] at hv ⊢; rw [ej]; exact hv
              | arr τ l => simp only [inRange] at hin; rw [hin.1, ej]; exact hv
            rw [way_mk hv0 ho (by rw [hix]; exact hc) hbx]
            exact hwo
          · -- beside it
            have hout1 := writeK_out hu3 (vs := [v']) hin
            have hv0 : leafAt o0 i1 j1 = some v1 := by
              rcases std_leaf hstd hv1 ho1 with h | ⟨h, h2, _⟩
              · rw [← hout1]; exact h
              · rw [hout1] at h; exact absurd h h2
            obtain ⟨b3, off3, u3, Ga, u4, Gb, hl3, _, hc3, hlf3, hs3, _, hc4, hlf4, hs4, hnb4, hd⟩ := leaf_rel2 h0 hv hv0 (not_inRange_one hin)
            injection hl3 with hl3; injection hl3 with e1 e2; subst e1; subst e2
            rw [hc1'] at hc4; injection hc4 with hc4; subst hc4
            rw [hc] at hc3; injection hc3 with hc3; subst hc3
            have hst : Stay w F w' (fun _ => False) Gb := ⟨hsize, fun c hc => hm c (hs4 c hc) fun hx => hd c ((hlf.uniq hlf3 c).1 (hxm c hx)) hc, hout, fun _ h => h.elim⟩
            rw [way_stays p (ob_of_leaf hlf4 ho1) hst] at hw1
            exact ⟨o', by rw [way_mk hv0 ho1 hc1' hbx1]; exact hw1, Ob.like.refl o'⟩

theorem ix_apart {o : Ob} {e j n i1 j1 : Nat} {v : V} (h : ¬ inRange o e j n i1 j1) (hv : leafAt o i1 j1 = some v) (hf : fits o e j n) : ix o i1 j1 < ix o e j ∨ ix o e j + n ≤ ix o i1 j1 := by
  cases o with
  | box t fs => simp only [inRange] at h; simp only [ix]; omega
  | arr τ l =>
    simp only [inRange] at h
    simp only [ix]
    have hf' : e < l.length ∧ j + n ≤ τ.size := hf
    simp only [leafAt] at hv
    obtain ⟨x, hx, hv⟩ := some_of_bind hv
    have hj : j1 < τ.size := by rw [← Ty.leaves_length τ x]; exact (List.getElem?_eq_some_iff.1 hv).1
    rcases Nat.lt_trichotomy i1 e with c | c | c
    · have : (i1 + 1) * τ.size ≤ e * τ.size := Nat.mul_le_mul_right _ c
      rw [Nat.add_mul, Nat.one_mul] at this
      omega
    · subst c
      have : ¬ (j ≤ j1 ∧ j1 < j + n) := fun h' => h ⟨rfl, h'⟩
      omega
    · have : (e + 1) * τ.size ≤ i1 * τ.size := Nat.mul_le_mul_right _ c
      rw [Nat.add_mul, Nat.one_mul] at this
      omega

/-- Ways behind a write of leaves. -/
theorem way_write {w w' : World} {F : Bs} {o1 o1' : Ob} {b off : Nat} {G1 : Bs} {e j : Nat} {vs : List V} {us : List Value} {row row' : Array Value} (hsize : w.heap.size ≤ w'.heap.size) (hout : ∀ b, ¬ F b → b < w.heap.size → w'.heap[b]? = w.heap[b]?)
    (h1 : ObR w F o1 (some (b, off)) G1) (hvs : vs ≠ []) (hw : o1.writeK e j vs some = some o1') (hr : Row w b row) (hr' : Row w' b row') (hsp : Spliced row row' (off + ix o1 e j) us) (hul : us.length = vs.length)
    (hm : ∀ c, G1 c → c ≠ b → w'.heap[c]? = w.heap[c]?) :
    ∀ o1'', StdOf o1 o1' o1'' → ∀ p, (∀ i1 j1 p' v, p = (i1, j1) :: p' → inRange o1 e j vs.length i1 j1 → vs[j1 - j]? = some v → ¬ (isOwned v = true ∨ v = .nils)) → ∀ o' loc, way w' o1'' (some (b, off)) p = some (o', loc) → ∃ o, way w o1 (some (b, off)) p = some (o, loc) ∧ o.like o' := by
  intro o1'' hstd p hp o' loc hl
  have hlike2 := std_like hstd (writeK_like hw)
  cases p with
  | nil =>
    have hl' : some (o1'', some (b, off)) = some (o', loc) := hl
    injection hl' with hl'; injection hl' with e1 e2; subst e1; subst e2
    exact ⟨o1, rfl, hlike2⟩
  | cons ij p =>
    obtain ⟨i1, j1⟩ := ij
    obtain ⟨v1, os1, u1, hv1, ho1, hc1, hbx1, hw1⟩ := way_step hl
    by_cases hin : inRange o1 e j vs.length i1 j1
    · exfalso
      rcases std_leaf hstd hv1 ho1 with h | ⟨h, _, t, fs, t', fs', e1, e2⟩
      · obtain ⟨v, hv, hd⟩ := writeK_in hw hin h ho1
        exact hp i1 j1 p v rfl hin hv hd
      · subst e1; subst e2
        have h' : (bif Nat.ble (j + vs.length) fs'.length then some (Ob.box t' (setAt j vs fs')) else none) = some (.box t fs) := hw
        cases hb : Nat.ble (j + vs.length) fs'.length with
        | false => rw [hb] at h'; cases h'
        | true =>
          rw [hb] at h'; injection h' with h'; injection h' with e1 e2; subst e2
          have hin' := hin
          simp only [inRange] at hin'
          simp only [leafAt] at h
          rw [setAt_get (Nat.le_of_ble_eq_true hb), if_neg (by omega), if_pos (by omega)] at h
          exact hp i1 j1 p .nils rfl hin h (.inr rfl)
    · have hout1 := writeK_out hw hin
      have hv0 : leafAt o1 i1 j1 = some v1 := by
        rcases std_leaf hstd hv1 ho1 with h | ⟨h, h2, _⟩
        · rw [← hout1]; exact h
        · rw [hout1] at h; exact absurd h h2
      obtain ⟨b2, off2, u2, Gm, hl2, hb, hc2, hlf, hsm, hnb⟩ := leaf_rel h1 hv0
      injection hl2 with hl2; injection hl2 with e1 e2; subst e1; subst e2
      have hc1' : w.cell? ⟨b, off + ix o1 i1 j1, none⟩ = some u1 := by
        rw [ix_std hlike2] at hc1
        have hap := ix_apart hin hv0 (fits_of_write hvs hw)
        obtain ⟨t1, hrow1⟩ := hr
        obtain ⟨t2, hrow2⟩ := hr'
        simp only [World.cell?, hrow1, hrow2] at hc1 ⊢
        have hg := hsp.get (off + ix o1 i1 j1)
        rw [Array.getElem?_toList, Array.getElem?_toList] at hg
        simp only [Option.isSome_none, Bool.false_eq_true, if_false] at hc1 ⊢
        rw [hg] at hc1
        rcases hap with h | h
        · rw [if_pos (by omega)] at hc1; exact hc1
        · rw [if_neg (by omega), if_neg (by omega)] at hc1; exact hc1
      rw [hc1'] at hc2; injection hc2 with hc2; subst hc2
      have hst : Stay w F w' (fun _ => False) Gm := ⟨hsize, fun c hc => hm c (hsm c hc) (hnb c hc), hout, fun _ h => h.elim⟩
      rw [way_stays p (ob_of_leaf hlf ho1) hst] at hw1
      exact ⟨o', by rw [way_mk hv0 ho1 hc1' hbx1]; exact hw1, Ob.like.refl o'⟩

end Go.Lf

import Derived.Test.YtgfhdajbgkpgkaaLfStep
set_option linter.unusedVariables false
/-! Lf: what is read through a way. -/
namespace Go.Lf

theorem goK_some {R : Type} : ∀ {p : List (Nat × Nat)} {o : Ob} {K : Ob → Option R} {r : R}, o.goK p K = some r → ∃ o1, o.goK p some = some o1 ∧ K o1 = some r
  | [], o, K, r, h => ⟨o, rfl, h⟩
  | (i, j) :: p, o, K, r, h => by
    rw [goK_cons] at h
    obtain ⟨v, hv, h⟩ := leafK_some h
    cases ho : obOf v with
    | none => rw [ho] at h; cases h
    | some o1 =>
      rw [ho] at h
      have h' : o1.goK p K = some r := h
      obtain ⟨o2, h2, hK⟩ := goK_some h'
      refine ⟨o2, ?_, hK⟩
      rw [goK_cons, leafK_eq hv]
      simp only [ho]
      exact h2

theorem way_append {w : World} : ∀ (p q : List (Nat × Nat)) {o : Ob} {loc : Option (Nat × Nat)} {o1 : Ob} {loc1 : Option (Nat × Nat)}, way w o loc p = some (o1, loc1) → way w o loc (p ++ q) = way w o1 loc1 q
  | [], q, o, loc, o1, loc1, h => by
    have h' : some (o, loc) = some (o1, loc1) := h
    injection h' with h'; injection h' with h1 h2; subst h1; subst h2; rfl
  | (i, j) :: p, q, o, loc, o1, loc1, h => by
    cases loc with
    | none => cases h
    | some bo =>
      obtain ⟨b, off⟩ := bo
      simp only [List.cons_append, way] at h ⊢
      split at h
      · rename_i τ l u hv hu
        exact way_append p q h
      · rename_i τ x ad hv hu
        exact way_append p q h
      · cases h

section
variable {P : Program} {C : Ctx} {w : World} {E : Bs} {β : Nat → Option (Nat × Nat)} {obs : List (Nat × Ob)} {F : Bs} {Gk : Nat → Bs}

/-- An object that a place leads to. -/
theorem atRef_ok {R : Type} (hob : ObsR w E F β obs Gk) {r : Ref} {K : Ob → Option R} {x : R} (h : atRef obs r K = some x) :
    ∃ o loc G, atLoc w β obs r = some (o, loc) ∧ ObR w F o loc G ∧ (∀ n, G n → F n) ∧ K o = some x ∧
      ∀ (R' : Type) (K' : Ob → Option R') (obs' : List (Nat × Ob)), get r.root obs' = get r.root obs → atRef obs' r K' = K' o := by
  unfold atRef at h
  split at h
  · rename_i o0 hg
    obtain ⟨o1, hgo, hK⟩ := goK_some h
    obtain ⟨loc1, G1, hway, hob1, hs, hall, _⟩ := upd_path r.path (hob.rel _ _ hg) hgo
    refine ⟨o1, loc1, G1, ?_, hob1, fun n hn => (hob.cov n).2 (.inr ⟨_, _, hg, hs n hn⟩), hK, fun R' K' obs' e => ?_⟩
    · simp only [atLoc, hg]; exact hway
    · unfold atRef
      rw [e, hg]
      exact hall R' K'
  · cases h

theorem leafVR {v : V} {u : Value} {G : Bs} (h : LfR w F v u G) (hv : isOwned v = false) : VRl w β obs F v u := by
  cases v with
  | undef => trivial
  | int => exact h.1
  | bool => exact h.1
  | nilp => exact h.1
  | nils => exact h.1
  | sl τ l => exact ⟨G, h⟩
  | ow => cases hv
  | bx => cases hv
  | _ => exact h.elim

theorem plain_leaves : ∀ (τ : Ty) (x : τ.den), τ.plain = true → ∀ v ∈ τ.leaves x, isOwned v = false
  | .int _, _, _, v, hv => by simp [Ty.leaves] at hv; subst hv; rfl
  | .bool, _, _, v, hv => by simp [Ty.leaves] at hv; subst hv; rfl
  | .unit, _, _, v, hv => by simp [Ty.leaves] at hv
  | .pair a b, x, h, v, hv => by
    have h' : (a.plain && b.plain) = true := h
    rw [Bool.and_eq_true] at h'
    rcases List.mem_append.1 (show v ∈ a.leaves x.1 ++ b.leaves x.2 from hv) with hv | hv
    · exact plain_leaves a x.1 h'.1 v hv
    · exact plain_leaves b x.2 h'.2 v hv
  | .sl _, _, _, v, hv => by simp [Ty.leaves] at hv; subst hv; rfl

/-- A leaf that is read, as it stands in a slot. -/
theorem view_rel {r : Ref} {o : Ob} {b off i j : Nat} {v : V} {u : Value} {G : Bs} (hat : atLoc w β obs r = some (o, some (b, off))) (hv : leafAt o i j = some v)
    (hu : w.cell? ⟨b, off + ix o i j, none⟩ = some u) (hl : LfR w F v u G) : VRl w β obs F (view r i j v) u := by
  have hat' : ∀ o1, obOf v = some o1 → atLoc w β obs ⟨r.root, r.path ++ [(i, j)]⟩ = some (o1, locOfV v u) := by
    intro o1 ho
    unfold atLoc at hat ⊢
    split at hat
    · rename_i o0 hg
      simp only [hg]
      rw [way_append r.path [(i, j)] hat, way_cons hv hu ho hl]
      rfl
    · cases hat
  cases v with
  | ow τ l =>
    obtain ⟨u', hu', hh, ha⟩ := hl
    injection hu' with hu'
    subst hu'
    obtain ⟨ad, cap, e, h2⟩ := id hh
    refine ⟨ad, cap, e, fun o1 loc1 h1 => ?_⟩
    have h3 := hat' _ rfl
    have h1' : atLoc w β obs ⟨r.root, r.path ++ [(i, j)]⟩ = some (o1, loc1) := h1
    rw [h3] at h1'
    injection h1' with h1'; injection h1' with e1 e2; subst e1; subst e2
    exact ⟨τ, l, rfl, hh, by simp, fun _ => ⟨rfl, rfl⟩⟩
  | bx τ x =>
    obtain ⟨b', row, G', hu', _⟩ := id hl
    injection hu' with hu'
    subst hu'
    refine ⟨⟨b', 0, none⟩, rfl, fun o1 loc1 h1 => ?_⟩
    have h3 := hat' _ rfl
    have h1' : atLoc w β obs ⟨r.root, r.path ++ [(i, j)]⟩ = some (o1, loc1) := h1
    rw [h3] at h1'
    injection h1' with h1'; injection h1' with e1 e2; subst e1; subst e2
    exact ⟨b', 0, rfl, rfl⟩
  | _ => exact leafVR hl rfl

theorem LsR.to {vs : List V} {us : List Value} {G : Bs} (h : LsR w F vs us G) : ∀ (q : Nat) (v : V), vs[q]? = some v → ∃ u G1, us[q]? = some u ∧ LfR w F v u G1 := by
  intro q v hv
  obtain ⟨u, G1, hu, hl, _⟩ := h.get q v hv
  exact ⟨u, G1, hu, hl⟩

/-- Leaves of an object, in memory. -/
theorem leaves_rel {R : Type} {o : Ob} {loc : Option (Nat × Nat)} {G : Bs} {i j n : Nat} {K : List V → Option R} {x : R} (h : ObR w F o loc G) (hk : o.leavesK i j n K = some x) :
    ∃ b off row Gm vs, loc = some (b, off) ∧ Row w b row ∧ off + ix o i j + n ≤ row.size ∧ LsR w F vs (seg row (off + ix o i j) n) Gm ∧ vs.length = n ∧ (∀ q, q < n → vs[q]? = leafAt o i (j + q)) ∧
      K vs = some x ∧ ∀ (R' : Type) (K' : List V → Option R'), o.leavesK i j n K' = K' vs := by
  cases o with
  | box t fs =>
    unfold Ob.leavesK at hk
    simp only at hk
    cases hb : Nat.ble (j + n) fs.length with
    | false => rw [hb] at hk; cases hk
    | true =>
      rw [hb] at hk
      obtain ⟨b, row, G', hl, hr, hls, hnb, hG⟩ := h
      have hle := Nat.le_of_ble_eq_true hb
      have hlen := hls.length
      rw [list_split3 fs j n] at hls
      obtain ⟨c1, c23, G1, G23, hc, h1, h23, _, _⟩ := hls.split
      obtain ⟨c2, c3, G2, G3, hc', h2, h3, _, _⟩ := h23.split
      subst hc'
      have l1 : c1.length = j := by rw [h1.length, List.length_take]; omega
      have l2 : c2.length = n := by rw [h2.length, List.length_take, List.length_drop]; omega
      have e2 : seg row j n = c2 := by unfold seg; rw [hc, ← l1, List.drop_left, ← l2, List.take_left]
      refine ⟨b, 0, row, G2, (fs.drop j).take n, hl, hr, ?_, ?_, ?_, fun q hq => ?_, hk, fun R' K' => ?_⟩
      · simp only [ix, Nat.zero_add]; rw [← Array.length_toList, hlen]; exact hle
      · simp only [ix, Nat.zero_add]; rw [e2]; exact h2
      · rw [List.length_take, List.length_drop]; omega
      · rw [List.getElem?_take, if_pos hq, List.getElem?_drop]; rfl
      · unfold Ob.leavesK; simp only [hb, cond]
  | arr τ l =>
    unfold Ob.leavesK at hk
    simp only at hk
    cases hb : Nat.ble (j + n) τ.size with
    | false => rw [hb] at hk; cases hk
    | true =>
      rw [hb] at hk
      have hle := Nat.le_of_ble_eq_true hb
      cases hx : l[i]? with
      | none => rw [hx] at hk; cases hk
      | some y =>
        rw [hx] at hk
        cases loc with
        | none => rw [h.1] at hx; simp at hx
        | some bo =>
          obtain ⟨b, off⟩ := bo
          obtain ⟨row, Gs, hr, hs, hxs, he, hd, hnb, hG⟩ := h
          have hil : i < l.length := (List.getElem?_eq_some_iff.1 hx).1
          have hsz : off + i * τ.size + τ.size ≤ row.size := by
            have : (i + 1) * τ.size ≤ l.length * τ.size := Nat.mul_le_mul_right _ hil
            rw [Nat.add_mul, Nat.one_mul] at this
            omega
          have hls := LR.leaves τ y _ _ (hxs i y hx)
          have hlen := Ty.leaves_length τ y
          rw [list_split3 (τ.leaves y) j n] at hls
          obtain ⟨c1, c23, G1, G23, hc, h1, h23, _, _⟩ := hls.split
          obtain ⟨c2, c3, G2, G3, hc', h2, h3, _, _⟩ := h23.split
          subst hc'
          have l1 : c1.length = j := by rw [h1.length, List.length_take]; omega
          have l2 : c2.length = n := by rw [h2.length, List.length_take, List.length_drop]; omega
          have e2 : seg row (off + (i * τ.size + j)) n = c2 := by
            have : ((seg row (off + i * τ.size) τ.size).drop j).take n = c2 := by rw [hc, ← l1, List.drop_left, ← l2, List.take_left]
            rw [← this]
            unfold seg
            rw [List.drop_take, List.take_take, List.drop_drop]
            have : min n (τ.size - j) = n := by omega
            rw [this]
            congr 2
            omega
          refine ⟨b, off, row, G2, ((τ.leaves y).drop j).take n, rfl, hr, ?_, ?_, ?_, fun q hq => ?_, hk, fun R' K' => ?_⟩
          · simp only [ix]; omega
          · simp only [ix]; rw [e2]; exact h2
          · rw [List.length_take, List.length_drop]; omega
          · rw [List.getElem?_take, if_pos hq, List.getElem?_drop]; simp only [leafAt, hx, Option.bind]
          · unfold Ob.leavesK; simp only [hb, cond, hx, Option.bind]

theorem views_get (r : Ref) (i : Nat) : ∀ (vs : List V) (j q : Nat), (views r i j vs)[q]? = (vs[q]?).map fun v => view r i (j + q) v
  | [], j, q => by simp [views]
  | v :: vs, j, 0 => by simp [views]
  | v :: vs, j, q + 1 => by
    simp only [views, List.getElem?_cons_succ]
    rw [views_get r i vs (j + 1) q]
    have : j + 1 + q = j + (q + 1) := by omega
    rw [this]

theorem views_length (r : Ref) (i : Nat) : ∀ (vs : List V) (j : Nat), (views r i j vs).length = vs.length
  | [], _ => rfl
  | v :: vs, j => by simp [views, views_length r i vs (j + 1)]

theorem All2.of_get {α β : Type} {R : α → β → Prop} : ∀ {as : List α} {bs : List β}, as.length = bs.length → (∀ (i : Nat) (x : α) (y : β), as[i]? = some x → bs[i]? = some y → R x y) → All2 R as bs
  | [], [], _, _ => .nil
  | a :: as, b :: bs, hl, h => .cons (h 0 a b rfl rfl) (All2.of_get (by simpa using hl) fun i x y hx hy => h (i + 1) x y (by simpa using hx) (by simpa using hy))
  | [], _ :: _, hl, _ => by cases hl
  | _ :: _, [], hl, _ => by cases hl

theorem view_refs (r : Ref) (i j : Nat) {v : V} {u : Value} {G : Bs} (hl : LfR w F v u G) : ∀ q ∈ refsOf (view r i j v), q.root = r.root := by
  cases v <;> intro q hq <;> first
    | (simp [view, refsOf, refsOfA, refOf] at hq; subst hq; rfl)
    | exact hl.elim
    | (simp [view, refsOf, refsOfA, refOf] at hq)

theorem view_leaf (r : Ref) (i j : Nat) {v : V} {u : Value} {G : Bs} (hl : LfR w F v u G) : refsOf (view r i j v) = refOf (view r i j v) ∧ (∀ u', VRl w β obs F (view r i j v) u' → VR w β obs F (view r i j v) u') := by
  cases v <;> first
    | exact ⟨rfl, fun _ h => h⟩
    | exact hl.elim

theorem load_cell {u : Value} {ad : Addr} {t : TypeId} {d : TypeDesc} (hu : P.underlying t = some d) (hd : isAggD d = false) (hc : w.cell? ad = some u) :
    (Instr.loadAt t (.pointer (some ad))).run P w = .ok u w := by
  have : (isAgg t).run P w = .ok false w := by cases d <;> simp_all [isAgg, run_underlying hu, isAggD]
  simp [Instr.loadAt, Instr.sureAddr, loadVar, this, run_load, hc]

theorem load_row {b o n : Nat} {row : Array Value} {t : TypeId} {d : TypeDesc} {inf : TypeInfo} (hu : P.underlying t = some d) (hd : isAggD d = true) (hi : P.info? t = some inf) (hn : inf.size = n)
    (hr : RowS w b row) (hs : o + n ≤ row.size) : (Instr.loadAt t (.pointer (some ⟨b, o, none⟩))).run P w = .ok (.agg (seg row o n).toArray) w := by
  have : (isAgg t).run P w = .ok true w := by cases d <;> simp_all [isAgg, run_underlying hu, isAggD]
  simp [Instr.loadAt, Instr.sureAddr, loadVar, this, sizeOf, typeInfo, hi, hn, run_load_seg hr hs]
end
end Go.Lf

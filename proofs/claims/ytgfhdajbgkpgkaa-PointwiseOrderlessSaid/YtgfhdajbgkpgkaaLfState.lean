import Derived.Test.YtgfhdajbgkpgkaaLfLeaves
set_option linter.unusedVariables false
/-! Lf: the state of a frame. -/
namespace Go.Lf

def ObR (w : World) (F : Bs) : Ob → Option (Nat × Nat) → Bs → Prop
  | .box _ fs, loc, G => ∃ b row G', loc = some (b, 0) ∧ Row w b row ∧ LsR w F fs row.toList G' ∧ ¬ G' b ∧ ∀ n, G n ↔ n = b ∨ G' n
  | .arr τ l, loc, G => ArrAt w τ.size (LR w F τ) l loc G

def leafAt : Ob → Nat → Nat → Option V
  | .box _ fs, _, j => fs[j]?
  | .arr τ l, i, j => (l[i]?).bind fun x => (τ.leaves x)[j]?

def ix : Ob → Nat → Nat → Nat
  | .box _ _, _, j => j
  | .arr τ _, i, j => i * τ.size + j

def way (w : World) : Ob → Option (Nat × Nat) → List (Nat × Nat) → Option (Ob × Option (Nat × Nat))
  | o, loc, [] => some (o, loc)
  | o, loc, (i, j) :: p => match loc with
    | none => none
    | some (b, off) => match leafAt o i j, w.cell? ⟨b, off + ix o i j, none⟩ with
      | some (.ow τ l), some u => way w (.arr τ l) (locOf u) p
      | some (.bx τ x), some (.pointer (some a)) => way w (.box (some τ) (τ.leaves x)) (some (a.block, 0)) p
      | _, _ => none

def atLoc (w : World) (β : Nat → Option (Nat × Nat)) (obs : List (Nat × Ob)) (r : Ref) : Option (Ob × Option (Nat × Nat)) :=
  match get r.root obs with
  | some o => way w o (β r.root) r.path
  | none => none

inductive All2 {α β : Type} (R : α → β → Prop) : List α → List β → Prop
  | nil : All2 R [] []
  | cons {a : α} {b : β} {as : List α} {bs : List β} : R a b → All2 R as bs → All2 R (a :: as) (b :: bs)

theorem All2.imp {α β : Type} {R R' : α → β → Prop} {as : List α} {bs : List β} (h : All2 R as bs) (f : ∀ a b, a ∈ as → R a b → R' a b) : All2 R' as bs := by
  induction h with
  | nil => exact .nil
  | cons h _ ih => exact .cons (f _ _ (by simp) h) (ih fun a b ha => f a b (by simp [ha]))

theorem All2.length {α β : Type} {R : α → β → Prop} {as : List α} {bs : List β} (h : All2 R as bs) : bs.length = as.length := by
  induction h with
  | nil => rfl
  | cons _ _ ih => simp [ih]

section
variable (w : World) (β : Nat → Option (Nat × Nat)) (obs : List (Nat × Ob)) (F : Bs)

def VRl (v : V) (u : Value) : Prop :=
  match v with
  | .undef => True
  | .int k n => u = .int k n
  | .bool b => u = .bool b
  | .nilp => u = .pointer none
  | .nils => ∃ ad, u = .slice ad 0 0
  | .sl τ l => ∃ G, LR w F (.sl τ) l [u] G
  | .ip τ x j => ∃ b off row G, u = .pointer (some ⟨b, off + j, none⟩) ∧ ¬ F b ∧ RowS w b row ∧ Emp G ∧ LR w F τ x (seg row off τ.size) G
  | .hs r off n wh => ∃ ad cap, u = .slice ad n cap ∧ ∀ o loc, atLoc w β obs r = some (o, loc) → ∃ τ l, o = .arr τ l ∧ Hd w τ.size loc off n u ∧ off + n ≤ l.length ∧ (wh = true → off = 0 ∧ n = l.length)
  | .hp r i j => ∃ ad, u = .pointer (some ad) ∧ ∀ o loc, atLoc w β obs r = some (o, loc) → ∃ b off, loc = some (b, off) ∧ ad = ⟨b, off + ix o i j, none⟩
  | _ => False

def VRa (v : V) (u : Value) : Prop :=
  match v with
  | .agg fs => ∃ us, u = .agg us ∧ All2 (VRl w β obs F) fs us.toList
  | .fn f caps => ∃ us, u = .func (.func f) #[] us ∧ All2 (VRl w β obs F) caps us.toList
  | v => VRl w β obs F v u

def VR (v : V) (u : Value) : Prop :=
  match v with
  | .tup vs => ∃ us, u = .tuple us ∧ All2 (VRa w β obs F) vs us.toList
  | v => VRa w β obs F v u
end

def refOf : V → List Ref
  | .hs r _ _ _ => [r]
  | .hp r _ _ => [r]
  | _ => []
def refsOfA : V → List Ref
  | .agg fs => fs.flatMap refOf
  | .fn _ fs => fs.flatMap refOf
  | v => refOf v
def refsOf : V → List Ref
  | .tup vs => vs.flatMap refsOfA
  | v => refsOfA v

def Ob.like : Ob → Ob → Prop
  | .box _ _, .box _ _ => True
  | .arr τ l, .arr τ' l' => τ = τ' ∧ l.length = l'.length
  | _, _ => False

theorem Ob.like.refl : ∀ o : Ob, o.like o
  | .box _ _ => trivial
  | .arr _ _ => ⟨rfl, rfl⟩

theorem ix_like {o o' : Ob} (h : o.like o') (i j : Nat) : ix o i j = ix o' i j := by
  cases o <;> cases o' <;> first | rfl | (obtain ⟨rfl, _⟩ := h; rfl) | exact h.elim

/-- A way that leads, behind a step, to where it led. -/
def RefKeep (w : World) (β : Nat → Option (Nat × Nat)) (obs : List (Nat × Ob)) (w' : World) (β' : Nat → Option (Nat × Nat)) (obs' : List (Nat × Ob)) (r : Ref) : Prop :=
  ∀ o' loc, atLoc w' β' obs' r = some (o', loc) → ∃ o, atLoc w β obs r = some (o, loc) ∧ o.like o' ∧
    ∀ b off, loc = some (b, off) → ∀ row, Row w b row → ∃ row', Row w' b row' ∧ row'.size = row.size

theorem Hd.keep' {w w' : World} {sz : Nat} {loc : Option (Nat × Nat)} {off n : Nat} {u : Value} (h : Hd w sz loc off n u)
    (e : ∀ b o, loc = some (b, o) → ∀ row, Row w b row → ∃ row', Row w' b row' ∧ row'.size = row.size) : Hd w' sz loc off n u := by
  obtain ⟨ad, cap, hu, h⟩ := h
  refine ⟨ad, cap, hu, h.imp id ?_⟩
  rintro ⟨b, o, row, hl, hr, ha, hn, hs⟩
  obtain ⟨row', hr', hz⟩ := e b o hl row hr
  exact ⟨b, o, row', hl, hr', ha, hn, by rw [hz]; exact hs⟩

section
variable {w w' : World} {β β' : Nat → Option (Nat × Nat)} {obs obs' : List (Nat × Ob)} {F F' : Bs}

theorem VRl.keep {v : V} {u : Value} (h : VRl w β obs F v u) (hs : Stay w F w' F' (fun _ => False)) (hr : ∀ r, r ∈ refOf v → RefKeep w β obs w' β' obs' r) : VRl w' β' obs' F' v u := by
  cases v with
  | sl τ l =>
    obtain ⟨G, hl⟩ := h
    exact ⟨G, LR.keep (.sl τ) l [u] G hl ⟨hs.size, fun b hb => absurd hb (hl.1 b), hs.out, hs.less⟩⟩
  | ip τ x j =>
    obtain ⟨b, off, row, G, hu, hF, hrow, hE, hl⟩ := h
    have e := hs.out b hF hrow.lt
    refine ⟨b, off, row, G, hu, fun hb => ?_, hrow.keep e, hE, LR.keep τ x _ G hl ⟨hs.size, fun b hb => absurd hb (hE b), hs.out, hs.less⟩⟩
    rcases hs.less b hb with h | h
    · exact hF h
    · exact absurd hrow.lt (Nat.not_lt.2 h)
  | hs r off n wh =>
    obtain ⟨ad, cap, hu, h⟩ := h
    refine ⟨ad, cap, hu, fun o' loc hat => ?_⟩
    obtain ⟨o, hat0, hlike, hsz⟩ := hr r (by simp [refOf]) o' loc hat
    obtain ⟨τ, l, rfl, hh, hn, hw⟩ := h o loc hat0
    cases o' with
    | box _ _ => exact hlike.elim
    | arr τ' l' =>
      obtain ⟨rfl, hlen⟩ := hlike
      exact ⟨τ, l', rfl, hh.keep' hsz, by rw [← hlen]; exact hn, fun e => ⟨(hw e).1, by rw [← hlen]; exact (hw e).2⟩⟩
  | hp r i j =>
    obtain ⟨ad, hu, h⟩ := h
    refine ⟨ad, hu, fun o' loc hat => ?_⟩
    obtain ⟨o, hat0, hlike, _⟩ := hr r (by simp [refOf]) o' loc hat
    obtain ⟨b, off, hl, ha⟩ := h o loc hat0
    exact ⟨b, off, hl, by rw [← ix_like hlike]; exact ha⟩
  | _ => exact h

theorem VRa.keep {v : V} {u : Value} (h : VRa w β obs F v u) (hs : Stay w F w' F' (fun _ => False)) (hr : ∀ r, r ∈ refsOfA v → RefKeep w β obs w' β' obs' r) : VRa w' β' obs' F' v u := by
  cases v with
  | agg fs =>
    obtain ⟨us, hu, h⟩ := h
    exact ⟨us, hu, h.imp fun a b ha hab => hab.keep hs fun r hm => hr r (List.mem_flatMap.2 ⟨a, ha, hm⟩)⟩
  | fn f fs =>
    obtain ⟨us, hu, h⟩ := h
    exact ⟨us, hu, h.imp fun a b ha hab => hab.keep hs fun r hm => hr r (List.mem_flatMap.2 ⟨a, ha, hm⟩)⟩
  | undef => trivial
  | int k n => exact VRl.keep (v := .int k n) h hs hr
  | bool b => exact VRl.keep (v := .bool b) h hs hr
  | nilp => exact VRl.keep (v := .nilp) h hs hr
  | nils => exact VRl.keep (v := .nils) h hs hr
  | sl τ l => exact VRl.keep (v := .sl τ l) h hs hr
  | ip τ x j => exact VRl.keep (v := .ip τ x j) h hs hr
  | hs r off n wh => exact VRl.keep (v := .hs r off n wh) h hs hr
  | hp r i j => exact VRl.keep (v := .hp r i j) h hs hr
  | ow => exact h.elim
  | bx => exact h.elim
  | tup => exact h.elim

theorem VR.keep {v : V} {u : Value} (h : VR w β obs F v u) (hs : Stay w F w' F' (fun _ => False)) (hr : ∀ r, r ∈ refsOf v → RefKeep w β obs w' β' obs' r) : VR w' β' obs' F' v u := by
  cases v with
  | tup vs =>
    obtain ⟨us, hu, h⟩ := h
    exact ⟨us, hu, h.imp fun a b ha hab => VRa.keep hab hs fun r hm => hr r (List.mem_flatMap.2 ⟨a, ha, hm⟩)⟩
  | undef => trivial
  | int k n => exact VRa.keep (v := .int k n) h hs hr
  | bool b => exact VRa.keep (v := .bool b) h hs hr
  | nilp => exact VRa.keep (v := .nilp) h hs hr
  | nils => exact VRa.keep (v := .nils) h hs hr
  | sl τ l => exact VRa.keep (v := .sl τ l) h hs hr
  | ip τ x j => exact VRa.keep (v := .ip τ x j) h hs hr
  | hs r off n wh => exact VRa.keep (v := .hs r off n wh) h hs hr
  | hp r i j => exact VRa.keep (v := .hp r i j) h hs hr
  | agg fs => exact VRa.keep (v := .agg fs) h hs hr
  | fn f fs => exact VRa.keep (v := .fn f fs) h hs hr
  | ow => exact h.elim
  | bx => exact h.elim
end

/-- All objects of a frame: where they lie, what each owns. E: what is owned elsewhere. -/
structure ObsR (w : World) (E F : Bs) (β : Nat → Option (Nat × Nat)) (obs : List (Nat × Ob)) (Gk : Nat → Bs) : Prop where
  rel : ∀ k o, get k obs = some o → ObR w F o (β k) (Gk k)
  dj : ∀ k k' o o', get k obs = some o → get k' obs = some o' → k ≠ k' → Dj (Gk k) (Gk k')
  cov : ∀ b, F b ↔ E b ∨ ∃ k o, get k obs = some o ∧ Gk k b
  out : ∀ k o, get k obs = some o → Dj (Gk k) E
  elt : ∀ b, E b → b < w.heap.size

theorem ObR.keep {w w' : World} {F F' : Bs} {o : Ob} {loc : Option (Nat × Nat)} {G : Bs} (h : ObR w F o loc G) (hs : Stay w F w' F' G) : ObR w' F' o loc G := by
  cases o with
  | box t fs =>
    obtain ⟨b, row, G', hl, hr, hls, hb, hG⟩ := h
    exact ⟨b, row, G', hl, hr.keep (hs.own b ((hG b).2 (.inl rfl))), hls.keep (hs.mono fun n hn => (hG n).2 (.inr hn)), hb, hG⟩
  | arr τ l =>
    exact ArrAt.keep h hs.own fun x cs G' hl hG' => LR.keep τ _ _ _ hl (hs.mono hG')

theorem ObR.iff {w : World} {F : Bs} {o : Ob} {loc : Option (Nat × Nat)} {G H : Bs} (h : ObR w F o loc G) (e : ∀ n, H n ↔ G n) : ObR w F o loc H := by
  cases o with
  | box t fs =>
    obtain ⟨b, row, G', hl, hr, hls, hb, hG⟩ := h
    exact ⟨b, row, G', hl, hr, hls, hb, fun n => (e n).trans (hG n)⟩
  | arr τ l =>
    cases loc with
    | none => exact ⟨h.1, fun n hn => h.2 n ((e n).1 hn)⟩
    | some p =>
      obtain ⟨row, Gs, hr, hs, hx, he, hd, hb, hG⟩ := h
      exact ⟨row, Gs, hr, hs, hx, he, hd, hb, fun n => (e n).trans (hG n)⟩

theorem ObR.lt {w : World} {F : Bs} {o : Ob} {loc : Option (Nat × Nat)} {G : Bs} (h : ObR w F o loc G) : ∀ b, G b → b < w.heap.size := by
  intro b hb
  cases o with
  | box t fs =>
    obtain ⟨b', row, G', hl, hr, hls, hb', hG⟩ := h
    rcases (hG b).1 hb with rfl | h
    · exact hr.lt
    · exact hls.lt b h
  | arr τ l =>
    cases loc with
    | none => exact absurd hb (h.2 b)
    | some p =>
      obtain ⟨b', off⟩ := p
      obtain ⟨row, Gs, hr, hs, hx, he, hd, hb', hG⟩ := h
      rcases (hG b).1 hb with rfl | ⟨i, hi⟩
      · exact hr.lt
      · by_cases h : i < l.length
        · exact LR.lt τ _ _ _ (hx i l[i] (List.getElem?_eq_getElem h)) b hi
        · exact absurd hi (he i (Nat.not_lt.1 h) b)

theorem LsR.get {w : World} {F : Bs} : ∀ {vs : List V} {us : List Value} {G : Bs}, LsR w F vs us G → ∀ (j : Nat) (v : V), vs[j]? = some v → ∃ u G1, us[j]? = some u ∧ LfR w F v u G1 ∧ ∀ n, G1 n → G n
  | _, _, _, .nil _, j, v, h => by simp at h
  | _, _, _, .cons (u := u) (G1 := G1) h1 h2 hd hG, j, v, h => by
    cases j with
    | zero =>
      simp at h
      subst h
      exact ⟨u, G1, rfl, h1, fun n hn => (hG n).2 (.inl hn)⟩
    | succ j =>
      obtain ⟨u', G', hu, hl, hs⟩ := LsR.get h2 j v (by simpa using h)
      exact ⟨u', G', by simpa using hu, hl, fun n hn => (hG n).2 (.inr (hs n hn))⟩

theorem cell_of_row {w : World} {b i : Nat} {row : Array Value} {u : Value} (h : RowS w b row) (hi : row[i]? = some u) : w.cell? ⟨b, i, none⟩ = some u := by
  obtain ⟨t, fr, h⟩ := h
  simp [World.cell?, h, hi]

theorem row_of_seg {row : Array Value} {o n j : Nat} {u : Value} (h : (seg row o n)[j]? = some u) : row[o + j]? = some u := by
  unfold seg at h
  rw [List.getElem?_take] at h
  split at h
  · rw [List.getElem?_drop] at h
    simpa using h
  · cases h

/-- A leaf of an object, in memory. -/
theorem leaf_rel {w : World} {F : Bs} {o : Ob} {loc : Option (Nat × Nat)} {G : Bs} {i j : Nat} {v : V} (h : ObR w F o loc G) (hv : leafAt o i j = some v) :
    ∃ b off u G1, loc = some (b, off) ∧ G b ∧ w.cell? ⟨b, off + ix o i j, none⟩ = some u ∧ LfR w F v u G1 ∧ (∀ n, G1 n → G n) ∧ (∀ n, G1 n → n ≠ b) := by
  cases o with
  | box t fs =>
    obtain ⟨b, row, G', hl, hr, hls, hb, hG⟩ := h
    obtain ⟨u, G1, hu, hlf, hs⟩ := hls.get j v hv
    refine ⟨b, 0, u, G1, hl, (hG b).2 (.inl rfl), ?_, hlf, fun n hn => (hG n).2 (.inr (hs n hn)), fun n hn e => hb (e ▸ hs n hn)⟩
    simp only [ix, Nat.zero_add]
    exact cell_of_row hr.s (by simpa using hu)
  | arr τ l =>
    simp only [leafAt] at hv
    cases hx : l[i]? with
    | none => rw [hx] at hv; cases hv
    | some x =>
      rw [hx] at hv
      cases loc with
      | none => rw [h.1] at hx; simp at hx
      | some p =>
        obtain ⟨b, off⟩ := p
        obtain ⟨row, Gs, hr, hs, hxs, he, hd, hb, hG⟩ := h
        obtain ⟨u, G1, hu, hlf, hsub⟩ := (LR.leaves τ x _ _ (hxs i x hx)).get j v hv
        refine ⟨b, off, u, G1, rfl, (hG b).2 (.inl rfl), ?_, hlf, fun n hn => (hG n).2 (.inr ⟨i, hsub n hn⟩), fun n hn e => hb i (e ▸ hsub n hn)⟩
        have := row_of_seg hu
        simp only [ix]
        rw [← Nat.add_assoc]
        exact cell_of_row hr.s this

end Go.Lf

import Derived.Test.YtgfhdajbgkpgkaaLfEv
import Derived.Below
set_option linter.unusedVariables false
/-! Lf: what abstract data say of memory. -/
namespace Go.Lf

abbrev Bs := Nat → Prop
def Emp (G : Bs) : Prop := ∀ b, ¬ G b
def Dj (G H : Bs) : Prop := ∀ b, G b → ¬ H b

def Row (w : World) (b : Nat) (row : Array Value) : Prop := ∃ t, w.heap[b]? = some (.cells row t (0, 0))
def RowS (w : World) (b : Nat) (row : Array Value) : Prop := ∃ t fr, w.heap[b]? = some (.cells row t fr)
def seg (row : Array Value) (o n : Nat) : List Value := (row.toList.drop o).take n

/-- A list in memory that is owned: where it begins. -/
def ArrAt {α : Type} (w : World) (sz : Nat) (R : α → List Value → Bs → Prop) (l : List α) : Option (Nat × Nat) → Bs → Prop
  | none, G => l = [] ∧ Emp G
  | some (b, off), G => ∃ (row : Array Value) (Gs : Nat → Bs), Row w b row ∧ off + l.length * sz ≤ row.size ∧
      (∀ i x, l[i]? = some x → R x (seg row (off + i * sz) sz) (Gs i)) ∧ (∀ i, l.length ≤ i → Emp (Gs i)) ∧
      (∀ i j, i ≠ j → Dj (Gs i) (Gs j)) ∧ (∀ i, ¬ Gs i b) ∧ (∀ n, G n ↔ n = b ∨ ∃ i, Gs i n)

/-- A slice's head: n elements from off on of what begins at loc. -/
def Hd (w : World) (sz : Nat) (loc : Option (Nat × Nat)) (off n : Nat) (u : Value) : Prop :=
  ∃ ad cap, u = .slice ad n cap ∧ ((n = 0 ∧ cap = 0) ∨ ∃ b o row, loc = some (b, o) ∧ Row w b row ∧ ad = some ⟨b, o + off * sz, none⟩ ∧ n ≤ cap ∧ o + (off + cap) * sz ≤ row.size)

def locOf : Value → Option (Nat × Nat)
  | .slice (some a) _ cap => if cap = 0 then none else some (a.block, a.off)
  | _ => none

def LR (w : World) (F : Bs) : (τ : Ty) → τ.den → List Value → Bs → Prop
  | .int k, n, cs, G => cs = [.int k n] ∧ Emp G
  | .bool, b, cs, G => cs = [.bool b] ∧ Emp G
  | .unit, _, cs, G => cs = [] ∧ Emp G
  | .pair a b, x, cs, G => ∃ c1 c2 G1 G2, cs = c1 ++ c2 ∧ LR w F a x.1 c1 G1 ∧ LR w F b x.2 c2 G2 ∧ Dj G1 G2 ∧ ∀ n, G n ↔ G1 n ∨ G2 n
  | .sl a, l, cs, G => Emp G ∧ ∃ ad cap, cs = [.slice ad l.length (l.length + cap)] ∧ (l = [] ∨ ∃ b off row, ad = some ⟨b, off, none⟩ ∧ ¬ F b ∧ RowS w b row ∧ off + l.length * a.size ≤ row.size ∧
      ∀ i x, l[i]? = some x → ∃ G', Emp G' ∧ LR w F a x (seg row (off + i * a.size) a.size) G')
  | .ow a, l, cs, G => ∃ u, cs = [u] ∧ Hd w a.size (locOf u) 0 l.length u ∧ ArrAt w a.size (LR w F a) l (locOf u) G
  | .bx a, x, cs, G => ∃ b row G', cs = [.pointer (some ⟨b, 0, none⟩)] ∧ Row w b row ∧ LR w F a x row.toList G' ∧ ¬ G' b ∧ ∀ n, G n ↔ n = b ∨ G' n

/-- What stays: the blocks of G, and those outside of F; F' has nothing of these. -/
structure Stay (w : World) (F : Bs) (w' : World) (F' : Bs) (G : Bs) : Prop where
  size : w.heap.size ≤ w'.heap.size
  own : ∀ b, G b → w'.heap[b]? = w.heap[b]?
  out : ∀ b, ¬ F b → b < w.heap.size → w'.heap[b]? = w.heap[b]?
  less : ∀ b, F' b → F b ∨ w.heap.size ≤ b

theorem Stay.mono {w w' : World} {F F' G G' : Bs} (h : Stay w F w' F' G) (hg : ∀ b, G' b → G b) : Stay w F w' F' G' :=
  ⟨h.size, fun b hb => h.own b (hg b hb), h.out, h.less⟩

theorem Row.lt {w : World} {b : Nat} {row : Array Value} (h : Row w b row) : b < w.heap.size := by
  obtain ⟨t, h⟩ := h
  exact (Array.getElem?_eq_some_iff.1 h).1
theorem RowS.lt {w : World} {b : Nat} {row : Array Value} (h : RowS w b row) : b < w.heap.size := by
  obtain ⟨t, fr, h⟩ := h
  exact (Array.getElem?_eq_some_iff.1 h).1
theorem Row.s {w : World} {b : Nat} {row : Array Value} (h : Row w b row) : RowS w b row := let ⟨t, h⟩ := h; ⟨t, _, h⟩
theorem Row.eq {w : World} {b : Nat} {r r' : Array Value} (h : Row w b r) (h' : Row w b r') : r = r' := by
  obtain ⟨t, h⟩ := h; obtain ⟨t', h'⟩ := h'
  rw [h] at h'; injection h' with h'; injection h'
theorem Row.keep {w w' : World} {b : Nat} {row : Array Value} (h : Row w b row) (e : w'.heap[b]? = w.heap[b]?) : Row w' b row := let ⟨t, h⟩ := h; ⟨t, e.trans h⟩
theorem RowS.keep {w w' : World} {b : Nat} {row : Array Value} (h : RowS w b row) (e : w'.heap[b]? = w.heap[b]?) : RowS w' b row := let ⟨t, fr, h⟩ := h; ⟨t, fr, e.trans h⟩

theorem Hd.keep {w w' : World} {sz : Nat} {loc : Option (Nat × Nat)} {off n : Nat} {u : Value} (h : Hd w sz loc off n u) (e : ∀ b o, loc = some (b, o) → w'.heap[b]? = w.heap[b]?) : Hd w' sz loc off n u := by
  obtain ⟨ad, cap, hu, h⟩ := h
  refine ⟨ad, cap, hu, h.imp id ?_⟩
  rintro ⟨b, o, row, hl, hr, ha, hn, hs⟩
  exact ⟨b, o, row, hl, hr.keep (e b o hl), ha, hn, hs⟩

theorem ArrAt.keep {α : Type} {w w' : World} {sz : Nat} {R R' : α → List Value → Bs → Prop} {l : List α} {loc : Option (Nat × Nat)} {G : Bs}
    (h : ArrAt w sz R l loc G) (e : ∀ b, G b → w'.heap[b]? = w.heap[b]?) (hR : ∀ x cs G', R x cs G' → (∀ b, G' b → G b) → R' x cs G') : ArrAt w' sz R' l loc G := by
  cases loc with
  | none => exact h
  | some p =>
    obtain ⟨b, off⟩ := p
    obtain ⟨row, Gs, hr, hs, hx, he, hd, hb, hG⟩ := h
    refine ⟨row, Gs, hr.keep (e b ((hG b).2 (.inl rfl))), hs, fun i x hi => hR _ _ _ (hx i x hi) fun n hn => (hG n).2 (.inr ⟨i, hn⟩), he, hd, hb, hG⟩

theorem LR.keep {w w' : World} {F F' : Bs} : ∀ (τ : Ty) (x : τ.den) (cs : List Value) (G : Bs), LR w F τ x cs G → Stay w F w' F' G → LR w' F' τ x cs G
  | .int _, _, _, _, h, _ => h
  | .bool, _, _, _, h, _ => h
  | .unit, _, _, _, h, _ => h
  | .pair a b, x, _, _, ⟨c1, c2, G1, G2, hc, h1, h2, hd, hG⟩, hs =>
    ⟨c1, c2, G1, G2, hc, LR.keep a _ _ _ h1 (hs.mono fun n hn => (hG n).2 (.inl hn)), LR.keep b _ _ _ h2 (hs.mono fun n hn => (hG n).2 (.inr hn)), hd, hG⟩
  | .sl a, l, _, _, ⟨he, ad, cap, hc, h⟩, hs => by
    refine ⟨he, ad, cap, hc, h.imp id ?_⟩
    rintro ⟨b, off, row, ha, hF, hr, hz, hx⟩
    have e := hs.out b hF hr.lt
    refine ⟨b, off, row, ha, fun hb => ?_, hr.keep e, hz, fun i x hi => ?_⟩
    · rcases hs.less b hb with h | h
      · exact hF h
      · exact absurd hr.lt (Nat.not_lt.2 h)
    · obtain ⟨G', hG', hl⟩ := hx i x hi
      exact ⟨G', hG', LR.keep a _ _ _ hl ⟨hs.size, fun b hb => absurd hb (hG' b), hs.out, hs.less⟩⟩
  | .ow a, l, _, G, ⟨u, hc, hh, ha⟩, hs => by
    refine ⟨u, hc, hh.keep ?_, ha.keep hs.own fun x cs G' hl hG' => LR.keep a _ _ _ hl (hs.mono hG')⟩
    intro b o hl
    rw [hl] at ha
    obtain ⟨row, Gs, _, _, _, _, _, _, hG⟩ := ha
    exact hs.own b ((hG b).2 (.inl rfl))
  | .bx a, x, _, _, ⟨b, row, G', hc, hr, hl, hb, hG⟩, hs =>
    ⟨b, row, G', hc, hr.keep (hs.own b ((hG b).2 (.inl rfl))), LR.keep a _ _ _ hl (hs.mono fun n hn => (hG n).2 (.inr hn)), hb, hG⟩

theorem seg_length {row : Array Value} {o n : Nat} (h : o + n ≤ row.size) : (seg row o n).length = n := by
  simp only [seg, List.length_take, List.length_drop, Array.length_toList]
  omega

theorem LR.length {w : World} {F : Bs} : ∀ (τ : Ty) (x : τ.den) (cs : List Value) (G : Bs), LR w F τ x cs G → cs.length = τ.size
  | .int _, _, _, _, h => by rw [h.1]; rfl
  | .bool, _, _, _, h => by rw [h.1]; rfl
  | .unit, _, _, _, h => by rw [h.1]; rfl
  | .pair a b, x, _, _, ⟨c1, c2, G1, G2, hc, h1, h2, _, _⟩ => by rw [hc, List.length_append, LR.length a _ _ _ h1, LR.length b _ _ _ h2]; rfl
  | .sl a, l, _, _, ⟨_, _, _, hc, _⟩ => by rw [hc]; rfl
  | .ow a, l, _, _, ⟨_, hc, _, _⟩ => by rw [hc]; rfl
  | .bx a, x, _, _, ⟨_, _, _, hc, _⟩ => by rw [hc]; rfl

/-- The footprint may be told otherwise. -/
theorem LR.iff {w : World} {F : Bs} : ∀ (τ : Ty) (x : τ.den) (cs : List Value) (G H : Bs), LR w F τ x cs G → (∀ n, H n ↔ G n) → LR w F τ x cs H
  | .int _, _, _, _, _, h, e => ⟨h.1, fun n hn => h.2 n ((e n).1 hn)⟩
  | .bool, _, _, _, _, h, e => ⟨h.1, fun n hn => h.2 n ((e n).1 hn)⟩
  | .unit, _, _, _, _, h, e => ⟨h.1, fun n hn => h.2 n ((e n).1 hn)⟩
  | .pair a b, x, _, _, _, ⟨c1, c2, G1, G2, hc, h1, h2, hd, hG⟩, e => ⟨c1, c2, G1, G2, hc, h1, h2, hd, fun n => (e n).trans (hG n)⟩
  | .sl a, l, _, _, _, ⟨he, r⟩, e => ⟨fun n hn => he n ((e n).1 hn), r⟩
  | .ow a, l, _, G, H, ⟨u, hc, hh, ha⟩, e => by
    refine ⟨u, hc, hh, ?_⟩
    cases hl : locOf u with
    | none => rw [hl] at ha; exact ⟨ha.1, fun n hn => ha.2 n ((e n).1 hn)⟩
    | some p =>
      obtain ⟨b, off⟩ := p
      rw [hl] at ha
      obtain ⟨row, Gs, hr, hs, hx, he, hd, hb, hG⟩ := ha
      exact ⟨row, Gs, hr, hs, hx, he, hd, hb, fun n => (e n).trans (hG n)⟩
  | .bx a, x, _, _, _, ⟨b, row, G', hc, hr, hl, hb, hG⟩, e => ⟨b, row, G', hc, hr, hl, hb, fun n => (e n).trans (hG n)⟩

/-- The blocks of a value exist. -/
theorem LR.lt {w : World} {F : Bs} : ∀ (τ : Ty) (x : τ.den) (cs : List Value) (G : Bs), LR w F τ x cs G → ∀ b, G b → b < w.heap.size
  | .int _, _, _, _, h, b, hb => absurd hb (h.2 b)
  | .bool, _, _, _, h, b, hb => absurd hb (h.2 b)
  | .unit, _, _, _, h, b, hb => absurd hb (h.2 b)
  | .pair a c, x, _, _, ⟨c1, c2, G1, G2, hc, h1, h2, hd, hG⟩, b, hb => by
    rcases (hG b).1 hb with h | h
    · exact LR.lt a _ _ _ h1 b h
    · exact LR.lt c _ _ _ h2 b h
  | .sl a, l, _, _, h, b, hb => absurd hb (h.1 b)
  | .ow a, l, _, G, ⟨u, hc, hh, ha⟩, b, hb => by
    cases hl : locOf u with
    | none => rw [hl] at ha; exact absurd hb (ha.2 b)
    | some p =>
      obtain ⟨b', off⟩ := p
      rw [hl] at ha
      obtain ⟨row, Gs, hr, hs, hx, he, hd, hb', hG⟩ := ha
      rcases (hG b).1 hb with rfl | ⟨i, hi⟩
      · exact hr.lt
      · by_cases h : i < l.length
        · exact LR.lt a _ _ _ (hx i l[i] (List.getElem?_eq_getElem h)) b hi
        · exact absurd hi (he i (Nat.not_lt.1 h) b)
  | .bx a, x, _, _, ⟨b', row, G', hc, hr, hl, hb', hG⟩, b, hb => by
    rcases (hG b).1 hb with rfl | h
    · exact hr.lt
    · exact LR.lt a _ _ _ hl b h

end Go.Lf

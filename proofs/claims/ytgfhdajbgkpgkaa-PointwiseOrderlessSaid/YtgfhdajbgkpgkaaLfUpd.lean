import Derived.Test.YtgfhdajbgkpgkaaLfState
set_option linter.unusedVariables false
/-! Lf: one object written. -/
namespace Go.Lf

/-- Up to blocks that are let go: what is no longer told is no longer owned. -/
def Lets (F G : Bs) (Φ : Bs → Bs → Prop) : Prop :=
  ∃ G1 : Bs, (∀ n, G1 n → G n) ∧ ∀ F' : Bs, (∀ n, F' n → F n) → (∀ n, G n → ¬ G1 n → ¬ F' n) → Φ F' G1

theorem Lets.intro {F G : Bs} {Φ : Bs → Bs → Prop} (h : ∀ F' : Bs, (∀ n, F' n → F n) → Φ F' G) : Lets F G Φ := ⟨G, fun _ h => h, fun F' hF _ => h F' hF⟩

theorem Lets.imp {F G : Bs} {Φ Ψ : Bs → Bs → Prop} (h : Lets F G Φ) (f : ∀ F' G', (∀ n, F' n → F n) → (∀ n, G' n → G n) → Φ F' G' → Ψ F' G') : Lets F G Ψ :=
  let ⟨G1, hs, H⟩ := h
  ⟨G1, hs, fun F' hF ho => f F' G1 hF hs (H F' hF ho)⟩

theorem Lets.bind {F G : Bs} {Φ Ψ : Bs → Bs → Prop} (h : Lets F G Φ) (f : ∀ F' G', (∀ n, F' n → F n) → (∀ n, G' n → G n) → Φ F' G' → Lets F' G' Ψ) : Lets F G Ψ := by
  obtain ⟨G1, hs, H⟩ := h
  let Fm : Bs := fun n => F n ∧ (G n → G1 n)
  have hFm : ∀ n, Fm n → F n := fun n h => h.1
  obtain ⟨G2, hs2, H2⟩ := f Fm G1 hFm hs (H Fm hFm fun n hg h1 hf => h1 (hf.2 hg))
  refine ⟨G2, fun n hn => hs n (hs2 n hn), fun F' hF ho => ?_⟩
  refine H2 F' (fun n hn => ⟨hF n hn, fun hg => Classical.byContradiction fun h1 => ho n hg (fun h2 => h1 (hs2 n h2)) hn⟩) fun n h1 h2 hn => ho n (hs n h1) h2 hn

/-- Beside a part that stays. -/
theorem Lets.beside {F G K : Bs} {Φ Ψ : Bs → Bs → Prop} (h : Lets F G Φ) (hd : Dj G K)
    (f : ∀ F' G', (∀ n, F' n → F n) → (∀ n, G' n → G n) → Φ F' G' → Ψ F' (fun n => G' n ∨ K n)) : Lets F (fun n => G n ∨ K n) Ψ := by
  obtain ⟨G1, hs, H⟩ := h
  refine ⟨fun n => G1 n ∨ K n, fun n hn => hn.imp (hs n) id, fun F' hF ho => f F' G1 hF hs (H F' hF fun n hg h1 => ho n (.inl hg) fun h => h.elim h1 (hd n hg))⟩

theorem Lets.iff {F G H : Bs} {Φ : Bs → Bs → Prop} (h : Lets F G Φ) (e : ∀ n, H n ↔ G n) : Lets F H Φ :=
  let ⟨G1, hs, f⟩ := h
  ⟨G1, fun n hn => (e n).2 (hs n hn), fun F' hF ho => f F' hF fun n hg => ho n ((e n).2 hg)⟩

theorem Lets.less {F F1 G : Bs} {Φ : Bs → Bs → Prop} (h : Lets F G Φ) (hF : ∀ n, F1 n → F n) : Lets F1 G Φ :=
  let ⟨G1, hs, f⟩ := h
  ⟨G1, hs, fun F' hF' ho => f F' (fun n hn => hF n (hF' n hn)) ho⟩

/-- More is let go. -/
theorem Lets.more {F G H : Bs} {Φ : Bs → Bs → Prop} (h : Lets F G Φ) (e : ∀ n, G n → H n) : Lets F H Φ :=
  let ⟨G1, hs, f⟩ := h
  ⟨G1, fun n hn => e n (hs n hn), fun F' hF ho => f F' hF fun n hg => ho n (e n hg)⟩

/-- A row in which a stretch from a on has been written. -/
def Spliced (row row' : Array Value) (a : Nat) (us : List Value) : Prop :=
  a + us.length ≤ row.size ∧ row'.toList = row.toList.take a ++ us ++ row.toList.drop (a + us.length)

theorem Spliced.size {row row' : Array Value} {a : Nat} {us : List Value} (h : Spliced row row' a us) : row'.size = row.size := by
  have := congrArg List.length h.2
  simp only [Array.length_toList, List.length_append, List.length_take, List.length_drop] at this
  have := h.1
  omega

/-- What the world is behind a write of one object, beside its block b. -/
structure Beside (w : World) (F : Bs) (w' : World) (F' : Bs) (b : Nat) (G : Bs) : Prop where
  size : w.heap.size ≤ w'.heap.size
  own : ∀ c, G c → c ≠ b → w'.heap[c]? = w.heap[c]?
  out : ∀ c, ¬ F c → c < w.heap.size → w'.heap[c]? = w.heap[c]?
  less : ∀ c, F' c → F c ∨ w.heap.size ≤ c

theorem Beside.stay {w w' : World} {F F' G H : Bs} {b : Nat} (h : Beside w F w' F' b G) (hs : ∀ c, H c → G c) (hb : ¬ H b) : Stay w F w' F' H :=
  ⟨h.size, fun c hc => h.own c (hs c hc) fun e => hb (e ▸ hc), h.out, h.less⟩

theorem Beside.sub {w w' : World} {F F' F'' G : Bs} {b : Nat} (h : Beside w F w' F' b G) (hs : ∀ c, F'' c → F' c) : Beside w F w' F'' b G :=
  ⟨h.size, h.own, h.out, fun c hc => h.less c (hs c hc)⟩

theorem list_split3 {α : Type} (l : List α) (j n : Nat) : l = l.take j ++ ((l.drop j).take n ++ l.drop (j + n)) := by
  rw [← List.drop_drop, List.take_append_drop, List.take_append_drop]

/-- The leaves of a stretch are written anew: a list of leaves. -/
theorem splice_ls {w w' : World} {F F' : Bs} {fs vs : List V} {cs us : List Value} {G : Bs} {j : Nat} (h : LsR w F fs cs G) (hj : j + vs.length ≤ fs.length) :
    ∃ Gm Gr : Bs, LsR w F ((fs.drop j).take vs.length) ((cs.drop j).take vs.length) Gm ∧ Dj Gm Gr ∧ (∀ n, G n ↔ Gm n ∨ Gr n) ∧
      ∀ Gm' : Bs, us.length = vs.length → LsR w' F' vs us Gm' → Dj Gm' Gr → Stay w F w' F' Gr → LsR w' F' (setAt j vs fs) (cs.take j ++ us ++ cs.drop (j + us.length)) (fun n => Gm' n ∨ Gr n) := by
  have hlen := h.length
  rw [list_split3 fs j vs.length] at h
  obtain ⟨c1, c23, G1, G23, hc, h1, h23, hd1, hG⟩ := h.split
  obtain ⟨c2, c3, G2, G3, hc', h2, h3, hd2, hG'⟩ := h23.split
  have l1 : c1.length = j := by rw [h1.length, List.length_take]; omega
  have l2 : c2.length = vs.length := by rw [h2.length, List.length_take, List.length_drop]; omega
  subst hc'
  have e1 : cs.take j = c1 := by rw [hc, ← l1, List.take_left]
  have e2 : (cs.drop j).take vs.length = c2 := by rw [hc, ← l1, List.drop_left, ← l2, List.take_left]
  have e3 : cs.drop (j + vs.length) = c3 := by rw [hc, ← List.drop_drop, ← l1, List.drop_left, ← l2, List.drop_left]
  refine ⟨G2, fun n => G1 n ∨ G3 n, by rw [e2]; exact h2, ?_, ?_, ?_⟩
  · rintro n hn (h | h)
    · exact hd1 n h ((hG' n).2 (.inl hn))
    · exact hd2 n hn h
  · intro n
    rw [hG, hG']
    constructor
    · rintro (h | h | h)
      · exact .inr (.inl h)
      · exact .inl h
      · exact .inr (.inr h)
    · rintro (h | h | h)
      · exact .inr (.inl h)
      · exact .inl h
      · exact .inr (.inr h)
  · intro Gm' hu hm hdm hst
    rw [hu, e1, e3]
    have k1 := h1.keep (hst.mono fun n hn => .inl hn)
    have k3 := h3.keep (hst.mono fun n hn => .inr hn)
    have d1 : Dj G1 Gm' := fun n h1 h2 => hdm n h2 (.inl h1)
    have d3 : Dj (fun n => G1 n ∨ Gm' n) G3 := by
      rintro n (h | h) h'
      · exact hd1 n h ((hG' n).2 (.inr h'))
      · exact hdm n h (.inr h')
    have := (k1.append hm d1).append k3 d3
    unfold setAt
    exact this.iff fun n => by
      constructor
      · rintro (h | h | h)
        · exact .inl (.inr h)
        · exact .inl (.inl h)
        · exact .inr h
      · rintro ((h | h) | h)
        · exact .inr (.inl h)
        · exact .inl h
        · exact .inr (.inr h)

end Go.Lf

import Derived.Test.YtgfhdajbgkpgkaaLfStore
set_option linter.unusedVariables false
/-! Lf: elements, one behind the other. -/
namespace Go.Lf

inductive ElR (w : World) (F : Bs) (τ : Ty) : List τ.den → List Value → Bs → Prop
  | nil {G : Bs} : Emp G → ElR w F τ [] [] G
  | cons {x : τ.den} {c : List Value} {l : List τ.den} {cs : List Value} {G G1 G2 : Bs} : LR w F τ x c G1 → ElR w F τ l cs G2 → Dj G1 G2 → (∀ n, G n ↔ G1 n ∨ G2 n) → ElR w F τ (x :: l) (c ++ cs) G

section
variable {w w' : World} {F F' : Bs} {τ : Ty}

theorem ElR.iff {l : List τ.den} {cs : List Value} {G H : Bs} (h : ElR w F τ l cs G) (e : ∀ n, H n ↔ G n) : ElR w F τ l cs H := by
  cases h with
  | nil h => exact .nil fun n hn => h n ((e n).1 hn)
  | cons h1 h2 hd hG => exact .cons h1 h2 hd fun n => (e n).trans (hG n)

theorem ElR.length {l : List τ.den} {cs : List Value} {G : Bs} (h : ElR w F τ l cs G) : cs.length = l.length * τ.size := by
  induction h with
  | nil => simp
  | cons h1 _ _ _ ih => rw [List.length_append, LR.length τ _ _ _ h1, ih, List.length_cons, Nat.add_mul, Nat.one_mul, Nat.add_comm]

theorem ElR.keep {l : List τ.den} {cs : List Value} {G : Bs} (h : ElR w F τ l cs G) (hs : Stay w F w' F' G) : ElR w' F' τ l cs G := by
  induction h with
  | nil h => exact .nil h
  | cons h1 _ hd hG ih => exact .cons (LR.keep τ _ _ _ h1 (hs.mono fun n hn => (hG n).2 (.inl hn))) (ih (hs.mono fun n hn => (hG n).2 (.inr hn))) hd hG

theorem ElR.lt {l : List τ.den} {cs : List Value} {G : Bs} (h : ElR w F τ l cs G) : ∀ b, G b → b < w.heap.size := by
  induction h with
  | nil h => exact fun b hb => absurd hb (h b)
  | cons h1 _ _ hG ih => exact fun b hb => ((hG b).1 hb).elim (LR.lt τ _ _ _ h1 b) (ih b)

theorem ElR.append {l l' : List τ.den} {cs cs' : List Value} {G G' : Bs} (h : ElR w F τ l cs G) (h' : ElR w F τ l' cs' G') (hd : Dj G G') : ElR w F τ (l ++ l') (cs ++ cs') (fun n => G n ∨ G' n) := by
  induction h with
  | nil h => exact h'.iff fun n => ⟨fun hn => hn.elim (fun hn => absurd hn (h n)) id, .inr⟩
  | cons h1 _ hd1 hG ih =>
    rw [List.append_assoc]
    refine .cons h1 (ih fun n hn => hd n ((hG n).2 (.inr hn))) (fun n hn hn' => hn'.elim (hd1 n hn) fun h => hd n ((hG n).2 (.inl hn)) h) fun n => ?_
    rw [hG n]
    exact or_assoc

theorem ElR.take {l : List τ.den} {cs : List Value} {G : Bs} (h : ElR w F τ l cs G) : ∀ n : Nat, ∃ G', ElR w F τ (l.take n) (cs.take (n * τ.size)) G' ∧ ∀ b, G' b → G b := by
  induction h with
  | nil h => exact fun n => ⟨_, by simpa using ElR.nil h, fun _ h => h⟩
  | cons h1 h2 hd hG ih =>
    rename_i x c l cs G G1 G2
    intro n
    cases n with
    | zero => exact ⟨fun _ => False, by simpa using ElR.nil fun _ h => h, fun _ h => h.elim⟩
    | succ n =>
      obtain ⟨G', h', hs⟩ := ih n
      have hl := LR.length τ _ _ _ h1
      refine ⟨fun b => G1 b ∨ G' b, ?_, fun b hb => (hG b).2 (hb.imp id (hs b))⟩
      have e : (c ++ cs).take ((n + 1) * τ.size) = c ++ cs.take (n * τ.size) := by
        rw [List.take_append, hl, Nat.add_mul, Nat.one_mul]
        have : n * τ.size + τ.size - τ.size = n * τ.size := by omega
        rw [this, List.take_of_length_le (by omega)]
      rw [List.take_succ_cons, e]
      exact .cons h1 h' (fun n hn hn' => hd n hn (hs n hn')) fun n => Iff.rfl

theorem ElR.drop {l : List τ.den} {cs : List Value} {G : Bs} (h : ElR w F τ l cs G) : ∀ n : Nat, ∃ G', ElR w F τ (l.drop n) (cs.drop (n * τ.size)) G' ∧ ∀ b, G' b → G b := by
  induction h with
  | nil h => exact fun n => ⟨_, by simpa using ElR.nil h, fun _ h => h⟩
  | cons h1 h2 hd hG ih =>
    rename_i x c l cs G G1 G2
    intro n
    cases n with
    | zero => exact ⟨_, by simpa using ElR.cons h1 h2 hd hG, fun _ h => h⟩
    | succ n =>
      obtain ⟨G', h', hs⟩ := ih n
      have hl := LR.length τ _ _ _ h1
      refine ⟨G', ?_, fun b hb => (hG b).2 (.inr (hs b hb))⟩
      have e : (c ++ cs).drop ((n + 1) * τ.size) = cs.drop (n * τ.size) := by
        rw [List.drop_append, hl, Nat.add_mul, Nat.one_mul]
        have : n * τ.size + τ.size - τ.size = n * τ.size := by omega
        rw [this, List.drop_eq_nil_of_le (by omega), List.nil_append]
      rw [List.drop_succ_cons, e]
      exact h'

/-- Elements by their places. -/
theorem ElR.at {l : List τ.den} {cs : List Value} {G : Bs} (h : ElR w F τ l cs G) : ∃ Gs : Nat → Bs, (∀ i x, l[i]? = some x → LR w F τ x ((cs.drop (i * τ.size)).take τ.size) (Gs i)) ∧ (∀ i, l.length ≤ i → Emp (Gs i)) ∧
    (∀ i j, i ≠ j → Dj (Gs i) (Gs j)) ∧ ∀ n, G n ↔ ∃ i, Gs i n := by
  induction h with
  | nil h => exact ⟨fun _ _ => False, fun i x hi => by simp at hi, fun _ _ _ h => h, fun _ _ _ _ h => h.elim, fun n => ⟨fun hn => absurd hn (h n), fun ⟨_, h⟩ => h.elim⟩⟩
  | cons h1 h2 hd hG ih =>
    rename_i x c l cs G G1 G2
    obtain ⟨Gs, a1, a2, a3, a4⟩ := ih
    have hl := LR.length τ _ _ _ h1
    refine ⟨fun i => match i with | 0 => G1 | i + 1 => Gs i, fun i y hi => ?_, fun i hi => ?_, fun i j hij => ?_, fun n => ?_⟩
    · cases i with
      | zero =>
        simp at hi
        subst hi
        simp only [Nat.zero_mul, List.drop_zero]
        rw [← hl, List.take_left]
        exact h1
      | succ i =>
        have e : ((c ++ cs).drop ((i + 1) * τ.size)).take τ.size = (cs.drop (i * τ.size)).take τ.size := by
          rw [List.drop_append, hl, Nat.add_mul, Nat.one_mul]
          have : i * τ.size + τ.size - τ.size = i * τ.size := by omega
          rw [this, List.drop_eq_nil_of_le (by omega), List.nil_append]
        rw [e]
        exact a1 i y (by simpa using hi)
    · cases i with
      | zero => simp at hi
      | succ i => exact a2 i (by simpa using hi)
    · cases i with
      | zero =>
        cases j with
        | zero => exact absurd rfl hij
        | succ j => exact fun n hn hn' => hd n hn ((a4 n).2 ⟨j, hn'⟩)
      | succ i =>
        cases j with
        | zero => exact fun n hn hn' => hd n hn' ((a4 n).2 ⟨i, hn⟩)
        | succ j => exact a3 i j fun e => hij (by rw [e])
    · rw [hG n, a4 n]
      constructor
      · rintro (h | ⟨i, h⟩)
        · exact ⟨0, h⟩
        · exact ⟨i + 1, h⟩
      · rintro ⟨i, h⟩
        cases i with
        | zero => exact .inl h
        | succ i => exact .inr ⟨i, h⟩

theorem ElR.of {l : List τ.den} : ∀ {cs : List Value} {Gs : Nat → Bs}, cs.length = l.length * τ.size → (∀ i x, l[i]? = some x → LR w F τ x ((cs.drop (i * τ.size)).take τ.size) (Gs i)) → (∀ i, l.length ≤ i → Emp (Gs i)) → (∀ i j, i ≠ j → Dj (Gs i) (Gs j)) →
    ElR w F τ l cs (fun n => ∃ i, Gs i n) := by
  induction l with
  | nil =>
    intro cs Gs hl _ he _
    have : cs = [] := List.eq_nil_of_length_eq_zero (by simpa using hl)
    subst this
    exact .nil fun n ⟨i, hi⟩ => he i (Nat.zero_le _) n hi
  | cons x l ih =>
    intro cs Gs hl hx he hd
    have hl' : cs.length = l.length * τ.size + τ.size := by rw [hl, List.length_cons, Nat.add_mul, Nat.one_mul]
    have h0 := hx 0 x rfl
    simp only [Nat.zero_mul, List.drop_zero] at h0
    have h2 := ih (cs := cs.drop τ.size) (Gs := fun i => Gs (i + 1)) (by rw [List.length_drop]; omega) (fun i y hi => by
      have := hx (i + 1) y (by simpa using hi)
      rw [List.drop_drop]
      have e : τ.size + i * τ.size = (i + 1) * τ.size := by rw [Nat.add_mul, Nat.one_mul, Nat.add_comm]
      rw [e]; exact this) (fun i hi => he (i + 1) (by simpa using hi)) (fun i j hij => hd (i + 1) (j + 1) (fun e => hij (by omega)))
    have hE := ElR.cons (G := fun n => ∃ i, Gs i n) h0 h2 (fun n hn ⟨i, hi⟩ => hd 0 (i + 1) (by omega) n hn hi) fun n => ⟨fun ⟨i, hi⟩ => by
      cases i with
      | zero => exact .inl hi
      | succ i => exact .inr ⟨i, hi⟩, fun h => h.elim (fun h => ⟨0, h⟩) fun ⟨i, h⟩ => ⟨i + 1, h⟩⟩
    rw [List.take_append_drop] at hE
    exact hE

theorem seg_drop_take (row : Array Value) {o n i s : Nat} (h : (i + 1) * s ≤ n) : ((seg row o n).drop (i * s)).take s = seg row (o + i * s) s := by
  unfold seg
  rw [Nat.add_mul, Nat.one_mul] at h
  rw [List.drop_take, List.take_take, List.drop_drop]
  have : min s (n - i * s) = s := by omega
  rw [this]

/-- An array in memory is its elements. -/
theorem ArrAt.els {l : List τ.den} {b off : Nat} {G : Bs} (h : ArrAt w τ.size (LR w F τ) l (some (b, off)) G) :
    ∃ row G', Row w b row ∧ off + l.length * τ.size ≤ row.size ∧ ElR w F τ l (seg row off (l.length * τ.size)) G' ∧ ¬ G' b ∧ ∀ n, G n ↔ n = b ∨ G' n := by
  obtain ⟨row, Gs, hr, hs, hx, he, hd, hb, hG⟩ := h
  refine ⟨row, _, hr, hs, ElR.of (seg_length hs) (fun i x hi => ?_) he hd, fun ⟨i, hi⟩ => hb i hi, hG⟩
  have hil := (List.getElem?_eq_some_iff.1 hi).1
  rw [seg_drop_take row (Nat.mul_le_mul_right _ hil)]
  exact hx i x hi

theorem ElR.arr {l : List τ.den} {b off : Nat} {G : Bs} {row : Array Value} (hr : Row w b row) (hs : off + l.length * τ.size ≤ row.size) (h : ElR w F τ l (seg row off (l.length * τ.size)) G) (hb : ¬ G b) :
    ArrAt w τ.size (LR w F τ) l (some (b, off)) (fun n => n = b ∨ G n) := by
  obtain ⟨Gs, a1, a2, a3, a4⟩ := h.at
  refine ⟨row, Gs, hr, hs, fun i x hi => ?_, a2, a3, fun i hi => hb ((a4 b).2 ⟨i, hi⟩), fun n => or_congr Iff.rfl (a4 n)⟩
  have hil := (List.getElem?_eq_some_iff.1 hi).1
  have := a1 i x hi
  rw [seg_drop_take row (Nat.mul_le_mul_right _ hil)] at this
  exact this

theorem ElR.plain {l : List τ.den} {cs : List Value} {G : Bs} (h : ElR w F τ l cs G) (hp : τ.plain = true) : Emp G := by
  induction h with
  | nil h => exact h
  | cons h1 _ _ hG ih => exact fun n hn => ((hG n).1 hn).elim (LR.plain τ _ _ _ hp h1 n) (ih n)
end
end Go.Lf

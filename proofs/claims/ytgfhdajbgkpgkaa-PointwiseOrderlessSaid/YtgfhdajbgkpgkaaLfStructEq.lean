import Derived.Test.YtgfhdajbgkpgkaaLfWay
import Derived.Laws.StructEq
set_option linter.unusedVariables false
/-! Lf: == of structs of numbers and bools. -/
namespace Go.Lf
section
variable {P : Program} {w : World} {β : Nat → Option (Nat × Nat)} {obs : List (Nat × Ob)} {F : Bs}

theorem eqFs_append : ∀ {a1 a2 b1 b2 : List V} {c : Bool}, a1.length = b1.length → eqFs (a1 ++ a2) (b1 ++ b2) = some c → ∃ c1 c2, eqFs a1 b1 = some c1 ∧ eqFs a2 b2 = some c2 ∧ c = (c1 && c2)
  | [], a2, [], b2, c, _, h => ⟨true, c, rfl, h, rfl⟩
  | [], _, _ :: _, _, _, hl, _ => by cases hl
  | _ :: _, _, [], _, _, hl, _ => by cases hl
  | x :: a1, a2, y :: b1, b2, c, hl, h => by
    have hl' : a1.length = b1.length := by simpa using hl
    cases x <;> cases y <;> simp only [List.cons_append, eqFs] at h <;> try (cases h; done)
    · rename_i k n k' n'
      cases hk : kbeq k k' with
      | false => rw [hk] at h; cases h
      | true =>
        rw [hk] at h
        simp only [cond] at h
        split at h
        · rename_i c0 h0
          obtain ⟨c1, c2, e1, e2, e3⟩ := eqFs_append hl' h0
          injection h with h
          refine ⟨(n == n') && c1, c2, by simp only [eqFs, hk, cond, e1], e2, ?_⟩
          rw [← h, e3, Bool.and_assoc]
        · cases h
    · rename_i p q
      split at h
      · rename_i c0 h0
        obtain ⟨c1, c2, e1, e2, e3⟩ := eqFs_append hl' h0
        injection h with h
        refine ⟨(p == q) && c1, c2, by simp only [eqFs, e1], e2, ?_⟩
        rw [← h, e3, Bool.and_assoc]
      · cases h

theorem eqFs_len : ∀ {a b : List V} {c : Bool}, eqFs a b = some c → a.length = b.length
  | [], [], _, _ => rfl
  | [], _ :: _, _, h => by cases h
  | x :: a, [], _, h => by cases x <;> cases h
  | x :: a, y :: b, c, h => by
    cases x <;> cases y <;> simp only [eqFs] at h <;> try (cases h; done)
    · rename_i k n k' n'
      cases hk : kbeq k k' with
      | false => rw [hk] at h; cases h
      | true =>
        rw [hk] at h
        simp only [cond] at h
        split at h
        · rename_i c0 h0; simp [eqFs_len h0]
        · cases h
    · split at h
      · rename_i c0 h0; simp [eqFs_len h0]
      · cases h

theorem kinds_append : ∀ {k1 k2 : List Bool} {a1 a2 : List V}, k1.length = a1.length → kinds (k1 ++ k2) (a1 ++ a2) = true → kinds k1 a1 = true ∧ kinds k2 a2 = true
  | [], _, [], _, _, h => ⟨rfl, h⟩
  | [], _, _ :: _, _, hl, _ => by cases hl
  | _ :: _, _, [], _, hl, _ => by cases hl
  | k :: k1, k2, x :: a1, a2, hl, h => by
    have hl' : k1.length = a1.length := by simpa using hl
    cases k <;> cases x <;> simp only [List.cons_append, kinds] at h ⊢ <;> first
      | exact kinds_append hl' h
      | cases h

theorem kinds_len : ∀ {ks : List Bool} {a : List V}, kinds ks a = true → a.length = ks.length
  | [], [], _ => rfl
  | [], _ :: _, h => by cases h
  | k :: _, [], h => by cases k <;> cases h
  | k :: ks, x :: a, h => by
    cases k <;> cases x <;> simp only [kinds] at h <;> first
      | (simp [kinds_len h]; done)
      | cases h

/-- What is to be shown of a type. -/
def EqAt' (P : Program) (w : World) (n : Nat) (t : TypeId) (ks : List Bool) : Prop :=
  ∀ (i : TypeInfo) (d : Nat) (xs ys : Array Value) (off : Nat) (va vb : List V) (c : Bool) (β : Nat → Option (Nat × Nat)) (obs : List (Nat × Ob)) (F : Bs), P.info? t = some i → kinds ks va = true → All2 (VRl w β obs F) va ((xs.toList.drop off).take i.size) → All2 (VRl w β obs F) vb ((ys.toList.drop off).take i.size) → eqFs va vb = some c →
    ∃ A B, (part t xs off).run P w = .ok A w ∧ (part t ys off).run P w = .ok B w ∧ (Op.equalIn (d + n + 1) t A B).run P w = .ok c w

theorem All2.take_drop {α γ : Type} {R : α → γ → Prop} {as : List α} {bs : List γ} (h : All2 R as bs) : ∀ n : Nat, All2 R (as.take n) (bs.take n) ∧ All2 R (as.drop n) (bs.drop n) := by
  induction h with
  | nil => intro n; simp only [List.take_nil, List.drop_nil]; exact ⟨.nil, .nil⟩
  | cons h t ih =>
    intro n
    cases n with
    | zero => exact ⟨.nil, .cons h t⟩
    | succ n => exact ⟨.cons h (ih n).1, (ih n).2⟩

theorem eqFields_run {n d : Nat} (IH : ∀ t ks, eqB P n t ks = true → EqAt' P w n t ks) {xs ys : Array Value} : ∀ (fs : List Field) (off : Nat) (ks : List Bool) {va vb : List V} {c : Bool}, eqFields (eqB P n) P off ks fs = true → kinds ks va = true →
    All2 (VRl w β obs F) va (xs.toList.drop off) → All2 (VRl w β obs F) vb (ys.toList.drop off) → eqFs va vb = some c → (Op.eqFields (d + n + 1) xs ys fs).run P w = .ok c w
  | [], off, ks, va, vb, c, h, hk, ha, hb, hc => by
    have e : ks = [] := by simpa [eqFields] using h
    subst e
    have hl := kinds_len hk
    have : va = [] := List.eq_nil_of_length_eq_zero (by simpa using hl)
    subst this
    cases vb with
    | nil => injection hc with hc; subst hc; simp [Op.eqFields]
    | cons _ _ => cases hc
  | f :: fs, off, ks, va, vb, c, h, hk, ha, hb, hc => by
    simp only [eqFields, Bool.and_eq_true] at h
    obtain ⟨⟨h1, h2⟩, h4⟩ := h
    have hname : f.name ≠ "_" := by simpa using h1
    have hoff : f.offset = off := by simpa using h2
    cases hi : P.info? f.type with
    | none => rw [hi] at h4; cases h4
    | some i =>
      rw [hi] at h4
      simp only [Bool.and_eq_true, decide_eq_true_eq] at h4
      obtain ⟨⟨hle, h3⟩, h5⟩ := h4
      have hlb := eqFs_len hc
      have hlk := kinds_len hk
      have e1 : va = va.take i.size ++ va.drop i.size := (List.take_append_drop _ _).symm
      have e2 : vb = vb.take i.size ++ vb.drop i.size := (List.take_append_drop _ _).symm
      have e3 : ks = ks.take i.size ++ ks.drop i.size := (List.take_append_drop _ _).symm
      rw [e1, e2] at hc
      rw [e1, e3] at hk
      obtain ⟨k1, k2⟩ := kinds_append (by rw [List.length_take, List.length_take, hlk]) hk
      obtain ⟨c1, c2, hc1, hc2, hcc⟩ := eqFs_append (by rw [List.length_take, List.length_take, hlb]) hc
      obtain ⟨ha1, ha2⟩ := ha.take_drop i.size
      obtain ⟨hb1, hb2⟩ := hb.take_drop i.size
      rw [List.drop_drop] at ha2 hb2
      obtain ⟨A, B, hA, hB, hE⟩ := IH f.type _ h3 i d xs ys off _ _ c1 β obs F hi k1 ha1 hb1 hc1
      have hrest := eqFields_run (d := d) IH fs (off + i.size) _ h5 k2 ha2 hb2 hc2
      simp only [Op.eqFields, hname, ne_eq, not_false_eq_true, if_true, hoff, Sem.run_bind, hA, hB, hE, Result.andThen_ok]
      cases c1 with
      | false => subst hcc; simp
      | true => subst hcc; simpa using hrest

theorem eqB_at : ∀ (n : Nat) (t : TypeId) (ks : List Bool), eqB P n t ks = true → EqAt' P w n t ks := by
  have single : ∀ (n : Nat) (t : TypeId) (i0 : TypeInfo) (kb : Bool), P.info? t = some i0 → (i0.size == 1) = true → ((kb = true ∧ ∃ k, P.underlying t = some (.int k)) ∨ (kb = false ∧ P.underlying t = some .bool)) → EqAt' P w n t [kb] := by
    intro n t i0 kb hi0 hs hk i d xs ys off va vb c β obs F hi hkd ha hb hc
    rw [hi0] at hi; injection hi with hi; subst hi
    have hs1 : i0.size = 1 := by simpa using hs
    have hl := kinds_len hkd
    rw [hs1] at ha hb
    have hlb := eqFs_len hc
    cases va with
    | nil => cases hl
    | cons x va =>
      have hva : va = [] := List.eq_nil_of_length_eq_zero (by simpa using hl)
      subst hva
      cases vb with
      | nil => cases hlb
      | cons y vb =>
        have hvb : vb = [] := List.eq_nil_of_length_eq_zero (by simpa using hlb.symm)
        subst hvb
        obtain ⟨u1, e1, r1⟩ := ha.get 0 x rfl
        obtain ⟨u2, e2, r2⟩ := hb.get 0 y rfl
        have f1 : xs[off]? = some u1 := by
          rw [List.getElem?_take, if_pos (by omega), List.getElem?_drop] at e1
          simpa using e1
        have f2 : ys[off]? = some u2 := by
          rw [List.getElem?_take, if_pos (by omega), List.getElem?_drop] at e2
          simpa using e2
        have hagg : ∃ dd, P.underlying t = some dd ∧ isAggD dd = false := by
          rcases hk with ⟨_, k, hk⟩ | ⟨_, hk⟩
          · exact ⟨_, hk, rfl⟩
          · exact ⟨_, hk, rfl⟩
        obtain ⟨dd, hdd, hia0⟩ := hagg
        have hia : (isAgg t).run P w = .ok false w := by cases dd <;> simp_all [isAgg, run_underlying hdd, isAggD]
        refine ⟨u1, u2, by simp [part, hia, f1], by simp [part, hia, f2], ?_⟩
        rcases hk with ⟨hkb, k0, hk⟩ | ⟨hkb, hk⟩
        · subst hkb
          cases x <;> simp only [kinds] at hkd <;> try (cases hkd; done)
          cases y <;> simp only [eqFs] at hc <;> try (cases hc; done)
          rename_i k a k' b
          cases hkk : kbeq k k' with
          | false => rw [hkk] at hc; cases hc
          | true =>
            rw [hkk] at hc
            have := kbeq_eq hkk
            subst this
            injection hc with hc
            have g1 : u1 = .int k a := r1
            have g2 : u2 = .int k b := r2
            subst g1; subst g2
            rw [run_equalIn_int w (d + n) t k k0 a b hk, ← hc]
            simp
        · subst hkb
          cases x <;> simp only [kinds] at hkd <;> try (cases hkd; done)
          cases y <;> simp only [eqFs] at hc <;> try (cases hc; done)
          rename_i a b
          injection hc with hc
          have g1 : u1 = .bool a := r1
          have g2 : u2 = .bool b := r2
          subst g1; subst g2
          rw [run_equalIn_bool' w (d + n) t a b hk, ← hc]
          simp
  intro n
  induction n with
  | zero => intro t ks h; cases h
  | succ n ih =>
    intro t ks h
    unfold eqB at h
    split at h
    · rename_i k i hu hi; exact single (n + 1) t i true hi h (.inl ⟨rfl, k, hu⟩)
    · rename_i i hu hi; exact single (n + 1) t i false hi h (.inr ⟨rfl, hu⟩)
    · rename_i fs i0 hu hi0
      rw [Bool.and_eq_true, Bool.and_eq_true] at h
      have hst : P.stoodInHeld t = false := by simpa using h.1.1
      intro i d xs ys off va vb c β obs F hi hkd ha hb hc
      rw [hi0] at hi; injection hi with hi; subst hi
      have hia : (isAgg t).run P w = .ok true w := by simp [isAgg, run_underlying hu]
      have hfo : P.fieldsOf t = fs := by simp [Program.fieldsOf, hu]
      refine ⟨.agg (xs.extract off (off + i0.size)), .agg (ys.extract off (off + i0.size)), by simp [part, hia, sizeOf, typeInfo, hi0], by simp [part, hia, sizeOf, typeInfo, hi0], ?_⟩
      have e : d + (n + 1) + 1 = (d + n + 1) + 1 := by omega
      rw [e, run_equalIn_struct w (d + n + 1) t _ _ (by rw [hfo]; exact hu) hst, hfo]
      refine eqFields_run (β := β) (obs := obs) (F := F) (d := d) ih fs.toList 0 _ h.2 hkd ?_ ?_ hc
      · simpa using ha
      · simpa using hb
    · cases h

/-- == of two structs. -/
theorem equal_agg {t : TypeId} {i : TypeInfo} {ks : List Bool} {a b : List V} {us vs : Array Value} {c : Bool} (hB : eqB P 8 t ks = true) (hi : P.info? t = some i) (hk : kinds ks a = true) (hsz : ks.length = i.size)
    (ha : All2 (VRl w β obs F) a us.toList) (hb : All2 (VRl w β obs F) b vs.toList) (hc : eqFs a b = some c) (hst : ∃ fs, P.underlying t = some (.struct fs)) : (Op.equal t (.agg us) (.agg vs)).run P w = .ok c w := by
  have hl := kinds_len hk
  have hl2 := eqFs_len hc
  have l1 := ha.length
  have l2 := hb.length
  rw [Array.length_toList] at l1 l2
  obtain ⟨A, B, hA, hB2, hE⟩ := eqB_at (w := w) 8 t ks hB i 9991 us vs 0 a b c β obs F hi hk (by rw [List.drop_zero, List.take_of_length_le (by rw [Array.length_toList]; omega)]; exact ha) (by rw [List.drop_zero, List.take_of_length_le (by rw [Array.length_toList]; omega)]; exact hb) hc
  obtain ⟨fs, hu⟩ := hst
  have hia : (isAgg t).run P w = .ok true w := by simp [isAgg, run_underlying hu]
  have eA : A = .agg us := by
    simp [part, hia, sizeOf, typeInfo, hi] at hA
    have e : i.size = us.size := by omega
    rw [← hA, e]; simp
  have eB : B = .agg vs := by
    simp [part, hia, sizeOf, typeInfo, hi] at hB2
    have e : i.size = vs.size := by omega
    rw [← hB2, e]; simp
  subst eA; subst eB
  exact hE
end
end Go.Lf

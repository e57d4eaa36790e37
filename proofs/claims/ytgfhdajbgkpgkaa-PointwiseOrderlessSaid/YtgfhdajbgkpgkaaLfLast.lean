import Derived.Test.YtgfhdajbgkpgkaaLfFun
set_option linter.unusedVariables false
/-! Lf: what the parts of a program are put together with. -/
namespace Go.Lf

/-! ### The types -/
def z0B : V → Value → Bool
  | .int k n, .int k' n' => kbeq k k' && decide (n = n')
  | .bool b, .bool b' => b == b'
  | .nilp, .pointer none => true
  | .nils, .slice none 0 0 => true
  | .undef, u => u.oneCell'
  | _, _ => false

theorem z0B_ok {v : V} {u : Value} (h : z0B v u = true) : Z0 v u := by
  unfold z0B at h
  split at h
  · rw [Bool.and_eq_true] at h
    rw [kbeq_eq h.1, of_decide_eq_true h.2]
    rfl
  · have := eq_of_beq h
    rw [this]; rfl
  · rfl
  · rfl
  · exact h
  · cases h

def all2B {α β : Type} (f : α → β → Bool) : List α → List β → Bool
  | [], [] => true
  | a :: as, b :: bs => f a b && all2B f as bs
  | _, _ => false

theorem all2B_ok {α β : Type} {f : α → β → Bool} {R : α → β → Prop} (hf : ∀ a b, f a b = true → R a b) : ∀ {as : List α} {bs : List β}, all2B f as bs = true → All2 R as bs
  | [], [], _ => .nil
  | [], _ :: _, h => by cases h
  | _ :: _, [], h => by cases h
  | a :: as, b :: bs, h => by
    have h' : (f a b && all2B f as bs) = true := h
    rw [Bool.and_eq_true] at h'
    exact .cons (hf a b h'.1) (all2B_ok hf h'.2)

def infoB (P : Program) (t : TypeId) (i : TI) : Bool :=
  match P.info? t with
  | some inf => inf.size == i.size && inf.bytes == i.bytes && i.zero.length == i.size && (match inf.zero with
    | some z => all2B z0B i.zero z.cells.toList
    | none => false)
  | none => false

def fieldB (P : Program) (p : Nat × Nat) (f : Field) : Bool :=
  f.offset == p.1 && p.2 != 0 && (match P.info? f.type with | some inf => inf.size == p.2 | none => false) &&
    (match P.underlying f.type with | some d => isAggD d == !Nat.beq p.2 1 | none => false)

def kindB (P : Program) (t : TypeId) : TK → Bool
  | .int k => match P.underlying t with | some (.int k') => kbeq k' k | _ => false
  | .bool => match P.underlying t with | some .bool => true | _ => false
  | .slice e => match P.underlying t with | some (.slice e') => e' == e | _ => false
  | .ptr e => match P.underlying t with | some (.pointer e') => e' == e | _ => false
  | .struct fs => match P.underlying t with | some (.struct fields) => all2B (fieldB P) fs fields.toList | _ => false
  | .other => true

def eqTB (P : Program) (t : TypeId) (i : TI) : Bool :=
  i.eq.isEmpty || (!P.eqGuardType P.depth t && eqB P 8 t i.eq && i.eq.length == i.size && (match P.underlying t with | some (.struct _) => true | _ => false))

def tisB (P : Program) : List (TypeId × TI) → Bool
  | [] => true
  | (t, i) :: l => infoB P t i && kindB P t i.k && eqTB P t i && tisB P l

theorem kindB_ok {P : Program} {t : TypeId} {k : TK} (h : kindB P t k = true) : KindOk P t k := by
  unfold kindB at h
  cases k with
  | int k =>
    simp only at h
    split at h
    · rename_i k' hu; rw [← kbeq_eq h]; exact hu
    · cases h
  | bool =>
    simp only at h
    split at h
    · assumption
    · cases h
  | slice e =>
    simp only at h
    split at h
    · rename_i e' hu; rw [← eq_of_beq h]; exact hu
    · cases h
  | ptr e =>
    simp only at h
    split at h
    · rename_i e' hu; rw [← eq_of_beq h]; exact hu
    · cases h
  | struct fs =>
    simp only at h
    split at h
    · rename_i fields hu
      refine ⟨fields, hu, all2B_ok (fun p f hf => ?_) h⟩
      unfold fieldB at hf
      simp only [Bool.and_eq_true] at hf
      obtain ⟨⟨⟨h1, h2⟩, h3⟩, h4⟩ := hf
      refine ⟨eq_of_beq h1, by simpa using h2, ?_, ?_⟩
      · split at h3
        · rename_i inf hi; exact ⟨inf, hi, eq_of_beq h3⟩
        · cases h3
      · split at h4
        · rename_i d hd; exact ⟨d, hd, eq_of_beq h4⟩
        · cases h4
    · cases h
  | other => trivial

theorem tisB_ok {P : Program} : ∀ {l : List (TypeId × TI)}, tisB P l = true → ∀ t i, get t l = some i → TIok P t i
  | [], _, t, i, h => by cases h
  | (t0, i0) :: l, h, t, i, hg => by
    have h' : (infoB P t0 i0 && kindB P t0 i0.k && eqTB P t0 i0 && tisB P l) = true := h
    simp only [Bool.and_eq_true] at h'
    obtain ⟨⟨⟨h1, h2⟩, h3⟩, h4⟩ := h'
    unfold get at hg
    cases e : Nat.beq t0 t with
    | false => rw [e] at hg; exact tisB_ok h4 t i hg
    | true =>
      rw [e] at hg
      injection hg with hg; subst hg
      have := Nat.eq_of_beq_eq_true e
      subst this
      refine ⟨?_, kindB_ok h2, fun hne => ?_⟩
      · unfold infoB at h1
        split at h1
        · rename_i inf hi
          simp only [Bool.and_eq_true] at h1
          obtain ⟨⟨⟨a1, a2⟩, a3⟩, a4⟩ := h1
          split at a4
          · rename_i z hz
            exact ⟨z, inf, hi, eq_of_beq a1, eq_of_beq a2, hz, all2B_ok (fun _ _ => z0B_ok) a4, eq_of_beq a3⟩
          · cases a4
        · cases h1
      · unfold eqTB at h3
        rw [Bool.or_eq_true] at h3
        rcases h3 with h3 | h3
        · exact absurd (List.isEmpty_iff.1 h3) hne
        · simp only [Bool.and_eq_true, Bool.not_eq_true'] at h3
          obtain ⟨⟨⟨a1, a2⟩, a3⟩, a4⟩ := h3
          refine ⟨a1, a2, eq_of_beq a3, ?_⟩
          split at a4
          · rename_i fs hu; exact ⟨fs, hu⟩
          · cases a4

theorem tisOk {P : Program} {l : List (TypeId × TI)} (h : tisB P l = true) {ety : List (TypeId × Ty)} {env : List FSem} {keep pin : List Nat} {nt : Nat} : TisOk P ⟨l, ety, env, keep, pin, nt⟩ := tisB_ok h

/-! ### The functions that are called -/
def EnvL (P : Program) (env : List FSem) : Prop := ∀ f S, findF f env = some S → S.id = f ∧ FSound P S

theorem envNil {P : Program} : EnvL P [] := fun f S h => by cases h
theorem envCons {P : Program} {S : FSem} {env : List FSem} (h : FSound P S) (t : EnvL P env) : EnvL P (S :: env) := by
  intro f S' hf
  unfold findF at hf
  cases e : Nat.beq S.id f with
  | true =>
    rw [e] at hf
    injection hf with hf; subst hf
    exact ⟨Nat.eq_of_beq_eq_true e, h⟩
  | false => rw [e] at hf; exact t f S' hf

/-! ### The loops -/
def bodyOf (fn : Func) : Code := fn.body.getD .skip

theorem lokNil {R : Type} {P : Program} {C : Ctx} {c : Code} {n : Nat} : Lok (R := R) P C [] c n := fun i c' lc _ h => by cases h
theorem lokCons {R : Type} {P : Program} {C : Ctx} {c c0 : Code} {n : Nat} {lc : LC R} {L : List (LC R)} (he : nthLoop c (lc.at_ - n) = some c0) (h : LCs P C c0 lc) (t : Lok P C L c n) : Lok P C (lc :: L) c n := by
  intro i c' lc' hc hf
  unfold findL at hf
  cases e : Nat.beq lc.at_ (n + i) with
  | true =>
    rw [e] at hf
    injection hf with hf; subst hf
    have := Nat.eq_of_beq_eq_true e
    rw [this, Nat.add_sub_cancel_left, hc] at he
    injection he with he; subst he
    exact h
  | false => rw [e] at hf; exact t i c' lc' hc hf

/-! ### A law -/
/-- Numbers, bools and slices of numbers, as arguments of a law. -/
theorem val_int {w : World} {F : Bs} {k : IntKind} {n : Int} : ValR w F (.int k) n (.int k n) (fun _ => False) :=
  ⟨⟨rfl, fun _ h => h⟩, ⟨fun ⟨_, h⟩ => (by cases h), fun h => (by cases h)⟩⟩
theorem val_bool {w : World} {F : Bs} {b : Bool} : ValR w F .bool b (.bool b) (fun _ => False) :=
  ⟨⟨rfl, fun _ h => h⟩, ⟨fun ⟨_, h⟩ => (by cases h), fun h => (by cases h)⟩⟩

theorem val_ints {w : World} {F : Bs} (hF : ∀ b, ¬ F b) {k : IntKind} {a : Option Addr} {len cap : Nat} {zs : List Int}
    (h : (a = none ∧ len = 0 ∧ cap = 0 ∧ zs = []) ∨ ∃ x, a = some x ∧ len ≤ cap ∧ cap ≤ maxLen ∧ zs.length = cap ∧ (∀ i, i < zs.length → w.cell? (x.add i) = some (.int k (zs.getD i 0))) ∧ ∀ n ∈ zs, (Lit.int k n).wf = true) :
    ValR w F (.sl (.int k)) (zs.take len) (.slice a len cap) (fun _ => False) := by
  refine ⟨?_, ⟨fun ⟨_, h⟩ => (by cases h), fun h => (by cases h)⟩⟩
  show LR w F (.sl (.int k)) (zs.take len) [.slice a len cap] (fun _ => False)
  rcases h with ⟨rfl, rfl, rfl, rfl⟩ | ⟨x, rfl, hl, _, hz, hc, _⟩
  · exact ⟨fun _ h => h, none, 0, rfl, .inl rfl⟩
  · have hlen : (zs.take len).length = len := by rw [List.length_take]; omega
    refine ⟨fun _ h => h, some x, cap - len, by rw [hlen, Nat.add_sub_cancel' hl], ?_⟩
    by_cases h0 : len = 0
    · exact .inl (by rw [h0]; rfl)
    · right
      have h00 := hc 0 (by omega)
      have hx0 : x.add 0 = x := by simp [Addr.add]
      rw [hx0] at h00
      unfold World.cell? at h00
      cases hb : w.heap[x.block]? with
      | none => rw [hb] at h00; cases h00
      | some ob =>
        cases ob with
        | cells row t fr =>
          rw [hb] at h00
          simp only at h00
          cases hs : x.spot.isSome with
          | true => rw [hs] at h00; cases h00
          | false =>
            have hsn : x.spot = none := by cases h : x.spot with | none => rfl | some _ => rw [h] at hs; cases hs
            have hx : x = ⟨x.block, x.off, none⟩ := by cases x; simp at hsn; subst hsn; rfl
            have hcell : ∀ i, i < len → row[x.off + i]? = some (.int k (zs.getD i 0)) := by
              intro i hi
              have := hc i (by omega)
              unfold World.cell? at this
              have e1 : x.add i = ⟨x.block, x.off + i, none⟩ := by
                unfold Addr.add
                split
                · rename_i h; rw [h, Nat.add_zero]; exact hx
                · rfl
              rw [e1] at this
              simp only [hb] at this
              simpa using this
            refine ⟨x.block, x.off, row, by rw [← hx], hF _, ⟨t, fr, hb⟩, ?_, fun i n hi => ⟨fun _ => False, fun _ h => h, ?_⟩⟩
            · rw [hlen]
              have := hcell (len - 1) (by omega)
              have := (Array.getElem?_eq_some_iff.1 this).1
              show x.off + len * 1 ≤ row.size
              omega
            · have hil : i < len := by have := (List.getElem?_eq_some_iff.1 hi).1; omega
              have hv := hcell i hil
              have hn : zs.getD i 0 = n := by
                rw [List.getElem?_take, if_pos hil] at hi
                rw [List.getD_eq_getElem?_getD, hi]; rfl
              rw [hn] at hv
              refine ⟨?_, fun _ h => h⟩
              show seg row (x.off + i * 1) 1 = [.int k n]
              unfold seg
              rw [Nat.mul_one]
              have hlt := (Array.getElem?_eq_some_iff.1 hv).1
              rw [List.drop_eq_getElem_cons (by simpa using hlt)]
              have := (Array.getElem?_eq_some_iff.1 hv).2
              simp [this]
        | _ => rw [hb] at h00; cases h00

/-- A law answers true, and leaves what was there. -/
theorem law_calls {P : Program} {S : FSem} (hS : FSound P S) (hr : S.rs = [.bool]) {k : Nat} {x : Args S.ps} {y : Tys S.rs × Upds S.ps} (hy : S.f k x = some y) (ht : ∀ w F (rs : List Value) (G : Bs), ResR w F S.rs y.1 rs G → rs = [.bool true]) {w : World} {us : List Value} (hx : ArgsR w (fun _ => False) S.ps x us (fun _ => False)) :
    Calls P S.id us.toArray w fun e w' => e = .returned (.bool true) ∧ RowKit.Below w.heap.size w w' := by
  refine (hS.calls k x y hy w (fun _ => False) (fun _ => False) (fun _ => False) us hx (fun b => ⟨fun h => h.elim, fun h => h.elim id id⟩) (fun _ h => h.elim) (fun _ h => h.elim)).mono ?_
  rintro e w' ⟨rs, F', G1, G2, he, hres, _, _, _, _, _, hap, hst, _⟩
  have := ht _ _ _ _ hres
  subst this
  exact ⟨he, ⟨hap.os, hap.tape, hap.output, hst.size, fun b hb => hst.out b (fun h => h) hb⟩⟩

theorem res_true {w : World} {F : Bs} {rs : List Value} {G : Bs} (h : ResR w F [.bool] (true, ()) rs G) : rs = [.bool true] := by
  obtain ⟨u, us, G1, G2, hu, ⟨hl, ha⟩, ⟨hus, _⟩, _⟩ := h
  subst hus
  have hl' : u.cells.toList = [.bool true] := hl.1
  have hn : ¬ ∃ us, u = .agg us := fun h => by have := ha.1 h; cases this
  have : u = .bool true := by
    cases u with
    | agg us => exact absurd ⟨us, rfl⟩ hn
    | bool b => simp [Value.cells] at hl'; rw [hl']
    | _ => simp [Value.cells] at hl'
  rw [hu, this]
end Go.Lf

import Derived.Test.YtgfhdajbgkpgkaaLfMatch
import Derived.LoopN
set_option linter.unusedVariables false
/-! Lf: code. -/
namespace Go.Lf

def outSel : (l : List (EX × Patt)) → Outs l → EX × (p : Patt) × p.den
  | [], y => nomatch y
  | [(e, p)], y => (e, ⟨p, y⟩)
  | (e, p) :: _ :: _, .inl x => (e, ⟨p, x⟩)
  | _ :: q :: l, .inr y => outSel (q :: l) y

theorem outsBuild_sel : ∀ (l : List (EX × Patt)) (b : Nat) (y : Outs l), outsBuild l b y = ((outSel l y).1, (outSel l y).2.1.build b (outSel l y).2.2)
  | [], _, y => nomatch y
  | [(e, p)], b, y => rfl
  | (e, p) :: _ :: _, b, .inl x => rfl
  | _ :: q :: l, b, .inr y => outsBuild_sel (q :: l) b y

theorem EX.beq_eq : ∀ {a b : EX}, EX.beq a b = true → a = b
  | .normal, .normal, _ => rfl
  | .ret, .ret, _ => rfl
  | .ex a, .ex b, h => by rw [Nat.eq_of_beq_eq_true (show Nat.beq a b = true from h)]
  | .normal, .ret, h => by cases h
  | .normal, .ex _, h => by cases h
  | .ret, .normal, h => by cases h
  | .ret, .ex _, h => by cases h
  | .ex _, .normal, h => by cases h
  | .ex _, .ret, h => by cases h

theorem outsMatch_sel : ∀ {l : List (EX × Patt)} {e : EX} {S : St} {y : Outs l}, outsMatch l e S = some y → (outSel l y).1 = e ∧ ∃ m, (outSel l y).2.1.mtch S = some ((outSel l y).2.2, m)
  | [], _, _, y, _ => nomatch y
  | [(e, p)], e', S, y, h => by
    have h' : (bif e.beq e' then match p.mtch S with
      | some (x, _) => some x
      | none => none else none) = some y := h
    cases hb : e.beq e' with
    | false => rw [hb] at h'; cases h'
    | true =>
      rw [hb] at h'
      simp only [cond] at h'
      split at h'
      · rename_i x m hm
        injection h' with h'; subst h'
        exact ⟨EX.beq_eq hb, m, hm⟩
      · cases h'
  | (e, p) :: q :: l, e', S, y, h => by
    have h' : (bif e.beq e' then match p.mtch S with
      | some (x, _) => some (.inl x)
      | none => none
    else match outsMatch (q :: l) e' S with
      | some y => some (.inr y)
      | none => none) = some y := h
    cases hb : e.beq e' with
    | true =>
      rw [hb] at h'
      simp only [cond] at h'
      split at h'
      · rename_i x m hm
        injection h' with h'; subst h'
        exact ⟨EX.beq_eq hb, m, hm⟩
      · cases h'
    | false =>
      rw [hb] at h'
      simp only [cond] at h'
      split at h'
      · rename_i y' hy
        injection h' with h'; subst h'
        exact outsMatch_sel (l := q :: l) hy
      · cases h'

theorem EX.of_exit : ∀ {e : Exit} {x : EX}, EX.of e = some x → x.exit = e
  | .normal, x, h => by injection h with h; subst h; rfl
  | .exit id, x, h => by injection h with h; subst h; rfl
  | .ret, x, h => by injection h with h; subst h; rfl
  | .goto _, _, h => by cases h
  | .panic _, _, h => by cases h
  | .outgrown, _, h => by cases h

/-- A way out, as a pattern tells it. -/
def OutS (C : Ctx) (outs : List (EX × Patt)) (y : Outs outs) (w : World) (E : Bs) (a : Act) (F : Bs) (e : Exit) : Prop :=
  e = (outSel outs y).1.exit ∧ PS C (outSel outs y).2.1 (outSel outs y).2.2 w E a F

/-- A loop does what is told of it. -/
def LCs {R : Type} (P : Program) (C : Ctx) (c : Code) (lc : LC R) : Prop :=
  ∀ (x : lc.inn.den) (Ke : Outs lc.outs → Option R) (r : R), lc.run x Ke = some r → ∀ (w : World) (E : Bs) (a : Act) (F : Bs), PS C lc.inn x w E a F → ∀ Q : Exit → Act → World → Prop,
    (∀ y w' a' F' e, Ke y = some r → OutS C lc.outs y w' E a' F' e → Step (Wr C (dsts c)) w E F a w' F' a' → Q e a' w') → (Code.loop c).wp P Q a w

def Lok {R : Type} (P : Program) (C : Ctx) (L : List (LC R)) (c : Code) (n : Nat) : Prop := ∀ i c' lc, nthLoop c i = some c' → findL (n + i) L = some lc → LCs P C c' lc

theorem nthLoop_lt : ∀ {c c' : Code} {i : Nat}, nthLoop c i = some c' → i < loops c
  | .seq a b, c', i, h => by
    have h' : (bif Nat.blt i (loops a) then nthLoop a i else nthLoop b (i - loops a)) = some c' := h
    show i < loops a + loops b
    cases hb : Nat.blt i (loops a) with
    | true => have : i < loops a := by simpa [Nat.blt_eq] using hb
              omega
    | false =>
      rw [hb] at h'
      have := nthLoop_lt (c := b) h'
      have : ¬ i < loops a := by intro h; rw [show Nat.blt i (loops a) = true from by simpa [Nat.blt_eq] using h] at hb; cases hb
      omega
  | .cond x a b, c', i, h => by
    have h' : (bif Nat.blt i (loops a) then nthLoop a i else nthLoop b (i - loops a)) = some c' := h
    show i < loops a + loops b
    cases hb : Nat.blt i (loops a) with
    | true => have : i < loops a := by simpa [Nat.blt_eq] using hb
              omega
    | false =>
      rw [hb] at h'
      have := nthLoop_lt (c := b) h'
      have : ¬ i < loops a := by intro h; rw [show Nat.blt i (loops a) = true from by simpa [Nat.blt_eq] using h] at hb; cases hb
      omega
  | .block _ c, c', i, h => nthLoop_lt (c := c) h
  | .scope c, c', i, h => nthLoop_lt (c := c) h
  | .loop c, c', 0, h => by show 0 < loops c + 1; omega
  | .loop c, c', i + 1, h => by
    have := nthLoop_lt (c := c) (i := i) h
    show i + 1 < loops c + 1
    omega
  | .skip, _, _, h => by cases h
  | .region .., _, _, h => by cases h
  | .exit _, _, _, h => by cases h
  | .ret, _, _, h => by cases h
  | .goto _, _, _, h => by cases h
  | .label _, _, _, h => by cases h
  | .rangeFunc .., _, _, h => by cases h

theorem refsRoot_eq (k : Nat) (v : V) : refsRoot k v = (refOf v).any fun r => Nat.beq r.root k := by
  cases v <;> simp [refsRoot, refOf]
theorem refsAny_eq (k : Nat) : ∀ l : List V, refsAny k l = (l.flatMap refOf).any fun r => Nat.beq r.root k
  | [] => rfl
  | v :: l => by simp only [refsAny, List.flatMap_cons, List.any_append, refsRoot_eq, refsAny_eq k l]
theorem refsA_eq (k : Nat) (v : V) : refsA k v = (refsOfA v).any fun r => Nat.beq r.root k := by
  cases v with
  | agg fs => exact refsAny_eq k fs
  | fn f fs => exact refsAny_eq k fs
  | _ => simp [refsA, refsOfA, refsRoot_eq]
theorem refsT_eq (k : Nat) : ∀ l : List V, refsT k l = (l.flatMap refsOfA).any fun r => Nat.beq r.root k
  | [] => rfl
  | v :: l => by simp only [refsT, List.flatMap_cons, List.any_append, refsA_eq, refsT_eq k l]
theorem refs_eq (k : Nat) (v : V) : refs k v = (refsOf v).any fun r => Nat.beq r.root k := by
  cases v with
  | tup fs => exact refsT_eq k fs
  | _ => simp only [refs, refsOf, refsA_eq]

theorem refsM_out {v : V} : ∀ {m : RMap}, refsM v m = false → ∀ r ∈ refsOf v, r.root ∉ mRoots m
  | [], _, _, _ => by intro h; cases h
  | (_, none) :: m, h, r, hr => refsM_out (m := m) h r hr
  | (_, some k) :: m, h, r, hr => by
    have h' : (refs k v || refsM v m) = false := h
    rw [Bool.or_eq_false_iff, refs_eq, List.any_eq_false] at h'
    intro hm
    rcases List.mem_cons.1 (show r.root ∈ k :: mRoots m from hm) with e | hm
    · exact h'.1 r hr (by rw [e]; exact Nat.beq_refl _)
    · exact refsM_out h'.2 r hr hm

theorem inM_iff {q : Nat} : ∀ {m : RMap}, inM q m = true ↔ q ∈ mRoots m
  | [] => ⟨fun h => (by cases h), fun h => (by cases h)⟩
  | (_, none) :: m => inM_iff (m := m)
  | (_, some k) :: m => by
    show (bif Nat.beq k q then true else inM q m) = true ↔ q ∈ k :: mRoots m
    cases e : Nat.beq k q with
    | true => have := Nat.eq_of_beq_eq_true e; subst this; simp
    | false =>
      have hne : q ≠ k := fun h => by subst h; rw [Nat.beq_refl] at e; cases e
      simp only [cond, List.mem_cons]
      rw [inM_iff (m := m)]
      exact ⟨.inr, fun h => h.resolve_left hne⟩

theorem get_frameR {q : Nat} {m : RMap} : ∀ (obs : List (Nat × Ob)), get q (frameR m obs) = if q ∈ mRoots m then none else get q obs
  | [] => by simp [frameR, get]
  | (j, o) :: l => by
    unfold frameR
    cases hj : inM j m with
    | true =>
      simp only [cond]
      rw [get_frameR l]
      by_cases e : j = q
      · subst e; rw [if_pos (inM_iff.1 hj), if_pos (inM_iff.1 hj)]
      · have : Nat.beq j q = false := by cases h : Nat.beq j q with | true => exact absurd (Nat.eq_of_beq_eq_true h) e | false => rfl
        show _ = if q ∈ mRoots m then none else (bif Nat.beq j q then some o else get q l)
        rw [this]
        rfl
    | false =>
      show (bif Nat.beq j q then some o else get q (frameR m l)) = if q ∈ mRoots m then none else (bif Nat.beq j q then some o else get q l)
      cases e : Nat.beq j q with
      | true =>
        have := Nat.eq_of_beq_eq_true e
        subst this
        rw [if_neg fun h => by rw [inM_iff.2 h] at hj; cases hj]
        rfl
      | false => exact get_frameR l

theorem get_frameS {t : Nat} {ds : List Nat} {m : RMap} {v : V} : ∀ {tm : List (Nat × V)}, get t (frameS ds m tm) = some v → t ∉ ds ∧ ∃ v0, get t tm = some v0 ∧ (v = .undef ∨ (v = v0 ∧ refsM v0 m = false))
  | [], h => by cases h
  | (j, u) :: l, h => by
    have h' : get t (bif mem j ds then frameS ds m l else (j, bif refsM u m then .undef else u) :: frameS ds m l) = some v := h
    cases hj : mem j ds with
    | true =>
      rw [hj] at h'
      obtain ⟨h1, v0, h2, h3⟩ := get_frameS (tm := l) h'
      refine ⟨h1, v0, ?_, h3⟩
      have hne : j ≠ t := fun e => h1 (e ▸ (mem_iff ds).1 hj)
      unfold get
      cases e : Nat.beq j t with
      | true => exact absurd (Nat.eq_of_beq_eq_true e) hne
      | false => exact h2
    | false =>
      rw [hj] at h'
      have h2 : (bif Nat.beq j t then some (bif refsM u m then V.undef else u) else get t (frameS ds m l)) = some v := h'
      cases e : Nat.beq j t with
      | true =>
        rw [e] at h2
        injection h2 with h2
        have := Nat.eq_of_beq_eq_true e
        subst this
        refine ⟨fun hm => (by rw [(mem_iff ds).2 hm] at hj; cases hj), u, by simp [get], ?_⟩
        cases hr : refsM u m with
        | true => rw [hr] at h2; exact .inl h2.symm
        | false => rw [hr] at h2; exact .inr ⟨h2.symm, rfl⟩
      | false =>
        rw [e] at h2
        obtain ⟨h1, v0, h3, h4⟩ := get_frameS (tm := l) h2
        exact ⟨h1, v0, by unfold get; rw [e]; exact h3, h4⟩

theorem get_append {α : Type} (t : Nat) : ∀ (l l' : List (Nat × α)), get t (l ++ l') = match get t l with | some v => some v | none => get t l'
  | [], _ => rfl
  | (j, v) :: l, l' => by
    show (bif Nat.beq j t then some v else get t (l ++ l')) = match (bif Nat.beq j t then some v else get t l) with | some v => some v | none => get t l'
    cases Nat.beq j t with
    | true => rfl
    | false => exact get_append t l l'

theorem refs_toV {τ : Ty} (x : τ.den) : refsOf (τ.toV x) = [] := by
  have hl : ∀ (τ : Ty) (x : τ.den), (τ.leaves x).flatMap refOf = [] := by
    intro τ
    induction τ with
    | pair a b iha ihb =>
      intro x
      show (a.leaves x.1 ++ b.leaves x.2).flatMap refOf = []
      rw [List.flatMap_append, iha, ihb]; rfl
    | _ => intro x; rfl
  cases τ with
  | pair a b => exact hl (.pair a b) x
  | _ => rfl

theorem buildS_refs {rs : List RP} {ys : RPs rs} {base t : Nat} {v : V} : ∀ {l : List (Nat × SP)} {xs : SPs l}, okS rs.length l = true → get t (buildS rs ys base l xs) = some v → ∀ r ∈ refsOf v, base ≤ r.root ∧ r.root < base + rs.length
  | [], _, _, h, _, _ => by cases h
  | (t0, .val τ) :: l, xs, hok, h, r, hr => by
    have h' : (bif Nat.beq t0 t then some (τ.toV xs.1) else get t (buildS rs ys base l xs.2)) = some v := h
    cases e : Nat.beq t0 t with
    | true =>
      rw [e] at h'
      injection h' with h'; subst h'
      rw [refs_toV] at hr; cases hr
    | false => rw [e] at h'; exact buildS_refs (l := l) (show okS rs.length l = true from hok) h' r hr
  | (t0, .ptr i) :: l, xs, hok, h, r, hr => by
    have hok' : (Nat.blt i rs.length && okS rs.length l) = true := hok
    rw [Bool.and_eq_true] at hok'
    have h' : (bif Nat.beq t0 t then some (V.hp ⟨base + i, []⟩ 0 0) else get t (buildS rs ys base l xs)) = some v := h
    cases e : Nat.beq t0 t with
    | true =>
      rw [e] at h'
      injection h' with h'; subst h'
      simp [refsOf, refsOfA, refOf] at hr
      subst hr
      have : i < rs.length := by simpa [Nat.blt_eq] using hok'.1
      exact ⟨Nat.le_add_right _ _, Nat.add_lt_add_left this _⟩
    | false => rw [e] at h'; exact buildS_refs (l := l) hok'.2 h' r hr
  | (t0, .arr i) :: l, xs, hok, h, r, hr => by
    have hok' : (Nat.blt i rs.length && okS rs.length l) = true := hok
    rw [Bool.and_eq_true] at hok'
    have h' : (bif Nat.beq t0 t then some (V.hs ⟨base + i, []⟩ 0 (rootLen rs ys i) true) else get t (buildS rs ys base l xs)) = some v := h
    cases e : Nat.beq t0 t with
    | true =>
      rw [e] at h'
      injection h' with h'; subst h'
      simp [refsOf, refsOfA, refOf] at hr
      subst hr
      have : i < rs.length := by simpa [Nat.blt_eq] using hok'.1
      exact ⟨Nat.le_add_right _ _, Nat.add_lt_add_left this _⟩
    | false => rw [e] at h'; exact buildS_refs (l := l) hok'.2 h' r hr

theorem wr_left {C : Ctx} {l l' : List Nat} (t : Nat) (h : Wr C l t) : Wr C (l ++ l') t := ⟨List.mem_append.2 (.inl h.1), h.2⟩
theorem wr_right {C : Ctx} {l l' : List Nat} (t : Nat) (h : Wr C l' t) : Wr C (l ++ l') t := ⟨List.mem_append.2 (.inr h.1), h.2⟩

theorem PS.sr {C : Ctx} {p : Patt} {x : p.den} {w : World} {E : Bs} {a : Act} {F : Bs} (h : PS C p x w E a F) (base : Nat) : ∃ β Gk, SR C w E β (p.build base x) a F Gk := by
  obtain ⟨β, Gk, hf⟩ := h.2 base
  refine ⟨β, Gk, hf, fun q hq => ?_, fun t v hv r hr => (buildS_refs h.1 hv r hr).2⟩
  have hq' : get q (buildR base p.roots x.2) ≠ none := hq
  rw [get_buildR] at hq'
  split at hq'
  · rename_i hle
    cases hr : rootAt p.roots x.2 (q - base) with
    | none => rw [hr] at hq'; exact absurd rfl hq'
    | some o =>
      have := rootAt_lt hr
      show q < base + p.roots.length
      omega
  · exact absurd rfl hq'

section
variable {P : Program} {C : Ctx} {k : Nat}

/-- Behind a loop: what the pattern tells, and what was beside it. -/
theorem join_ok {S : St} {w w' : World} {E F F' F1 : Bs} {β : Nat → Option (Nat × Nat)} {Gk : Nat → Bs} {a a' : Act} {m : RMap} {ds : List Nat} {p : Patt} {x : p.den}
    (h : SR C w E β S a F Gk) (hF1 : ∀ b, F1 b → F b) (hstep : Step (Wr C ds) w (Ein E S.ob Gk m) F1 a w' F' a') (hp : PS C p x w' (Ein E S.ob Gk m) a' F') :
    ∃ β' Gk', SR C w' E β' ⟨(p.build S.nx x).tm ++ frameS ds m S.tm, (p.build S.nx x).ob ++ frameR m S.ob, (p.build S.nx x).nx⟩ a' F' Gk' := by
  obtain ⟨β1, Gk1, hs1⟩ := hp.sr S.nx
  have hlow : ∀ q, q < S.nx → get q (buildR S.nx p.roots x.2) = none := fun q hq => by rw [get_buildR, if_neg (by omega)]
  have hob : ∀ q, get q ((p.build S.nx x).ob ++ frameR m S.ob) = if S.nx ≤ q then get q (buildR S.nx p.roots x.2) else (if q ∈ mRoots m then none else get q S.ob) := by
    intro q
    rw [get_append, show (p.build S.nx x).ob = buildR S.nx p.roots x.2 from rfl, get_frameR]
    by_cases e : S.nx ≤ q
    · rw [if_pos e]
      have hn : get q S.ob = none := by
        cases hg : get q S.ob with
        | none => rfl
        | some o => have := h.kl q (by rw [hg]; exact fun e => by cases e); omega
      rw [hn]
      cases get q (buildR S.nx p.roots x.2) with
      | some o => rfl
      | none => simp
    · rw [if_neg e, hlow q (by omega)]
  let β2 : Nat → Option (Nat × Nat) := fun q => if S.nx ≤ q then β1 q else β q
  let Gk2 : Nat → Bs := fun q => if S.nx ≤ q then Gk1 q else Gk q
  have hst0 : ∀ G : Bs, (∀ b, G b → Ein E S.ob Gk m b) → Stay w F w' F' G := fun G hG => ⟨hstep.stay.size, fun b hb => hstep.keepE b (hG b hb), fun b hb hlt => hstep.stay.out b (fun h' => hb (hF1 b h')) hlt, fun b hb => (hstep.stay.less b hb).imp (hF1 b) id⟩
  have hEin : ∀ q o, get q S.ob = some o → q ∉ mRoots m → ∀ b, Gk q b → Ein E S.ob Gk m b := fun q o hq hn b hb => .inr ⟨q, o, hq, hn, hb⟩
  have old : ∀ q o, ¬ S.nx ≤ q → get q ((p.build S.nx x).ob ++ frameR m S.ob) = some o → q ∉ mRoots m ∧ get q S.ob = some o := by
    intro q o hq hg
    rw [hob, if_neg hq] at hg
    split at hg
    · cases hg
    · exact ⟨‹_›, hg⟩
  have new : ∀ q o, S.nx ≤ q → get q ((p.build S.nx x).ob ++ frameR m S.ob) = some o → get q (p.build S.nx x).ob = some o := by
    intro q o hq hg
    rw [hob, if_pos hq] at hg
    exact hg
  refine ⟨β2, Gk2, ⟨fun t v hv => ?_, ⟨fun q o hq => ?_, fun q q' o o' hq hq' hne => ?_, fun b => ?_, fun q o hq => ?_, fun b hb => Nat.lt_of_lt_of_le (h.fr.ob.elt b hb) hstep.stay.size⟩, hs1.fr.nt⟩, fun q hq => ?_, fun t v hv r hr => ?_⟩
  · have hv' : get t ((p.build S.nx x).tm ++ frameS ds m S.tm) = some v := hv
    rw [get_append] at hv'
    cases hg : get t (p.build S.nx x).tm with
    | some y =>
      rw [hg] at hv'
      injection hv' with hv'; subst hv'
      obtain ⟨u, hu, hvr⟩ := hs1.fr.tm t y hg
      refine ⟨u, hu, hvr.keep (Stay.refl w' F' _) fun r hr => ?_⟩
      have hr' := (buildS_refs hp.1 hg r hr).1
      intro o' loc hl
      refine ⟨o', ?_, Ob.like.refl o', fun _ _ _ row hr => ⟨row, hr, rfl⟩⟩
      unfold atLoc at hl ⊢
      rw [show get r.root ((p.build S.nx x).ob ++ frameR m S.ob) = get r.root (p.build S.nx x).ob from by rw [hob, if_pos hr']; rfl] at hl
      have e : β2 r.root = β1 r.root := if_pos hr'
      rw [e] at hl
      exact hl
    | none =>
      rw [hg] at hv'
      obtain ⟨ht, v0, hg0, hv0⟩ := get_frameS (show get t (frameS ds m S.tm) = some v from hv')
      obtain ⟨u, hu, hvr⟩ := h.fr.tm t v0 hg0
      refine ⟨u, by rw [hstep.same t fun hw => ht hw.1]; exact hu, ?_⟩
      rcases hv0 with e | ⟨e, hm⟩
      · subst e; exact VR.undef
      · subst e
        refine hvr.keep (hst0 _ fun _ h => h.elim) fun r hr => ?_
        have hrl := h.rl t v hg0 r hr
        have hrm := refsM_out hm r hr
        refine RefKeep.of_stay (FA' := F') h.fr.ob.a (if_neg (by omega)) ?_ fun o ho => hst0 _ (hEin _ o ho hrm)
        rw [hob, if_neg (by omega), if_neg hrm]
  · by_cases e : S.nx ≤ q
    · show ObR w' F' o (β2 q) (Gk2 q)
      rw [show β2 q = β1 q from if_pos e, show Gk2 q = Gk1 q from if_pos e]
      exact hs1.fr.ob.rel q o (new q o e hq)
    · obtain ⟨h1, h2⟩ := old q o e hq
      show ObR w' F' o (β2 q) (Gk2 q)
      rw [show β2 q = β q from if_neg e, show Gk2 q = Gk q from if_neg e]
      exact (h.fr.ob.rel q o h2).keep (hst0 _ (hEin q o h2 h1))
  · show Dj (Gk2 q) (Gk2 q')
    by_cases e : S.nx ≤ q <;> by_cases e' : S.nx ≤ q'
    · rw [show Gk2 q = Gk1 q from if_pos e, show Gk2 q' = Gk1 q' from if_pos e']
      exact hs1.fr.ob.dj q q' o o' (new q o e hq) (new q' o' e' hq') hne
    · obtain ⟨h1, h2⟩ := old q' o' e' hq'
      rw [show Gk2 q = Gk1 q from if_pos e, show Gk2 q' = Gk q' from if_neg e']
      exact fun b hb hb' => hs1.fr.ob.out q o (new q o e hq) b hb (hEin q' o' h2 h1 b hb')
    · obtain ⟨h1, h2⟩ := old q o e hq
      rw [show Gk2 q = Gk q from if_neg e, show Gk2 q' = Gk1 q' from if_pos e']
      exact fun b hb hb' => hs1.fr.ob.out q' o' (new q' o' e' hq') b hb' (hEin q o h2 h1 b hb)
    · rw [show Gk2 q = Gk q from if_neg e, show Gk2 q' = Gk q' from if_neg e']
      exact h.fr.ob.dj q q' o o' (old q o e hq).2 (old q' o' e' hq').2 hne
  · rw [hs1.fr.ob.cov b]
    constructor
    · rintro ((hb | ⟨q, o, hq, hn, hb⟩) | ⟨q, o, hq, hb⟩)
      · exact .inl hb
      · have hlt : ¬ S.nx ≤ q := by have := h.kl q (by rw [hq]; exact fun e => by cases e); omega
        refine .inr ⟨q, o, ?_, ?_⟩
        · show get q ((p.build S.nx x).ob ++ frameR m S.ob) = _
          rw [hob, if_neg hlt, if_neg hn]; exact hq
        · show Gk2 q b; rw [show Gk2 q = Gk q from if_neg hlt]; exact hb
      · have hq' : get q (buildR S.nx p.roots x.2) = some o := hq
        have hge : S.nx ≤ q := Classical.byContradiction fun hn => by rw [hlow q (by omega)] at hq'; cases hq'
        refine .inr ⟨q, o, ?_, ?_⟩
        · show get q ((p.build S.nx x).ob ++ frameR m S.ob) = _
          rw [hob, if_pos hge]; exact hq'
        · show Gk2 q b; rw [show Gk2 q = Gk1 q from if_pos hge]; exact hb
    · rintro (hb | ⟨q, o, hq, hb⟩)
      · exact .inl (.inl hb)
      · have hb' : Gk2 q b := hb
        by_cases e : S.nx ≤ q
        · rw [show Gk2 q = Gk1 q from if_pos e] at hb'
          exact .inr ⟨q, o, new q o e hq, hb'⟩
        · obtain ⟨h1, h2⟩ := old q o e hq
          rw [show Gk2 q = Gk q from if_neg e] at hb'
          exact .inl (hEin q o h2 h1 b hb')
  · show Dj (Gk2 q) E
    by_cases e : S.nx ≤ q
    · rw [show Gk2 q = Gk1 q from if_pos e]
      exact fun b hb hE => hs1.fr.ob.out q o (new q o e hq) b hb (.inl hE)
    · rw [show Gk2 q = Gk q from if_neg e]
      exact h.fr.ob.out q o (old q o e hq).2
  · show q < S.nx + p.roots.length
    by_cases e : S.nx ≤ q
    · cases hg : get q ((p.build S.nx x).ob ++ frameR m S.ob) with
      | none => exact absurd hg hq
      | some o => exact hs1.kl q (by rw [new q o e hg]; exact fun e => by cases e)
    · omega
  · show r.root < S.nx + p.roots.length
    have hv' : get t ((p.build S.nx x).tm ++ frameS ds m S.tm) = some v := hv
    rw [get_append] at hv'
    cases hg : get t (p.build S.nx x).tm with
    | some y =>
      rw [hg] at hv'
      injection hv' with hv'; subst hv'
      exact (buildS_refs hp.1 hg r hr).2
    | none =>
      rw [hg] at hv'
      obtain ⟨ht, v0, hg0, hv0⟩ := get_frameS (show get t (frameS ds m S.tm) = some v from hv')
      rcases hv0 with e | ⟨e, hm⟩
      · subst e; cases hr
      · subst e
        have := h.rl t v hg0 r hr
        omega

/-- Code does what the evaluator says. -/
theorem ev_sound {R : Type} (hmix : P.follows .mixedOrders = true) (hT : TisOk P C) (hE : EnvOk P C) {L : List (LC R)} : ∀ (c : Code) (n : Nat) {S : St} {K : Exit → St → Option R} {r : R}, Lok P C L c n → ev C k L c n S K = some r →
    ∀ {w : World} {E : Bs} {β : Nat → Option (Nat × Nat)} {a : Act} {F : Bs} {Gk : Nat → Bs}, SR C w E β S a F Gk → ∀ Q : Exit → Act → World → Prop,
    (∀ e S' w' β' F' Gk' a', K e S' = some r → SR C w' E β' S' a' F' Gk' → Step (Wr C (dsts c)) w E F a w' F' a' → Q e a' w') → c.wp P Q a w
  | .skip, n, S, K, r, hL, h, w, E, β, a, F, Gk, hs, Q, hQ => wp_skip (hQ .normal S w β F Gk a h hs Step.refl)
  | .exit id, n, S, K, r, hL, h, w, E, β, a, F, Gk, hs, Q, hQ => wp_exit (hQ (.exit id) S w β F Gk a h hs Step.refl)
  | .ret, n, S, K, r, hL, h, w, E, β, a, F, Gk, hs, Q, hQ => wp_ret (hQ .ret S w β F Gk a h hs Step.refl)
  | .region id ops false, n, S, K, r, hL, h, w, E, β, a, F, Gk, hs, Q, hQ => by
    have h' : regionK C k ops false [] S.nx ops.toList 0 [] S.tm S.ob (fun S' => K .normal S') = some r := h
    exact wp_region_list (region_seq hT hE ops.toList 0 (by simp) h' hs.fr (by simpa using hs.kl) (by simpa using hs.rl) Q fun S' w' β' F' Gk' a' hK hS hst => hQ .normal S' w' β' F' Gk' a' hK hS hst)
  | .region id ops true, n, S, K, r, hL, h, w, E, β, a, F, Gk, hs, Q, hQ => by
    have h' : (bif slotsOk ops (masksOf ops) then regionK C k ops true (masksOf ops) S.nx ops.toList 0 [] S.tm S.ob (fun S' => K .normal S') else none) = some r := h
    cases hsl : slotsOk ops (masksOf ops) with
    | false => rw [hsl] at h'; cases h'
    | true =>
      rw [hsl] at h'
      exact region_any hmix hT hE hsl h' hs.fr hs.kl hs.rl fun S' w' β' F' Gk' a' hK hS hst => hQ .normal S' w' β' F' Gk' a' hK hS hst
  | .seq x y, n, S, K, r, hL, h, w, E, β, a, F, Gk, hs, Q, hQ => by
    have h' : ev C k L x n S (fun
      | .normal, S' => ev C k L y (n + loops x) S' K
      | e, S' => K e S') = some r := h
    have hLx : Lok P C L x n := fun i c' lc hi hf => hL i c' lc (by
      show (bif Nat.blt i (loops x) then nthLoop x i else nthLoop y (i - loops x)) = some c'
      rw [show Nat.blt i (loops x) = true from by simpa [Nat.blt_eq] using nthLoop_lt hi]; exact hi) hf
    have hLy : Lok P C L y (n + loops x) := fun i c' lc hi hf => hL (loops x + i) c' lc (by
      show (bif Nat.blt (loops x + i) (loops x) then nthLoop x (loops x + i) else nthLoop y (loops x + i - loops x)) = some c'
      rw [show Nat.blt (loops x + i) (loops x) = false from by
        cases hb : Nat.blt (loops x + i) (loops x) with
        | false => rfl
        | true => have : loops x + i < loops x := by simpa [Nat.blt_eq] using hb
                  omega, Nat.add_sub_cancel_left]; exact hi) (by rw [← Nat.add_assoc]; exact hf)
    refine wp_seq (ev_sound hmix hT hE x n hLx h' hs _ fun e S' w' β' F' Gk' a' hK hS hst => ?_)
    cases e with
    | normal =>
      have hK' : ev C k L y (n + loops x) S' K = some r := hK
      exact ev_sound hmix hT hE y (n + loops x) hLy hK' hS Q fun e S2 w2 β2 F2 Gk2 a2 hK2 hS2 hst2 => hQ e S2 w2 β2 F2 Gk2 a2 hK2 hS2 (hst.trans hst2 wr_left wr_right)
    | _ => exact hQ _ S' w' β' F' Gk' a' hK hS (hst.trans Step.refl wr_left (ds' := fun _ => False) fun _ h => h.elim)
  | .cond x c1 c2, n, S, K, r, hL, h, w, E, β, a, F, Gk, hs, Q, hQ => by
    have h' : (match opnd S.tm x with
      | .bool x => bif x then ev C k L c1 n S K else ev C k L c2 (n + loops c1) S K
      | _ => none) = some r := h
    have hL1 : Lok P C L c1 n := fun i c' lc hi hf => hL i c' lc (by
      show (bif Nat.blt i (loops c1) then nthLoop c1 i else nthLoop c2 (i - loops c1)) = some c'
      rw [show Nat.blt i (loops c1) = true from by simpa [Nat.blt_eq] using nthLoop_lt hi]; exact hi) hf
    have hL2 : Lok P C L c2 (n + loops c1) := fun i c' lc hi hf => hL (loops c1 + i) c' lc (by
      show (bif Nat.blt (loops c1 + i) (loops c1) then nthLoop c1 (loops c1 + i) else nthLoop c2 (loops c1 + i - loops c1)) = some c'
      rw [show Nat.blt (loops c1 + i) (loops c1) = false from by
        cases hb : Nat.blt (loops c1 + i) (loops c1) with
        | false => rfl
        | true => have : loops c1 + i < loops c1 := by simpa [Nat.blt_eq] using hb
                  omega, Nat.add_sub_cancel_left]; exact hi) (by rw [← Nat.add_assoc]; exact hf)
    split at h'
    · rename_i b hb
      have hx := opnd_rel hs.fr x
      rw [hb] at hx
      refine wp_cond (bool_of_VR hx) ?_
      cases b with
      | true => exact ev_sound hmix hT hE c1 n hL1 h' hs Q fun e S2 w2 β2 F2 Gk2 a2 hK2 hS2 hst2 => hQ e S2 w2 β2 F2 Gk2 a2 hK2 hS2 (hst2.trans Step.refl wr_left (ds' := fun _ => False) fun _ h => h.elim)
      | false => exact ev_sound hmix hT hE c2 _ hL2 h' hs Q fun e S2 w2 β2 F2 Gk2 a2 hK2 hS2 hst2 => hQ e S2 w2 β2 F2 Gk2 a2 hK2 hS2 (hst2.trans Step.refl wr_right (ds' := fun _ => False) fun _ h => h.elim)
    · cases h'
  | .block id c, n, S, K, r, hL, h, w, E, β, a, F, Gk, hs, Q, hQ => by
    have h' : ev C k L c n S (fun
      | .exit id', S' => bif Nat.beq id' id then K .normal S' else K (.exit id') S'
      | e, S' => K e S') = some r := h
    refine wp_block (ev_sound hmix hT hE c n (fun i c' lc hi hf => hL i c' lc hi hf) h' hs _ fun e S' w' β' F' Gk' a' hK hS hst => ?_)
    cases e with
    | exit id' =>
      have hK' : (bif Nat.beq id' id then K .normal S' else K (.exit id') S') = some r := hK
      show if id' = id then Q .normal a' w' else Q (.exit id') a' w'
      by_cases e : id' = id
      · rw [if_pos e]
        rw [show Nat.beq id' id = true from by rw [e]; exact Nat.beq_refl _] at hK'
        exact hQ .normal S' w' β' F' Gk' a' hK' hS hst
      · rw [if_neg e]
        rw [show Nat.beq id' id = false from by cases h : Nat.beq id' id with | true => exact absurd (Nat.eq_of_beq_eq_true h) e | false => rfl] at hK'
        exact hQ _ S' w' β' F' Gk' a' hK' hS hst
    | _ => exact hQ _ S' w' β' F' Gk' a' hK hS hst
  | .loop c, n, S, K, r, hL, h, w, E, β, a, F, Gk, hs, Q, hQ => by
    have h' : (match findL n L with
      | some lc => match lc.inn.mtch S with
        | some (x, m) => lc.run x fun y => match outsBuild lc.outs S.nx y with
          | (e, T) => K e.exit ⟨T.tm ++ frameS (dsts c) m S.tm, T.ob ++ frameR m S.ob, T.nx⟩
        | none => none
      | none => none) = some r := h
    split at h'
    · rename_i lc hlc
      split at h'
      · rename_i x m hm
        obtain ⟨F1, hF1, hps⟩ := mtch_ok hs.fr hm
        refine hL 0 c lc rfl hlc x _ r h' w _ a F1 hps Q fun y w' a' F' e hKe hout hst => ?_
        rw [outsBuild_sel] at hKe
        obtain ⟨β', Gk', hsr⟩ := join_ok hs hF1 hst hout.2
        have := hQ _ _ w' β' F' Gk' a' hKe hsr (hst.narrow (fun b hb => .inl hb) hF1)
        rw [hout.1]
        exact this
      · cases h'
    · cases h'
  | .scope c, n, S, K, r, hL, h, w, E, β, a, F, Gk, hs, Q, hQ => by cases h
  | .rangeFunc .., n, S, K, r, hL, h, w, E, β, a, F, Gk, hs, Q, hQ => by cases h
  | .goto _, n, S, K, r, hL, h, w, E, β, a, F, Gk, hs, Q, hQ => by cases h
  | .label _, n, S, K, r, hL, h, w, E, β, a, F, Gk, hs, Q, hQ => by cases h

/-- A loop, out of what one round is. -/
theorem loop_sound {R : Type} (hmix : P.follows .mixedOrders = true) (hT : TisOk P C) (hE : EnvOk P C) {L : List (LC R)} {inn : Patt} {outs : List (EX × Patt)} {c : Code} {n : Nat} (hL : Lok P C L c n)
    (f : Nat → inn.den → (Outs outs → Option R) → Option R) (h0 : ∀ x e, f 0 x e = none) (h1 : ∀ j x e, f (j + 1) x e = evRound C k L inn outs c n x (fun x => f j x e) e) (at_ j : Nat) : LCs P C c ⟨at_, inn, outs, f j⟩ := by
  intro x Ke r hr w E a F hps Q hQ
  refine wp_loop_rounds j ?_
  have main : ∀ (j : Nat) (x : inn.den) (w1 : World) (E1 : Bs) (a1 : Act) (F1 : Bs), f j x Ke = some r → PS C inn x w1 E1 a1 F1 → (∀ b, E b → E1 b) → Step (Wr C (dsts c)) w E F a w1 F1 a1 → Code.rounds P c Q j a1 w1 := by
    intro j
    induction j with
    | zero => intro x w1 E1 a1 F1 h _ _ _; rw [h0] at h; cases h
    | succ j ih =>
      intro x w1 E1 a1 F1 h hps hE1 hst
      rw [h1] at h
      obtain ⟨β, Gk, hs⟩ := hps.sr 0
      rw [rounds_succ]
      have h' : ev C k L c n (inn.build 0 x) (fun
        | .normal, S => match inn.mtch S with
          | some (x', _) => f j x' Ke
          | none => none
        | e, S => match EX.of e with
          | some e => match outsMatch outs e S with
            | some y => Ke y
            | none => none
          | none => none) = some r := h
      have way : ∀ e S' w' β' F' Gk' a', (match EX.of e with
          | some e => match outsMatch outs e S' with
            | some y => Ke y
            | none => none
          | none => none) = some r → SR C w' E1 β' S' a' F' Gk' → Step (Wr C (dsts c)) w1 E1 F1 a1 w' F' a' → Q e a' w' := by
        intro e S' w' β' F' Gk' a' hK hS hst2
        split at hK
        · rename_i ex hex
          split at hK
          · rename_i y hy
            obtain ⟨e1, m, hm⟩ := outsMatch_sel hy
            obtain ⟨F2, hF2, hps2⟩ := mtch_ok hS.fr hm
            obtain ⟨F3, hF3, hps3⟩ := hps2.forget (E := E) fun b hb => .inl (hE1 b hb)
            refine hQ y w' a' F3 e hK ⟨by rw [e1]; exact (EX.of_exit hex).symm, hps3⟩ ((hst.trans (hst2.narrow hE1 fun _ h => h) (fun _ h => h) fun _ h => h).less fun b hb => hF2 b (hF3 b hb))
          · cases hK
        · cases hK
      refine ev_sound hmix hT hE c n hL h' hs _ fun e S' w' β' F' Gk' a' hK hS hst2 => ?_
      cases e with
      | normal =>
        have hK' : (match inn.mtch S' with
          | some (x', _) => f j x' Ke
          | none => none) = some r := hK
        split at hK'
        · rename_i x' m hm
          obtain ⟨F2, hF2, hps2⟩ := mtch_ok hS.fr hm
          exact ih x' w' _ a' F2 hK' hps2 (fun b hb => .inl (hE1 b hb)) ((hst.trans (hst2.narrow hE1 fun _ h => h) (fun _ h => h) fun _ h => h).less hF2)
        · cases hK'
      | _ => exact way _ S' w' β' F' Gk' a' hK hS hst2
  exact main j x w E a F hr hps (fun _ h => h) Step.refl
end
end Go.Lf

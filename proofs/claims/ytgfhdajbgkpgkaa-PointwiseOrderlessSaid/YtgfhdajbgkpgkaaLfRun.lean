import Derived.Test.YtgfhdajbgkpgkaaLfOp
import Derived.Tactics
set_option linter.unusedVariables false
/-! Lf: regions in order. -/
namespace Go.Lf

/-- What a piece of code leaves alone. -/
structure Step (ds : Nat → Prop) (w : World) (E F : Bs) (a : Act) (w' : World) (F' : Bs) (a' : Act) : Prop where
  apart : Apart w w'
  stay : Stay w F w' F' (fun _ => False)
  keepE : ∀ b, E b → w'.heap[b]? = w.heap[b]?
  same : ∀ t, ¬ ds t → a'.tmps[t]? = a.tmps[t]?
  defers : a'.defers = a.defers

theorem Stay.trans {w w' w'' : World} {F F' F'' : Bs} (h : Stay w F w' F' (fun _ => False)) (k : Stay w' F' w'' F'' (fun _ => False)) : Stay w F w'' F'' (fun _ => False) :=
  ⟨Nat.le_trans h.size k.size, fun _ h => h.elim,
    fun b hb hs => (k.out b (fun hb' => (h.less b hb').elim hb fun h' => absurd hs (Nat.not_lt.2 h')) (Nat.lt_of_lt_of_le hs h.size)).trans (h.out b hb hs),
    fun b hb => (k.less b hb).elim (h.less b) fun h' => .inr (Nat.le_trans h.size h')⟩

theorem Step.refl {ds : Nat → Prop} {w : World} {E F : Bs} {a : Act} : Step ds w E F a w F a := ⟨Apart.refl w, Stay.refl w F _, fun _ _ => rfl, fun _ _ => rfl, rfl⟩

theorem Step.trans {ds ds' ds'' : Nat → Prop} {w w' w'' : World} {E F F' F'' : Bs} {a a' a'' : Act} (h : Step ds w E F a w' F' a') (k : Step ds' w' E F' a' w'' F'' a'') (h1 : ∀ t, ds t → ds'' t) (h2 : ∀ t, ds' t → ds'' t) : Step ds'' w E F a w'' F'' a'' :=
  ⟨h.apart.trans k.apart, h.stay.trans k.stay, fun b hb => (k.keepE b hb).trans (h.keepE b hb), fun t ht => (k.same t fun h => ht (h2 t h)).trans (h.same t fun h => ht (h1 t h)), k.defers.trans h.defers⟩

/-- A whole state. -/
structure SR (C : Ctx) (w : World) (E : Bs) (β : Nat → Option (Nat × Nat)) (S : St) (a : Act) (F : Bs) (Gk : Nat → Bs) : Prop where
  fr : FR C w E β S.tm S.ob a F Gk
  kl : ∀ q, get q S.ob ≠ none → q < S.nx
  rl : ∀ t v, get t S.tm = some v → ∀ r ∈ refsOf v, r.root < S.nx

theorem leads_eq (iv : List (Ref × Bool)) (v : V) : leads iv v = (refOf v).any fun r => overAny r iv := by
  cases v <;> simp [leads, refOf]

theorem leadsAny_eq (iv : List (Ref × Bool)) : ∀ l : List V, leadsAny iv l = (l.flatMap refOf).any fun r => overAny r iv
  | [] => rfl
  | v :: l => by simp only [leadsAny, List.flatMap_cons, List.any_append, leads_eq, leadsAny_eq iv l]

theorem leadsA_eq (iv : List (Ref × Bool)) (v : V) : leadsA iv v = (refsOfA v).any fun r => overAny r iv := by
  cases v with
  | agg fs => exact leadsAny_eq iv fs
  | fn f fs => exact leadsAny_eq iv fs
  | _ => simp [leadsA, refsOfA, leads_eq]

theorem leadsT_eq (iv : List (Ref × Bool)) : ∀ l : List V, leadsT iv l = (l.flatMap refsOfA).any fun r => overAny r iv
  | [] => rfl
  | v :: l => by simp only [leadsT, List.flatMap_cons, List.any_append, leadsA_eq, leadsT_eq iv l]

theorem leadsV_eq (iv : List (Ref × Bool)) (v : V) : leadsV iv v = (refsOf v).any fun r => overAny r iv := by
  cases v with
  | tup fs => exact leadsT_eq iv fs
  | _ => simp only [leadsV, refsOf, leadsA_eq]

theorem dropV_nil (v : V) : dropV [] v = v := by
  unfold dropV
  rw [leadsV_eq]
  have : ((refsOf v).any fun r => overAny r []) = false := by
    rw [List.any_eq_false]; intro r _; simp [overAny]
  rw [this]; rfl

theorem get_dropIv (t : Nat) (iv : List (Ref × Bool)) (tm : List (Nat × V)) : get t (dropIv iv tm) = (get t tm).map (dropV iv) := by
  have go : ∀ l : List (Nat × V), get t (dropOver iv l) = (get t l).map (dropV iv) := by
    intro l
    induction l with
    | nil => rfl
    | cons p l ih =>
      obtain ⟨j, v⟩ := p
      unfold dropOver get
      cases Nat.beq j t with
      | true => rfl
      | false => exact ih
  cases iv with
  | nil =>
    show get t tm = _
    have : (dropV [] : V → V) = id := funext dropV_nil
    rw [this]; simp
  | cons p l => exact go tm

theorem get_putDst (t : Nat) (dst : Option Nat) (v : V) (tm : List (Nat × V)) : get t (putDst dst v tm) = if dst = some t then some v else get t tm := by
  cases dst with
  | none => simp [putDst]
  | some d =>
    by_cases e : d = t
    · subst e; simp [putDst, get_put]
    · simp [putDst, get_put_ne _ e, e]

theorem get_keepOnly {t : Nat} {keep : List Nat} {v : V} : ∀ {tm : List (Nat × V)}, get t (keepOnly keep tm) = some v → get t tm = some v
  | [], h => h
  | (j, u) :: l, h => by
    unfold keepOnly at h
    unfold get
    cases hm : mem j keep with
    | true =>
      rw [hm] at h
      have h' : get t ((j, u) :: keepOnly keep l) = some v := h
      unfold get at h'
      cases e : Nat.beq j t with
      | true => rw [e] at h'; exact h'
      | false => rw [e] at h'; exact get_keepOnly h'
    | false =>
      rw [hm] at h
      have h' : get t (keepOnly keep l) = some v := h
      cases e : Nat.beq j t with
      | true =>
        exfalso
        have ej := Nat.eq_of_beq_eq_true e
        subst ej
        have : ∀ l : List (Nat × V), get j (keepOnly keep l) = none := by
          intro l
          induction l with
          | nil => rfl
          | cons p l ih =>
            obtain ⟨i, x⟩ := p
            unfold keepOnly
            cases hi : mem i keep with
            | false => exact ih
            | true =>
              show get j ((i, x) :: keepOnly keep l) = none
              unfold get
              cases e : Nat.beq i j with
              | true => have := Nat.eq_of_beq_eq_true e; subst this; rw [hm] at hi; cases hi
              | false => exact ih
        rw [this l] at h'; cases h'
      | false => exact get_keepOnly h'

theorem refs_ofValue (u : Value) : refsOf (ofValue u) = [] := by
  unfold ofValue
  split <;> rfl

theorem opnd_refs {tm : List (Nat × V)} {x : Operand} {r : Ref} (h : r ∈ refsOf (opnd tm x)) : ∃ t v, x = .tmp t ∧ get t tm = some v ∧ opnd tm x = v ∧ r ∈ refsOf v := by
  cases x with
  | tmp t =>
    have h' : r ∈ refsOf ((get t tm).getD .undef) := h
    cases hg : get t tm with
    | none => rw [hg] at h'; cases h'
    | some v => rw [hg] at h'; exact ⟨t, v, rfl, hg, by simp [opnd, hg], h'⟩
  | const u =>
    have h' : r ∈ refsOf (ofValue u) := h
    rw [refs_ofValue] at h'; cases h'
  | func f => cases h
  | global g => cases h

section
variable {P : Program} {C : Ctx} {k : Nat} {tm : List (Nat × V)} {obs : List (Nat × Ob)} {fresh : Nat} {o : Oper} {a : Act} {w : World} {E : Bs} {β : Nat → Option (Nat × Nat)} {F : Bs} {Gk : Nat → Bs}

theorem FR.le {tm' : List (Nat × V)} (h : FR C w E β tm obs a F Gk) (hle : ∀ t v, get t tm' = some v → get t tm = some v ∨ (v = .undef ∧ ∃ v', get t tm = some v')) : FR C w E β tm' obs a F Gk := by
  refine ⟨fun t v hv => ?_, h.ob, h.nt⟩
  rcases hle t v hv with h' | ⟨e, v', h'⟩
  · exact h.tm t v h'
  · obtain ⟨u, hu, _⟩ := h.tm t v' h'
    subst e
    exact ⟨u, hu, VR.undef⟩

theorem pinned_lt {dst : Option Nat} (h : pinned C dst = false) : ∀ d, dst = some d → d ∉ C.pin ∧ d < C.nt := by
  intro d e
  subst e
  have h' : (mem d C.pin || !Nat.blt d C.nt) = false := h
  rw [Bool.or_eq_false_iff] at h'
  refine ⟨fun hd => ?_, ?_⟩
  · rw [(mem_iff C.pin).2 hd] at h'; cases h'.1
  · have := h'.2
    simp only [Bool.not_eq_false'] at this
    simpa [Nat.blt_eq] using this

theorem put_tmps {dst : Option Nat} {u : Value} {t : Nat} : (a.put dst u).tmps[t]? = if dst = some t ∧ t < a.tmps.size then some u else a.tmps[t]? := by
  cases dst with
  | none => simp [Act.put]
  | some d =>
    simp only [Act.put, Array.getElem?_setIfInBounds]
    by_cases e : d = t
    · subst e
      by_cases hl : d < a.tmps.size
      · simp [hl]
      · simp [hl]
    · simp [e]

theorem put_size {dst : Option Nat} {u : Value} : (a.put dst u).tmps.size = a.tmps.size := by
  cases dst <;> simp [Act.put]

theorem put_defers {dst : Option Nat} {u : Value} : (a.put dst u).defers = a.defers := by
  cases dst <;> simp [Act.put]

/-- The state of a frame behind an operation. -/
theorem FR.step (hf : FR C w E β tm obs a F Gk) {dst : Option Nat} {v : V} {u : Value} {w' : World} {β' : Nat → Option (Nat × Nat)} {F' : Bs} {Gk' : Nat → Bs} {d : Delta} {iv : List (Ref × Bool)} (hp : pinned C dst = false)
    (hob : ObsR w' E F' β' (applyD d obs) Gk') (hv : VR w' β' (applyD d obs) F' v u) (hs : Stay w F w' F' (fun _ => False)) (hr : ∀ r, ¬ inR fresh r → overAny r iv = false → RefKeep w β obs w' β' (applyD d obs) r)
    (hlow : ∀ t v, get t tm = some v → ∀ r ∈ refsOf v, ¬ inR fresh r) : FR C w' E β' (putDst dst v (dropIv iv tm)) (applyD d obs) (a.put dst u) F' Gk' := by
  refine ⟨fun t x hx => ?_, hob, by rw [put_size, hf.nt]⟩
  rw [get_putDst] at hx
  split at hx
  · rename_i e
    injection hx with hx; subst hx
    refine ⟨u, ?_, hv⟩
    rw [put_tmps, if_pos ⟨e, by rw [hf.nt]; exact (pinned_lt hp t e).2⟩]
  · rename_i e
    rw [get_dropIv] at hx
    cases hg : get t tm with
    | none => rw [hg] at hx; cases hx
    | some y =>
      rw [hg] at hx
      injection hx with hx; subst hx
      obtain ⟨u', hu', hvr⟩ := hf.tm t y hg
      refine ⟨u', by rw [put_tmps, if_neg fun h => e h.1]; exact hu', ?_⟩
      unfold dropV
      cases hl : leadsV iv y with
      | true => exact VR.undef
      | false =>
        rw [leadsV_eq, List.any_eq_false] at hl
        exact VR.keep hvr hs fun r hrm => hr r (hlow t y hg r hrm) (by simpa using hl r hrm)

theorem keys_lt {d : Delta} {iv : List (Ref × Bool)} {n : Nat} (hk : Keys obs n d iv) (hl : ∀ q, get q obs ≠ none → q < n) : ∀ q, get q (applyD d obs) ≠ none → q < n + 4 := by
  intro q hq
  by_cases e : q ∈ keysOf d
  · rcases hk.1 q e with h | h
    · have := hl q h; omega
    · exact h.2
  · rw [get_applyD d obs e] at hq
    have := hl q hq; omega

theorem refs_lt {v : V} {rd : List Nat} {iv : List (Ref × Bool)} {n : Nat} (hs : Src tm n o rd v) (hl : ∀ t v, get t tm = some v → ∀ r ∈ refsOf v, r.root < n) : ∀ t x, get t (putDst o.dst v (dropIv iv tm)) = some x → ∀ r ∈ refsOf x, r.root < n + 4 := by
  intro t x hx r hr
  rw [get_putDst] at hx
  split at hx
  · injection hx with hx; subst hx
    rcases hs r hr with ⟨h, _⟩ | ⟨y, _, q, hq, e, _⟩
    · exact h.2
    · obtain ⟨t', v', _, hg, _, hq'⟩ := opnd_refs hq
      have := hl t' v' hg q hq'
      omega
  · rw [get_dropIv] at hx
    cases hg : get t tm with
    | none => rw [hg] at hx; cases hx
    | some y =>
      rw [hg] at hx
      injection hx with hx; subst hx
      unfold dropV at hr
      cases hl' : leadsV iv y with
      | true => rw [hl'] at hr; cases hr
      | false => rw [hl'] at hr; have := hl t y hg r hr; omega

theorem free_of {n : Nat} (hl : ∀ q, get q obs ≠ none → q < n) : Free obs n := by
  intro j h1 h2
  cases hg : get j obs with
  | none => rfl
  | some x => have := hl j (by rw [hg]; exact fun e => by cases e); omega

theorem FR.skip (hf : FR C w E β tm obs a F Gk) {dst : Option Nat} (hp : pinned C dst = false) : FR C w E β (putDst dst (.tup []) tm) obs (a.put dst undef) F Gk := by
  refine ⟨fun t x hx => ?_, hf.ob, by rw [put_size, hf.nt]⟩
  rw [get_putDst] at hx
  split at hx
  · rename_i e
    injection hx with hx; subst hx
    exact ⟨undef, by rw [put_tmps, if_pos ⟨e, by rw [hf.nt]; exact (pinned_lt hp t e).2⟩], ⟨#[], rfl, .nil⟩⟩
  · rename_i e
    obtain ⟨u', hu', hvr⟩ := hf.tm t x hx
    exact ⟨u', by rw [put_tmps, if_neg fun h => e h.1]; exact hu', hvr⟩

theorem Step.put {ds : Nat → Prop} {F' : Bs} {w' : World} {u : Value} {dst : Option Nat} (hap : Apart w w') (hs : Stay w F w' F' (fun _ => False)) (hE : ∀ b, E b → w'.heap[b]? = w.heap[b]?) (hd : ∀ d, dst = some d → ds d) : Step ds w E F a w' F' (a.put dst u) := by
  refine ⟨hap, hs, hE, fun t ht => ?_, put_defers⟩
  rw [put_tmps, if_neg fun h => ht (hd t h.1)]

/-- Slots that code writes. -/
def Wr (C : Ctx) (l : List Nat) (t : Nat) : Prop := t ∈ l ∧ t ∉ C.pin

theorem yielded_bool {ops : Array Oper} {j t : Nat} {b : Bool} (ht : (ops[j]?).bind (·.dst) = some t) (hu : a.tmps[t]? = some (.bool b)) : yielded ops a.tmps j = some b := by
  unfold yielded
  rw [ht]
  simp [hu]

theorem yielded_none {ops : Array Oper} {j t : Nat} (ht : (ops[j]?).bind (·.dst) = some t) (hu : a.tmps[t]? = some undef) : yielded ops a.tmps j = none := by
  unfold yielded
  rw [ht]
  simp [hu, undef]

theorem put_same {tm : List (Nat × V)} {t : Nat} {v : V} (h : get t tm = some v) (t' : Nat) : get t' (put t v tm) = get t' tm := by
  by_cases e : t = t'
  · subst e; rw [get_put, h]
  · rw [get_put_ne _ e]

/-- Operations in order. -/
theorem region_seq {R : Type} {K : St → Option R} {r : R} (hT : TisOk P C) (hE : EnvOk P C) {ops : Array Oper} {base : Nat} {log : List (Nat × List Nat × List Nat)} : ∀ (rest : List Oper) (i : Nat) {tm : List (Nat × V)} {obs : List (Nat × Ob)} {a : Act} {w : World} {F : Bs} {β : Nat → Option (Nat × Nat)} {Gk : Nat → Bs},
    i + rest.length = ops.size → regionK C k ops false [] base rest i log tm obs K = some r → FR C w E β tm obs a F Gk → (∀ q, get q obs ≠ none → q < base + 4 * i) → (∀ t v, get t tm = some v → ∀ r ∈ refsOf v, r.root < base + 4 * i) →
    ∀ Q, (∀ S' w' β' F' Gk' a', K S' = some r → SR C w' E β' S' a' F' Gk' → Step (Wr C (opsDsts rest)) w E F a w' F' a' → Q .normal a' w') → wpList P ops Q rest a w
  | [], i, tm, obs, a, w, F, β, Gk, hi, h, hf, hk, hr, Q, hQ => by
    have h' : K ⟨keepOnly C.keep tm, obs, base + 4 * ops.size⟩ = some r := h
    have hi' : i = ops.size := by simpa using hi
    subst hi'
    exact hQ _ w β F Gk a h' ⟨hf.le fun t v hv => .inl (get_keepOnly hv), hk, fun t v hv => hr t v (get_keepOnly hv)⟩ Step.refl
  | o :: rest, i, tm, obs, a, w, F, β, Gk, hi, h, hf, hk, hr, Q, hQ => by
    have hi' : i + 1 + rest.length = ops.size := by simp only [List.length_cons] at hi; omega
    cases hp : pinned C o.dst with
    | true => unfold regionK at h; rw [hp] at h; cases h
    | false =>
    have hds : ∀ d, o.dst = some d → Wr C (opsDsts (o :: rest)) d := fun d hd => ⟨by unfold opsDsts; rw [hd]; exact List.mem_cons_self, (pinned_lt hp d hd).1⟩
    have hds' : ∀ t, Wr C (opsDsts rest) t → Wr C (opsDsts (o :: rest)) t := fun t ht => ⟨by unfold opsDsts; split <;> first | exact List.mem_cons_of_mem _ ht.1 | exact ht.1, ht.2⟩
    -- it runs
    have run : ∀ (tm1 : List (Nat × V)), (∀ t, get t tm1 = get t tm) → opK C k tm1 obs (base + 4 * i) o (fun v d rd iv => regionK C k ops false [] base rest (i + 1) log (putDst o.dst v (dropIv iv tm1)) (applyD d obs) K) = some r →
        o.wp P a w (wpList P ops Q rest) Q := by
      intro tm1 he h1
      have hf1 : FR C w E β tm1 obs a F Gk := ⟨fun t v hv => hf.tm t v (by rw [← he]; exact hv), hf.ob, hf.nt⟩
      have hr1 : ∀ t v, get t tm1 = some v → ∀ r ∈ refsOf v, r.root < base + 4 * i := fun t v hv => hr t v (by rw [← he]; exact hv)
      obtain ⟨v, d, rd, iv, hst, hsrc, hkeys, hgood⟩ := op_ok hT hE hf1 (free_of hk) h1
      rw [hst tm1 obs (fun _ _ => rfl) (fun _ _ => rfl)] at h1
      refine hgood _ _ fun u w' β' F' Gk' hob hv hap hstay hEk hrk => ?_
      have hf2 := hf1.step hp hob hv hstay hrk fun t v hv r hr' h => absurd h.1 (Nat.not_le.2 (hr1 t v hv r hr'))
      exact region_seq hT hE rest (i + 1) hi' h1 hf2 (fun q hq => by have := keys_lt hkeys hk q hq; omega) (fun t x hx r hr' => by have := refs_lt hsrc hr1 t x hx r hr'; omega) Q
        fun S' w2 β2 F2 Gk2 a2 hK hS hstep => hQ S' w2 β2 F2 Gk2 a2 hK hS ((Step.put (ds := Wr C (opsDsts (o :: rest))) hap hstay hEk hds).trans hstep (fun _ h => h) hds')
    have skip : ∀ (tm1 : List (Nat × V)), (∀ t, get t tm1 = get t tm) → regionK C k ops false [] base rest (i + 1) log (putDst o.dst (.tup []) tm1) obs K = some r → wpList P ops Q rest (a.put o.dst undef) w := by
      intro tm1 he h1
      have hf1 : FR C w E β tm1 obs a F Gk := ⟨fun t v hv => hf.tm t v (by rw [← he]; exact hv), hf.ob, hf.nt⟩
      have hf2 := hf1.skip hp
      exact region_seq hT hE rest (i + 1) hi' h1 hf2 (fun q hq => by have := hk q hq; omega) (fun t x hx r hr' => by
          rw [get_putDst] at hx
          split at hx
          · injection hx with hx; subst hx; cases hr'
          · have := hr t x (by rw [← he]; exact hx) r hr'; omega) Q
        fun S' w2 β2 F2 Gk2 a2 hK hS hstep => hQ S' w2 β2 F2 Gk2 a2 hK hS ((Step.put (ds := Wr C (opsDsts (o :: rest))) (Apart.refl w) (Stay.refl w F _) (fun _ _ => rfl) hds).trans hstep (fun _ h => h) hds')
    unfold regionK at h
    rw [hp] at h
    simp only [cond] at h
    show if Region.wanted o (yielded ops a.tmps) then o.wp P a w (wpList P ops Q rest) Q ∨ (o.asks P a w ∧ LetsOut Q) else wpList P ops Q rest (a.put o.dst undef) w
    cases hg : o.guard with
    | none =>
      rw [hg] at h
      have hw : Region.wanted o (yielded ops a.tmps) = true := by unfold Region.wanted; rw [hg]
      rw [hw, if_pos rfl]
      exact .inl (run tm (fun _ => rfl) h)
    | some gw =>
      obtain ⟨j, want⟩ := gw
      rw [hg] at h
      simp only at h
      have hwe : Region.wanted o (yielded ops a.tmps) = (yielded ops a.tmps j == some want) := by unfold Region.wanted; rw [hg]
      rw [hwe]
      split at h
      · rename_i t ht
        split at h
        · rename_i b hgt
          obtain ⟨u, hu, hvr⟩ := hf.tm t _ hgt
          have := bool_of_VR hvr
          subst this
          rw [yielded_bool ht hu]
          cases b with
          | true => exact .inl (run _ (put_same hgt) h)
          | false => exact skip _ (put_same hgt) h
        · rename_i b hgt
          obtain ⟨u, hu, hvr⟩ := hf.tm t _ hgt
          have := bool_of_VR hvr
          subst this
          rw [yielded_bool ht hu]
          cases b with
          | true => exact skip _ (put_same hgt) h
          | false => exact .inl (run _ (put_same hgt) h)
        · rename_i hgt
          obtain ⟨u, hu, us, hus, hall⟩ := hf.tm t _ hgt
          cases hall' : us.toList with
          | cons x l => rw [hall'] at hall; cases hall
          | nil =>
            have : us = #[] := Array.toList_inj.1 (by simpa using hall')
            subst this
            subst hus
            rw [yielded_none ht hu]
            exact skip tm (fun _ => rfl) h
        · cases h
      · cases h
end
end Go.Lf

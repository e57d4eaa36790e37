import Derived.Test.YtgfhdajbgkpgkaaLfAny
set_option linter.unusedVariables false
/-! Lf: regions in any order. -/
namespace Go.Lf

def opndF (T : Nat → Option V) : Operand → V
  | .tmp t => (T t).getD .undef
  | x => opnd [] x

theorem opnd_F (tm : List (Nat × V)) (x : Operand) : opnd tm x = opndF (fun t => get t tm) x := by cases x <;> rfl

/-- What is known of an operation, in order. -/
structure RecOk (C : Ctx) (k base : Nat) (ops : Array Oper) (T : Nat → Option V) (O : Nat → Option Ob) (i : Nat) (o : Oper) (x : Rec) : Prop where
  dst : x.dst = o.dst
  pin : pinned C o.dst = false
  src : ∀ r ∈ refsOf x.v, inR (base + 4 * i) r ∨ ∃ t v', t ∈ o.looksAt ops ∧ T t = some v' ∧ ∃ q ∈ refsOf v', q.root = r.root
  way : ∀ r ∈ refsOf x.v, r.path ≠ [] → r.root ∈ x.rd
  ivr : ∀ p ∈ x.iv, p.1.root ∈ keysOf x.d
  ivk : ivOk x.iv = true
  keys : ∀ q ∈ keysOf x.d, O q ≠ none ∨ (base + 4 * i ≤ q ∧ q < base + 4 * i + 4)
  what : (∃ j want t, o.guard = some (j, want) ∧ (ops[j]?).bind (·.dst) = some t ∧ (T t = some (.tup []) ∨ T t = some (.bool (!want))) ∧ x.v = .tup [] ∧ x.d = [] ∧ x.iv = []) ∨
    ((o.guard = none ∨ ∃ j want t, o.guard = some (j, want) ∧ (ops[j]?).bind (·.dst) = some t ∧ T t = some (.bool want)) ∧
      (∀ t, .tmp t ∈ o.op.operands → ∀ v, T t = some v → ∀ r ∈ refsOf v, r.path ≠ [] → r.root ∈ x.rd) ∧
      ∃ rd0 : List Nat, (∀ q ∈ rd0, q ∈ x.rd) ∧ ∀ (tm' : List (Nat × V)) (obs' : List (Nat × Ob)), (∀ y ∈ o.op.operands, opnd tm' y = opndF T y) → (∀ q, q ∈ rd0 ∨ q ∈ keysOf x.d → get q obs' = O q) →
        ∀ (R : Type) (K : OpK R), opK C k tm' obs' (base + 4 * i) o K = K x.v x.d rd0 x.iv)

/-- Neither writes what the other reads or writes. -/
def Apart3 (x y : Rec) : Prop := (∀ q ∈ keysOf x.d, q ∉ y.rd ∧ q ∉ keysOf y.d) ∧ ∀ q ∈ keysOf y.d, q ∉ x.rd

theorem beside_spec {mask : Nat} {rd wr : List Nat} : ∀ {log : List (Nat × List Nat × List Nat)}, beside mask rd wr log = true → ∀ j rd' wr', (j, rd', wr') ∈ log → mask.testBit j = true ∨ (disj wr' rd = true ∧ disj wr rd' = true ∧ disj wr wr' = true)
  | [], _, _, _, _, h => by cases h
  | (j, rd', wr') :: l, h, j2, rd2, wr2, hm => by
    have h' : ((mask.testBit j || (disj wr' rd && disj wr rd' && disj wr wr')) && beside mask rd wr l) = true := h
    rw [Bool.and_eq_true, Bool.or_eq_true, Bool.and_eq_true, Bool.and_eq_true] at h'
    rcases List.mem_cons.1 hm with e | hm
    · injection e with e1 e2; injection e2 with e2 e3; subst e1; subst e2; subst e3
      exact h'.1.imp id fun h => ⟨h.1.1, h.1.2, h.2⟩
    · exact beside_spec h'.2 j2 rd2 wr2 hm

section
variable {P : Program} {C : Ctx} {k : Nat} {tm : List (Nat × V)} {obs : List (Nat × Ob)} {fresh : Nat} {o : Oper} {a : Act} {w : World} {E : Bs} {β : Nat → Option (Nat × Nat)} {F : Bs} {Gk : Nat → Bs}

/-- There is a run. -/
theorem good_runs {v : V} {d : Delta} {iv : List (Ref × Bool)} (h : Good P o a w E β obs F fresh v d iv) :
    ∃ u w' β' F' Gk', ObsR w' E F' β' (applyD d obs) Gk' ∧ VR w' β' (applyD d obs) F' v u ∧ Apart w w' ∧ Stay w F w' F' (fun _ => False) ∧ (∀ b, E b → w'.heap[b]? = w.heap[b]?) ∧
      (∀ r, ¬ inR fresh r → overAny r iv = false → RefKeep w β obs w' β' (applyD d obs) r) := by
  have h' := h (fun _ _ => ∃ u w' β' F' Gk', ObsR w' E F' β' (applyD d obs) Gk' ∧ VR w' β' (applyD d obs) F' v u ∧ Apart w w' ∧ Stay w F w' F' (fun _ => False) ∧ (∀ b, E b → w'.heap[b]? = w.heap[b]?) ∧
      (∀ r, ¬ inR fresh r → overAny r iv = false → RefKeep w β obs w' β' (applyD d obs) r)) (fun _ _ _ => False) fun u w' β' F' Gk' h1 h2 h3 h4 h5 h6 => ⟨u, w', β', F', Gk', h1, h2, h3, h4, h5, h6⟩
  unfold Oper.wp at h'
  generalize (execOp a.eval o).run P w = res at h'
  cases res with
  | ok n w1 =>
    cases n with
    | value v => exact h'
    | skip => exact h'
    | defer d => exact h'
    | enter f args =>
      obtain ⟨e, w2, _, h2, _⟩ := h' []
      cases e with
      | returned v => exact h2
      | panicked c => exact h2.elim
      | outgrown => obtain ⟨_, _, h3⟩ := h2; exact h3.elim
    | row s args =>
      obtain ⟨v, w2, h2, _⟩ := h' default []
      exact h2
    | _ => exact h'.elim
  | halt x w1 => cases x <;> exact h'.elim

theorem opndRoots_spec {y : Operand} : ∀ {l : List Operand}, y ∈ l → ∀ r ∈ refsOf (opnd tm y), r.path ≠ [] → r.root ∈ opndRoots tm l
  | [], h, _, _, _ => by cases h
  | x :: l, h, r, hr, hp => by
    have leaf : ∀ v : V, r ∈ refOf v → r.root ∈ wayRoot v := by
      intro v hv
      cases v with
      | hs q _ _ _ =>
        simp [refOf] at hv; subst hv
        obtain ⟨root, path⟩ := r
        cases path with
        | nil => exact absurd rfl hp
        | cons => simp [wayRoot]
      | hp q _ _ =>
        simp [refOf] at hv; subst hv
        obtain ⟨root, path⟩ := r
        cases path with
        | nil => exact absurd rfl hp
        | cons => simp [wayRoot]
      | _ => cases hv
    have leaves : ∀ l : List V, r ∈ l.flatMap refOf → r.root ∈ wayRoots l := by
      intro l
      induction l with
      | nil => intro h; cases h
      | cons v l ih =>
        intro h
        rw [List.flatMap_cons] at h
        exact List.mem_append.2 ((List.mem_append.1 h).imp (leaf v) ih)
    have aggs : ∀ v : V, r ∈ refsOfA v → r.root ∈ wayRootsA v := by
      intro v hv
      cases v with
      | agg fs => exact leaves fs hv
      | fn f fs => exact leaves fs hv
      | hs q a b c => exact leaf (.hs q a b c) hv
      | hp q a b => exact leaf (.hp q a b) hv
      | _ => cases hv
    have aggss : ∀ l : List V, r ∈ l.flatMap refsOfA → r.root ∈ wayRootsT l := by
      intro l
      induction l with
      | nil => intro h; cases h
      | cons v l ih =>
        intro h
        rw [List.flatMap_cons] at h
        exact List.mem_append.2 ((List.mem_append.1 h).imp (aggs v) ih)
    have all : ∀ v : V, r ∈ refsOf v → r.root ∈ wayRootsV v := by
      intro v hv
      cases v with
      | tup vs => exact aggss vs hv
      | agg fs => exact aggs (.agg fs) hv
      | fn f fs => exact aggs (.fn f fs) hv
      | hs q a b c => exact aggs (.hs q a b c) hv
      | hp q a b => exact aggs (.hp q a b) hv
      | _ => cases hv
    show r.root ∈ wayRootsV (opnd tm x) ++ opndRoots tm l
    rcases List.mem_cons.1 h with e | h
    · subst e; exact List.mem_append.2 (.inl (all _ hr))
    · exact List.mem_append.2 (.inr (opndRoots_spec h r hr hp))

theorem looksAt_op {ops : Array Oper} {t : Nat} (h : .tmp t ∈ o.op.operands) : t ∈ o.looksAt ops := by
  unfold Oper.looksAt
  exact List.mem_append_left _ (List.mem_filterMap.2 ⟨.tmp t, by simpa using h, rfl⟩)

theorem looksAt_guard {ops : Array Oper} {t j : Nat} {want : Bool} (hg : o.guard = some (j, want)) (ht : (ops[j]?).bind (·.dst) = some t) : t ∈ o.looksAt ops := by
  unfold Oper.looksAt
  refine List.mem_append_right _ ?_
  rw [hg]
  simp [ht]

theorem not_bool {b want : Bool} (h : b ≠ want) : b = !want := by cases b <;> cases want <;> simp_all

/-- All operations, written down. -/
def Traced {R : Type} (C : Ctx) (k base : Nat) (ops : Array Oper) (masks : List Nat) (T0 : Nat → Option V) (O0 : Nat → Option Ob) (K : St → Option R) (r : R) (i : Nat) (rc0 : Nat → Rec) : Prop :=
  ∃ rc, (∀ j, j < i → rc j = rc0 j) ∧ (∀ j o, i ≤ j → ops[j]? = some o → RecOk C k base ops (foldT rc (List.range j) T0) (foldO rc (List.range j) O0) j o (rc j) ∧ ∀ j', j' < j → (masks.getD j 0).testBit j' = false → Apart3 (rc j') (rc j)) ∧
      ∃ tmN obsN, (∀ t, get t tmN = foldT rc (List.range ops.size) T0 t) ∧ (∀ q, get q obsN = foldO rc (List.range ops.size) O0 q) ∧ K ⟨keepOnly C.keep tmN, obsN, base + 4 * ops.size⟩ = some r ∧
        (∀ q, get q obsN ≠ none → q < base + 4 * ops.size) ∧ (∀ t v, get t tmN = some v → ∀ r ∈ refsOf v, r.root < base + 4 * ops.size)

/-- The operations in order, written down. -/
theorem trace_ok {R : Type} {K : St → Option R} {r : R} (hT : TisOk P C) (hE : EnvOk P C) {ops : Array Oper} {base : Nat} {masks : List Nat} {T0 : Nat → Option V} {O0 : Nat → Option Ob} : ∀ (rest : List Oper) (i : Nat) {rc0 : Nat → Rec} {log : List (Nat × List Nat × List Nat)} {tm : List (Nat × V)} {obs : List (Nat × Ob)} {a : Act} {w : World} {F : Bs} {β : Nat → Option (Nat × Nat)} {Gk : Nat → Bs},
    i + rest.length = ops.size → (∀ j, rest[j]? = ops[i + j]?) → regionK C k ops true masks base rest i log tm obs K = some r → FR C w E β tm obs a F Gk → (∀ q, get q obs ≠ none → q < base + 4 * i) → (∀ t v, get t tm = some v → ∀ r ∈ refsOf v, r.root < base + 4 * i) →
    (∀ t, get t tm = foldT rc0 (List.range i) T0 t) → (∀ q, get q obs = foldO rc0 (List.range i) O0 q) → (∀ j, j < i → ((rc0 j).rd = [] ∧ (rc0 j).d = []) ∨ (j, (rc0 j).rd, keysOf (rc0 j).d) ∈ log) →
    Traced C k base ops masks T0 O0 K r i rc0
  | [], i, rc0, log, tm, obs, a, w, F, β, Gk, hi, hops, h, hf, hk, hr, hsT, hsO, hlog => by
    have h' : K ⟨keepOnly C.keep tm, obs, base + 4 * ops.size⟩ = some r := h
    have hi' : i = ops.size := by simpa using hi
    subst hi'
    refine ⟨rc0, fun _ _ => rfl, fun j o hj ho => ?_, tm, obs, hsT, hsO, h', hk, hr⟩
    have := (Array.getElem?_eq_some_iff.1 ho).1
    omega
  | o :: rest, i, rc0, log, tm, obs, a, w, F, β, Gk, hi, hops, h, hf, hk, hr, hsT, hsO, hlog => by
    have hi' : i + 1 + rest.length = ops.size := by simp only [List.length_cons] at hi; omega
    have hoi : ops[i]? = some o := by simpa using (hops 0).symm
    have hops' : ∀ j, rest[j]? = ops[i + 1 + j]? := fun j => by have := hops (j + 1); simpa [Nat.add_assoc, Nat.add_comm 1 j] using this
    cases hp : pinned C o.dst with
    | true => unfold regionK at h; rw [hp] at h; cases h
    | false =>
    -- behind one operation
    have next : ∀ (x : Rec) (log' : List (Nat × List Nat × List Nat)) (tm1 : List (Nat × V)) (a' : Act) (w' : World) (F' : Bs) (β' : Nat → Option (Nat × Nat)) (Gk' : Nat → Bs), x.dst = o.dst → (∀ t, get t tm1 = get t tm) →
        (∀ q ∈ log, q ∈ log') → ((x.rd = [] ∧ x.d = []) ∨ (i, x.rd, keysOf x.d) ∈ log') →
        regionK C k ops true masks base rest (i + 1) log' (putDst o.dst x.v (dropIv x.iv tm1)) (applyD x.d obs) K = some r →
        FR C w' E β' (putDst o.dst x.v (dropIv x.iv tm1)) (applyD x.d obs) a' F' Gk' → (∀ q, get q (applyD x.d obs) ≠ none → q < base + 4 * (i + 1)) → (∀ t v, get t (putDst o.dst x.v (dropIv x.iv tm1)) = some v → ∀ r ∈ refsOf v, r.root < base + 4 * (i + 1)) →
        RecOk C k base ops (fun t => get t tm) (fun q => get q obs) i o x → (∀ j', j' < i → (masks.getD i 0).testBit j' = false → Apart3 (rc0 j') x) →
        Traced C k base ops masks T0 O0 K r i rc0 := by
      intro x log' tm1 a' w' F' β' Gk' hxd he hlog1 hlog2 h1 hf1 hk1 hr1 hrec hap
      have hc0 : ∀ j ∈ List.range i, (fun j => if j = i then x else rc0 j) j = rc0 j := fun j hj => if_neg (by have := List.mem_range.1 hj; omega)
      obtain ⟨rc, hag, hall, hend⟩ := trace_ok hT hE rest (i + 1) (rc0 := fun j => if j = i then x else rc0 j) hi' hops' h1 hf1 hk1 hr1 (fun t => by
          rw [List.range_succ, foldT_append, foldT_congr (rc' := rc0) _ _ hc0]
          show _ = stepT (if i = i then x else rc0 i) _ t
          rw [if_pos rfl, get_putDst, get_dropIv, he, hsT]
          unfold stepT
          rw [hxd]) (fun q => by
          rw [List.range_succ, foldO_append, foldO_congr (rc' := rc0) _ _ hc0]
          show _ = stepO (if i = i then x else rc0 i) _ q
          rw [if_pos rfl, get_appF, hsO]
          rfl) (fun j hj => by
          by_cases e : j = i
          · subst e; simp only [if_pos]; exact hlog2
          · simp only [if_neg e]; exact (hlog j (by omega)).imp id (hlog1 _))
      have hagi : ∀ j, j < i → rc j = rc0 j := fun j hj => by rw [hag j (by omega)]; exact if_neg (by omega)
      have hx : rc i = x := by rw [hag i (by omega)]; exact if_pos rfl
      refine ⟨rc, hagi, fun j o' hj ho' => ?_, hend⟩
      by_cases e : j = i
      · subst e
        rw [hoi] at ho'
        injection ho' with ho'; subst ho'
        have hcr : ∀ j' ∈ List.range j, rc j' = rc0 j' := fun j' hj' => hagi j' (List.mem_range.1 hj')
        rw [hx, foldT_congr _ _ hcr, foldO_congr _ _ hcr]
        have e1 : foldT rc0 (List.range j) T0 = fun t => get t tm := funext fun t => (hsT t).symm
        have e2 : foldO rc0 (List.range j) O0 = fun q => get q obs := funext fun q => (hsO q).symm
        rw [e1, e2]
        exact ⟨hrec, fun j' hj' hm => by rw [hagi j' hj']; exact hap j' hj' hm⟩
      · exact hall j o' (by omega) ho'
    have run : ∀ (tm1 : List (Nat × V)), (∀ t, get t tm1 = get t tm) → (o.guard = none ∨ ∃ j want t, o.guard = some (j, want) ∧ (ops[j]?).bind (·.dst) = some t ∧ get t tm = some (.bool want)) →
        opK C k tm1 obs (base + 4 * i) o (fun v d rd iv => bif beside (masks.getD i 0) (rd ++ opndRoots tm1 o.op.operands.toList) (keysOf d) log && ivOk iv then
          regionK C k ops true masks base rest (i + 1) ((i, rd ++ opndRoots tm1 o.op.operands.toList, keysOf d) :: log) (putDst o.dst v (dropIv iv tm1)) (applyD d obs) K else none) = some r → Traced C k base ops masks T0 O0 K r i rc0 := by
      intro tm1 he hg h1
      have hf1 : FR C w E β tm1 obs a F Gk := ⟨fun t v hv => hf.tm t v (by rw [← he]; exact hv), hf.ob, hf.nt⟩
      have hr1 : ∀ t v, get t tm1 = some v → ∀ r ∈ refsOf v, r.root < base + 4 * i := fun t v hv => hr t v (by rw [← he]; exact hv)
      obtain ⟨v, d, rd, iv, hst, hsrc, hkeys, hgood⟩ := op_ok hT hE hf1 (free_of hk) h1
      rw [hst tm1 obs (fun _ _ => rfl) (fun _ _ => rfl)] at h1
      cases hb : beside (masks.getD i 0) (rd ++ opndRoots tm1 o.op.operands.toList) (keysOf d) log && ivOk iv with
      | false => rw [hb] at h1; cases h1
      | true =>
        rw [hb] at h1
        simp only [cond] at h1
        rw [Bool.and_eq_true] at hb
        obtain ⟨u, w', β', F', Gk', hob, hv, hap, hstay, hEk, hrk⟩ := good_runs hgood
        have hf2 := hf1.step hp hob hv hstay hrk fun t v hv r hr' h => absurd h.1 (Nat.not_le.2 (hr1 t v hv r hr'))
        have hF1 : (fun t => get t tm) = fun t => get t tm1 := funext fun t => (he t).symm
        refine next ⟨o.dst, v, d, rd ++ opndRoots tm1 o.op.operands.toList, iv⟩ _ tm1 _ w' F' β' Gk' rfl he (fun q hq => List.mem_cons_of_mem _ hq) (.inr List.mem_cons_self) h1 hf2 (fun q hq => by have := keys_lt hkeys hk q hq; omega) (fun t x hx r hr' => by have := refs_lt hsrc hr1 t x hx r hr'; omega) ?_ fun j' hj' hm => ?_
        · refine ⟨rfl, hp, fun r hr' => ?_, fun r hr' hpath => ?_, hkeys.2, hb.2, hkeys.1, .inr ⟨hg, fun t ht v' hv' r hr' hpath => ?_, rd, fun q hq => List.mem_append.2 (.inl hq), fun tm' obs' ht hd R' K' => hst tm' obs' (fun y hy => ?_) hd R' K'⟩⟩
          · rcases hsrc r hr' with ⟨h2, _⟩ | ⟨y, hy, q, hq, hqr, _⟩
            · exact .inl h2
            · obtain ⟨t', v', ey, hgt, ev, hq'⟩ := opnd_refs hq
              subst ey
              exact .inr ⟨t', v', looksAt_op hy, by rw [← he]; exact hgt, q, hq', hqr⟩
          · rcases hsrc r hr' with ⟨_, h2⟩ | ⟨y, hy, q, hq, hqr, h3⟩
            · exact absurd h2 hpath
            · rcases h3 with h3 | h3 | h3
              · exact absurd h3 hpath
              · exact List.mem_append.2 (.inl h3)
              · refine List.mem_append.2 (.inr ?_)
                rw [← hqr]
                exact opndRoots_spec (by simpa using hy) q hq h3
          · refine List.mem_append.2 (.inr (opndRoots_spec (y := .tmp t) (by simpa using ht) r ?_ hpath))
            have hv2 : get t tm1 = some v' := by rw [he]; exact hv'
            show r ∈ refsOf ((get t tm1).getD .undef)
            rw [hv2]; exact hr'
          · rw [ht y hy, hF1, ← opnd_F]
        · rcases hlog j' hj' with ⟨h2, h3⟩ | h2
          · refine ⟨fun q hq => ?_, fun q hq => ?_⟩
            · rw [h3] at hq; cases hq
            · rw [h2]; exact fun h => by cases h
          · rcases beside_spec hb.1 j' _ _ h2 with h3 | ⟨h3, h4, h5⟩
            · rw [hm] at h3; cases h3
            · exact ⟨fun q hq => ⟨disj_ok h3 q hq, fun hq' => disj_ok h5 q hq' hq⟩, disj_ok h4⟩
    have skip : ∀ (tm1 : List (Nat × V)), (∀ t, get t tm1 = get t tm) → (∃ j want t, o.guard = some (j, want) ∧ (ops[j]?).bind (·.dst) = some t ∧ (get t tm = some (.tup []) ∨ get t tm = some (.bool (!want)))) →
        regionK C k ops true masks base rest (i + 1) log (putDst o.dst (.tup []) tm1) obs K = some r → Traced C k base ops masks T0 O0 K r i rc0 := by
      intro tm1 he ⟨j, want, t, hg1, hg2, hg3⟩ h1
      have hf1 : FR C w E β tm1 obs a F Gk := ⟨fun t v hv => hf.tm t v (by rw [← he]; exact hv), hf.ob, hf.nt⟩
      have hf2 := hf1.skip hp
      refine next ⟨o.dst, .tup [], [], [], []⟩ log tm1 _ w F β Gk rfl he (fun q hq => hq) (.inl ⟨rfl, rfl⟩) h1 hf2 (fun q hq => by have := hk q hq; omega) (fun t x hx r hr' => by
          have hx' : get t (putDst o.dst (.tup []) tm1) = some x := hx
          rw [get_putDst] at hx'
          split at hx'
          · injection hx' with hx'; subst hx'; cases hr'
          · have := hr t x (by rw [← he]; exact hx') r hr'; omega) ?_ fun j' hj' hm => ?_
      · exact ⟨rfl, hp, fun r hr' => (by cases hr'), fun r hr' => (by cases hr'), fun p hp => (by cases hp), rfl, fun q hq => (by cases hq), .inl ⟨j, want, t, hg1, hg2, hg3, rfl, rfl, rfl⟩⟩
      · exact ⟨fun q hq => ⟨fun h => (by cases h), fun h => (by cases h)⟩, fun q hq => (by cases hq)⟩
    unfold regionK at h
    rw [hp] at h
    simp only [cond] at h
    cases hg : o.guard with
    | none =>
      rw [hg] at h
      exact run tm (fun _ => rfl) (.inl hg) h
    | some gw =>
      obtain ⟨j, want⟩ := gw
      rw [hg] at h
      simp only at h
      split at h
      · rename_i t ht
        split at h
        · rename_i b hgt
          cases b with
          | true => exact run _ (put_same hgt) (.inr ⟨j, true, t, hg, ht, hgt⟩) h
          | false => exact skip _ (put_same hgt) ⟨j, true, t, hg, ht, .inr hgt⟩ h
        · rename_i b hgt
          cases b with
          | true => exact skip _ (put_same hgt) ⟨j, false, t, hg, ht, .inr hgt⟩ h
          | false => exact run _ (put_same hgt) (.inr ⟨j, false, t, hg, ht, hgt⟩) h
        · rename_i hgt
          exact skip tm (fun _ => rfl) ⟨j, _, t, hg, ht, .inl hgt⟩ h
        · cases h
      · cases h
end
end Go.Lf

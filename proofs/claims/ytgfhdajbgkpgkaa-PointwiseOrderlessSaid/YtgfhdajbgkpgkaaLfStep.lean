import Derived.Test.YtgfhdajbgkpgkaaLfMem
set_option linter.unusedVariables false
/-! Lf: one operation: what is to be shown, and the operations that leave memory alone. -/
namespace Go.Lf

def Z0 (v : V) (u : Value) : Prop :=
  match v with
  | .int k n => u = .int k n
  | .bool b => u = .bool b
  | .nilp => u = .pointer none
  | .nils => u = .slice none 0 0
  | .undef => u.oneCell' = true
  | _ => False

def isAggD : TypeDesc → Bool
  | .struct _ | .array _ _ => true
  | _ => false

def KindOk (P : Program) (t : TypeId) : TK → Prop
  | .int k => P.underlying t = some (.int k)
  | .bool => P.underlying t = some .bool
  | .slice e => P.underlying t = some (.slice e)
  | .ptr e => P.underlying t = some (.pointer e)
  | .struct fs => ∃ fields, P.underlying t = some (.struct fields) ∧ All2 (fun (p : Nat × Nat) (f : Field) => f.offset = p.1 ∧ p.2 ≠ 0 ∧
      (∃ inf, P.info? f.type = some inf ∧ inf.size = p.2) ∧ ∃ d, P.underlying f.type = some d ∧ isAggD d = !Nat.beq p.2 1) fs fields.toList
  | .other => True

/-- The fields of a struct of numbers and bools, from off on; ks: the kinds of their cells. -/
def eqFields (rec : TypeId → List Bool → Bool) (P : Program) : Nat → List Bool → List Field → Bool
  | _, ks, [] => ks.isEmpty
  | off, ks, f :: fs => f.name != "_" && f.offset == off && (match P.info? f.type with
    | some i => decide (i.size ≤ ks.length) && rec f.type (ks.take i.size) && eqFields rec P (off + i.size) (ks.drop i.size) fs
    | none => false)

def eqB (P : Program) : Nat → TypeId → List Bool → Bool
  | 0, _, _ => false
  | n + 1, t, ks => match P.underlying t, P.info? t, ks with
    | some (.int _), some i, [true] => i.size == 1
    | some .bool, some i, [false] => i.size == 1
    | some (.struct fs), some i, ks => !P.stoodInHeld t && i.size == ks.length && eqFields (eqB P n) P 0 ks fs.toList
    | _, _, _ => false

structure TIok (P : Program) (t : TypeId) (i : TI) : Prop where
  info : ∃ z inf, P.info? t = some inf ∧ inf.size = i.size ∧ inf.bytes = i.bytes ∧ inf.zero = some z ∧ All2 Z0 i.zero z.cells.toList ∧ i.zero.length = i.size
  kind : KindOk P t i.k
  eq : i.eq ≠ [] → P.eqGuardType P.depth t = false ∧ eqB P 8 t i.eq = true ∧ i.eq.length = i.size ∧ ∃ fs, P.underlying t = some (.struct fs)

def TisOk (P : Program) (C : Ctx) : Prop := ∀ t i, get t C.ti = some i → TIok P t i

/-- The state of a frame, taken apart. -/
structure FR (C : Ctx) (w : World) (E : Bs) (β : Nat → Option (Nat × Nat)) (tm : List (Nat × V)) (obs : List (Nat × Ob)) (a : Act) (F : Bs) (Gk : Nat → Bs) : Prop where
  tm : ∀ t v, get t tm = some v → ∃ u, a.tmps[t]? = some u ∧ VR w β obs F v u
  ob : ObsR w E F β obs Gk
  nt : a.tmps.size = C.nt

theorem RefKeep.refl (w : World) (β : Nat → Option (Nat × Nat)) (obs : List (Nat × Ob)) (r : Ref) : RefKeep w β obs w β obs r :=
  fun o' _ h => ⟨o', h, Ob.like.refl o', fun _ _ _ row hr => ⟨row, hr, rfl⟩⟩

theorem Stay.refl (w : World) (F G : Bs) : Stay w F w F G := ⟨Nat.le_refl _, fun _ _ => rfl, fun _ _ _ => rfl, fun _ h => .inl h⟩

def inR (n : Nat) (r : Ref) : Prop := n ≤ r.root ∧ r.root < n + 4

/-- What an operation is to come to. -/
def Good (P : Program) (o : Oper) (a : Act) (w : World) (E : Bs) (β : Nat → Option (Nat × Nat)) (obs : List (Nat × Ob)) (F : Bs) (fresh : Nat) (v : V) (d : Delta) (iv : List (Ref × Bool)) : Prop :=
  ∀ (next : Act → World → Prop) (Q : Exit → Act → World → Prop),
    (∀ u w' β' F' Gk', ObsR w' E F' β' (applyD d obs) Gk' → VR w' β' (applyD d obs) F' v u → Apart w w' → Stay w F w' F' (fun _ => False) → (∀ b, E b → w'.heap[b]? = w.heap[b]?) →
      (∀ r, ¬ inR fresh r → overAny r iv = false → RefKeep w β obs w' β' (applyD d obs) r) → next (a.put o.dst u) w') → o.wp P a w next Q

theorem good_pure {P : Program} {o : Oper} {a : Act} {w : World} {E : Bs} {β : Nat → Option (Nat × Nat)} {obs : List (Nat × Ob)} {F : Bs} {Gk : Nat → Bs} {fresh : Nat} {v : V} {u : Value}
    (hob : ObsR w E F β obs Gk) (hr : (execOp a.eval o).run P w = .ok (.value u) w) (hv : VR w β obs F v u) : Good P o a w E β obs F fresh v [] [] := by
  intro next Q h
  unfold Oper.wp
  rw [hr, Oper.upon_value]
  exact h u w β F Gk hob hv (Apart.refl w) (Stay.refl w F _) (fun _ _ => rfl) fun r _ _ => RefKeep.refl w β obs r

/-- Where the ways of a value come from. -/
def Src (tm : List (Nat × V)) (fresh : Nat) (o : Oper) (rd : List Nat) (v : V) : Prop :=
  ∀ r ∈ refsOf v, (inR fresh r ∧ r.path = []) ∨ ∃ x ∈ o.op.operands, ∃ q ∈ refsOf (opnd tm x), q.root = r.root ∧ (r.path = [] ∨ r.root ∈ rd ∨ q.path ≠ [])

/-- Which objects are turned. -/
def Keys (obs : List (Nat × Ob)) (fresh : Nat) (d : Delta) (iv : List (Ref × Bool)) : Prop :=
  (∀ k ∈ keysOf d, get k obs ≠ none ∨ (fresh ≤ k ∧ k < fresh + 4)) ∧ ∀ p ∈ iv, p.1.root ∈ keysOf d

/-- It comes to the same wherever the operands and the objects that it looks at are the same. -/
def Stab (C : Ctx) (k : Nat) (tm : List (Nat × V)) (obs : List (Nat × Ob)) (fresh : Nat) (o : Oper) (v : V) (d : Delta) (rd : List Nat) (iv : List (Ref × Bool)) : Prop :=
  ∀ (tm' : List (Nat × V)) (obs' : List (Nat × Ob)), (∀ x, x ∈ o.op.operands → opnd tm' x = opnd tm x) →
    (∀ q, q ∈ rd ∨ q ∈ keysOf d → get q obs' = get q obs) → ∀ (R : Type) (K : OpK R), opK C k tm' obs' fresh o K = K v d rd iv

/-- The whole of it. -/
def OpOk (P : Program) (C : Ctx) (k : Nat) (tm : List (Nat × V)) (obs : List (Nat × Ob)) (fresh : Nat) (o : Oper) (a : Act) (w : World) (E : Bs) (β : Nat → Option (Nat × Nat)) (F : Bs) : Prop :=
  ∃ v d rd iv, Stab C k tm obs fresh o v d rd iv ∧ Src tm fresh o rd v ∧ Keys obs fresh d iv ∧ Good P o a w E β obs F fresh v d iv

section
variable {P : Program} {C : Ctx} {k : Nat} {tm : List (Nat × V)} {obs : List (Nat × Ob)} {fresh : Nat} {o : Oper} {a : Act} {w : World} {E : Bs} {β : Nat → Option (Nat × Nat)} {F : Bs} {Gk : Nat → Bs}

theorem VR.undef {u : Value} : VR w β obs F .undef u := trivial

theorem opnd_rel (h : FR C w E β tm obs a F Gk) (x : Operand) : VR w β obs F (opnd tm x) (a.eval x) := by
  cases x with
  | tmp t =>
    show VR w β obs F ((get t tm).getD .undef) (a.tmps.getD t undef)
    cases hg : get t tm with
    | none => exact VR.undef
    | some v =>
      obtain ⟨u, hu, hv⟩ := h.tm t v hg
      have : a.tmps.getD t undef = u := by rw [Array.getD_eq_getD_getElem?, hu]; rfl
      rw [this]
      exact hv
  | const v =>
    show VR w β obs F (ofValue v) v
    unfold ofValue
    split
    · exact rfl
    · exact rfl
    · exact rfl
    · exact ⟨none, rfl⟩
    · exact VR.undef
  | func f => exact ⟨#[], rfl, .nil⟩
  | global g => exact VR.undef

theorem Src.none {v : V} {rd : List Nat} (h : refsOf v = []) : Src tm fresh o rd v := by
  intro r hr; rw [h] at hr; cases hr

theorem Src.same {x : Operand} {rd : List Nat} (hx : x ∈ o.op.operands) : Src tm fresh o rd (opnd tm x) := by
  intro r hr
  refine .inr ⟨x, hx, r, hr, rfl, ?_⟩
  by_cases h : r.path = []
  · exact .inl h
  · exact .inr (.inr h)

theorem Keys.nil : Keys obs fresh [] [] := ⟨fun _ h => (by cases h), fun _ h => (by cases h)⟩

/-- An operation that leaves memory alone. -/
theorem opOk_pure {v : V} {u : Value} {rd : List Nat} (hob : ObsR w E F β obs Gk)
    (hst : Stab C k tm obs fresh o v [] rd []) (hs : Src tm fresh o rd v) (hr : (execOp a.eval o).run P w = .ok (.value u) w) (hv : VR w β obs F v u) : OpOk P C k tm obs fresh o a w E β F :=
  ⟨v, [], rd, [], hst, hs, Keys.nil, good_pure hob hr hv⟩

theorem notUndef_some {R : Type} {v : V} {K : V → Option R} {r : R} (h : notUndef v K = some r) : ∀ (R' : Type) (K' : V → Option R'), notUndef v K' = K' v := by
  cases v <;> first
    | cases h
    | exact fun _ _ => rfl

theorem int_of_VR {kk : IntKind} {n : Int} {u : Value} (h : VR w β obs F (.int kk n) u) : u = .int kk n := h
theorem bool_of_VR {b : Bool} {u : Value} (h : VR w β obs F (.bool b) u) : u = .bool b := h

theorem op_move {R : Type} {K : OpK R} {r : R} (hf : FR C w E β tm obs a F Gk) {x : Operand} (ho : o.op = .move x ∨ o.op = .assign x) (h : opK C k tm obs fresh o K = some r) : OpOk P C k tm obs fresh o a w E β F := by
  have hx : x ∈ o.op.operands := by rcases ho with ho | ho <;> rw [ho] <;> simp [Op.operands]
  have e : ∀ (tm' : List (Nat × V)) (obs' : List (Nat × Ob)) (R' : Type) (K' : OpK R'), opK C k tm' obs' fresh o K' = notUndef (opnd tm' x) fun v => K' v [] [] [] := by
    intro tm' obs' R' K'
    rcases ho with ho | ho <;> (unfold opK; rw [ho])
  rw [e] at h
  refine opOk_pure (rd := []) hf.ob (fun tm' obs' ht _ R' K' => ?_) (Src.same hx) (u := a.eval x) ?_ (opnd_rel hf x)
  · rw [e, ht x hx]; exact notUndef_some h R' _
  · rcases ho with ho | ho <;> simp [execOp, ho]

theorem op_pick {R : Type} {K : OpK R} {r : R} (hf : FR C w E β tm obs a F Gk) {c x y : Operand} (ho : o.op = .pick c x y) (h : opK C k tm obs fresh o K = some r) : OpOk P C k tm obs fresh o a w E β F := by
  have hc : c ∈ o.op.operands := by rw [ho]; simp [Op.operands]
  have hx : x ∈ o.op.operands := by rw [ho]; simp [Op.operands]
  have hy : y ∈ o.op.operands := by rw [ho]; simp [Op.operands]
  unfold opK at h
  simp only [ho] at h
  have hcr := opnd_rel hf c
  split at h
  · rename_i b hb
    rw [hb] at hcr
    have hcr' := bool_of_VR hcr
    cases b with
    | true =>
      refine opOk_pure (rd := []) hf.ob (fun tm' obs' ht _ R' K' => ?_) (Src.same hx) (u := a.eval x) ?_ (opnd_rel hf x)
      · unfold opK; simp only [ho, ht c hc, hb, ht x hx]; exact notUndef_some h R' _
      · simp [execOp, ho, hcr', asBool]
    | false =>
      refine opOk_pure (rd := []) hf.ob (fun tm' obs' ht _ R' K' => ?_) (Src.same hy) (u := a.eval y) ?_ (opnd_rel hf y)
      · unfold opK; simp only [ho, ht c hc, hb, ht y hy]; exact notUndef_some h R' _
      · simp [execOp, ho, hcr', asBool]
  · cases h

theorem op_nilCheck {R : Type} {K : OpK R} {r : R} (hf : FR C w E β tm obs a F Gk) {x : Operand} (ho : o.op = .nilCheck x) (h : opK C k tm obs fresh o K = some r) : OpOk P C k tm obs fresh o a w E β F := by
  have hx : x ∈ o.op.operands := by rw [ho]; simp [Op.operands]
  unfold opK at h
  simp only [ho] at h
  have hr := opnd_rel hf x
  split at h
  · rename_i q i j hb
    have hr' := hr
    rw [hb] at hr'
    obtain ⟨ad, hu, _⟩ := id hr'
    refine opOk_pure (rd := []) hf.ob (fun tm' obs' ht _ R' K' => ?_) (Src.same hx) (u := a.eval x) ?_ hr
    · unfold opK; simp only [ho, ht x hx, hb]
    · simp [execOp, ho, hu]
  · rename_i τ y j hb
    have hr' := hr
    rw [hb] at hr'
    obtain ⟨b, off, row, G, hu, _⟩ := id hr'
    refine opOk_pure (rd := []) hf.ob (fun tm' obs' ht _ R' K' => ?_) (Src.same hx) (u := a.eval x) ?_ hr
    · unfold opK; simp only [ho, ht x hx, hb]
    · simp [execOp, ho, hu]
  · cases h

theorem All2.get {α β : Type} {R : α → β → Prop} : ∀ {as : List α} {bs : List β}, All2 R as bs → ∀ (i : Nat) (x : α), as[i]? = some x → ∃ y, bs[i]? = some y ∧ R x y
  | _, _, .nil, i, x, h => by simp at h
  | _, _, .cons h _, 0, x, hx => by simp at hx; subst hx; exact ⟨_, rfl, h⟩
  | _, _, .cons _ h, i + 1, x, hx => by simpa using All2.get h i x (by simpa using hx)

theorem refsOfA_le {vs : List V} {i : Nat} {v : V} (h : vs[i]? = some v) (hv : refsOf v = refsOfA v) : ∀ r ∈ refsOf v, r ∈ refsOf (.tup vs) := by
  intro r hr
  rw [hv] at hr
  exact List.mem_flatMap.2 ⟨v, List.mem_of_getElem? h, hr⟩

theorem Src.of {x : Operand} {v : V} {rd : List Nat} (hx : x ∈ o.op.operands) (h : ∀ r ∈ refsOf v, r ∈ refsOf (opnd tm x)) : Src tm fresh o rd v :=
  fun r hr => Src.same hx r (h r hr)

theorem op_extract {R : Type} {K : OpK R} {r : R} (hf : FR C w E β tm obs a F Gk) {x : Operand} {i : Nat} (ho : o.op = .extract x i) (h : opK C k tm obs fresh o K = some r) : OpOk P C k tm obs fresh o a w E β F := by
  have hx : x ∈ o.op.operands := by rw [ho]; simp [Op.operands]
  unfold opK at h
  simp only [ho] at h
  have hr := opnd_rel hf x
  split at h
  · rename_i vs hb
    rw [hb] at hr
    obtain ⟨us, hu, hall⟩ := hr
    split at h
    · rename_i v hv
      obtain ⟨u, hu', hva⟩ := hall.get i v hv
      have hv2 : refsOf v = refsOfA v := by cases v <;> first | rfl | exact hva.elim
      refine opOk_pure (rd := []) hf.ob (fun tm' obs' ht _ R' K' => ?_) (Src.of hx (hb ▸ refsOfA_le hv hv2)) (u := u) ?_ ?_
      · unfold opK; simp only [ho, ht x hx, hb, hv]
      · have : us[i]? = some u := by simpa using hu'
        simp [execOp, ho, hu, Instr.extract, this]
      · cases v <;> first | exact hva | exact hva.elim
    · cases h
  · cases h

/-! ### Numbers -/
theorem binK_nat {R : Type} (op : BinOp) (x y : V) (K : V → Option R) : binK op x y K = (binK op x y some).bind K := by
  unfold binK
  split <;> first
    | rfl
    | (generalize kbeq _ _ = b; cases b <;> first | rfl | (dsimp only [cond]; split <;> rfl))
    | (split <;> rfl)

theorem binK_sound {op : BinOp} {t : TypeId} {x y v : V} {ux uy : Value} (h : binK op x y some = some v) (hx : VR w β obs F x ux) (hy : VR w β obs F y uy) :
    ∃ u, (binOp op t ux uy).run P w = .ok u w ∧ VR w β obs F v u ∧ refsOf v = [] := by
  unfold binK at h
  split at h
  · have e1 := int_of_VR hx; have e2 := int_of_VR hy; subst e1; subst e2
    split at h
    · cases h
    · injection h with h; subst h; refine ⟨_, ?_, rfl, rfl⟩; simp [binOp, Op.shift, *]
  · have e1 := int_of_VR hx; have e2 := int_of_VR hy; subst e1; subst e2
    split at h
    · cases h
    · injection h with h; subst h; refine ⟨_, ?_, rfl, rfl⟩; simp [binOp, Op.shift, *]
  all_goals first
    | cases h
    | (rename_i k n k' n'
       have e1 := int_of_VR hx; have e2 := int_of_VR hy; subst e1; subst e2
       cases hk : kbeq k k' with
       | false => rw [hk] at h; cases h
       | true =>
         rw [hk] at h
         have := kbeq_eq hk
         subst this
         simp only [cond] at h
         first
           | (injection h with h; subst h; refine ⟨_, ?_, rfl, rfl⟩; simp [binOp, Op.intArith, Op.intBits, Op.intCmp])
           | (split at h
              · cases h
              · injection h with h; subst h; refine ⟨_, ?_, rfl, rfl⟩; simp [binOp, Op.intDiv, *]))

theorem eqGuard_int (op : BinOp) (t : TypeId) (x y : Operand) (kk : IntKind) (n : Int) (u : Value) : (eqGuard op t x y (.int kk n) u).run P w = .ok () w := by
  cases op <;> simp [eqGuard]

theorem unK_nat {R : Type} (op : UnOp) (x : V) (K : V → Option R) : unK op x K = (unK op x some).bind K := by
  unfold unK
  split <;> rfl

end
end Go.Lf

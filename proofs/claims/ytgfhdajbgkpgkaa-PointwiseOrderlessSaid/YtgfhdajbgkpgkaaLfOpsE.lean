import Derived.Test.YtgfhdajbgkpgkaaLfOpsD
import Derived.Laws.Tables
set_option linter.unusedVariables false
/-! Lf: aggregates that are built. -/
namespace Go.Lf
section
variable {P : Program} {C : Ctx} {k : Nat} {tm : List (Nat × V)} {obs : List (Nat × Ob)} {fresh : Nat} {o : Oper} {a : Act} {w : World} {E : Bs} {β : Nat → Option (Nat × Nat)} {F : Bs} {Gk : Nat → Bs}

theorem fields_rel {v : V} {u : Value} (h : VR w β obs F v u) (hl : leafies v.fields = true) : All2 (VRl w β obs F) v.fields u.cells.toList := by
  cases v with
  | agg fs =>
    obtain ⟨us, hu, hall⟩ := h
    subst hu
    exact hall
  | undef => simp [V.fields, leafies, leafy] at hl
  | int => have e := int_of_VR h; subst e; exact .cons rfl .nil
  | bool => have e := bool_of_VR h; subst e; exact .cons rfl .nil
  | nilp => have e : u = .pointer none := h; subst e; exact .cons rfl .nil
  | nils =>
    obtain ⟨ad, e⟩ := h; subst e; exact .cons ⟨ad, rfl⟩ .nil
  | sl τ l =>
    obtain ⟨G, hE, ad, cap, e, hd⟩ := h
    injection e with e; subst e
    exact .cons ⟨G, hE, ad, cap, rfl, hd⟩ .nil
  | ip τ x j =>
    obtain ⟨b, off, row, G, e, h⟩ := h
    subst e
    exact .cons ⟨b, off, row, G, rfl, h⟩ .nil
  | hs r off n wh =>
    obtain ⟨ad, cap, e, h⟩ := h
    subst e
    exact .cons ⟨ad, cap, rfl, h⟩ .nil
  | hp r i j =>
    obtain ⟨ad, e, h⟩ := h
    subst e
    exact .cons ⟨ad, rfl, h⟩ .nil
  | ow => simp [V.fields, leafies, leafy] at hl
  | bx => simp [V.fields, leafies, leafy] at hl
  | tup => simp [V.fields, leafies, leafy] at hl
  | fn => simp [V.fields, leafies, leafy] at hl

theorem All2.mem {α β : Type} {R : α → β → Prop} {as : List α} {bs : List β} (h : All2 R as bs) : ∀ a ∈ as, ∃ b, R a b := by
  induction h with
  | nil => intro a ha; cases ha
  | cons h _ ih =>
    intro a ha
    rcases List.mem_cons.1 ha with rfl | ha
    · exact ⟨_, h⟩
    · exact ih a ha

theorem set_rel {R : V → Value → Prop} {cs vs : List V} {cells ucs : Array Value} {off : Nat} (h : All2 R cs cells.toList) (hv : All2 R vs ucs.toList) (hle : off + vs.length ≤ cs.length) :
    All2 R (setAt off vs cs) ((ucs.toList.zipIdx 0).foldl (fun cs (x : Value × Nat) => cs.setIfInBounds (off + x.2) x.1) cells).toList := by
  obtain ⟨h1, h2⟩ := Great.foldl_set off ucs.toList 0 cells
  have hl := h.length
  have hvl := hv.length
  have hsl := setAt_length (j := off) (vs := vs) (fs := cs) hle
  refine All2.of_get (by rw [hsl, ← hl]; simpa using h1.symm) fun q x y hx hy => ?_
  rw [Array.getElem?_toList, h2 q] at hy
  rw [Array.length_toList] at hl
  unfold setAt at hx
  rw [List.getElem?_append, List.getElem?_append] at hx
  simp only [List.length_append, List.length_take] at hx
  have hm : min off cs.length = off := by omega
  rw [hm] at hx
  simp only [Nat.add_zero] at hy
  by_cases c1 : q < off
  · rw [if_pos (by omega), if_pos c1, List.getElem?_take, if_pos c1] at hx
    rw [if_neg (by omega)] at hy
    obtain ⟨y', hy', hr⟩ := h.get q x hx
    rw [Array.getElem?_toList, hy] at hy'; injection hy' with hy'; subst hy'
    exact hr
  · by_cases c2 : q < off + vs.length
    · rw [if_pos c2, if_neg c1] at hx
      rw [if_pos (by omega)] at hy
      obtain ⟨y', hy', hr⟩ := hv.get (q - off) x hx
      rw [hy] at hy'; injection hy' with hy'; subst hy'
      exact hr
    · rw [if_neg c2, List.getElem?_drop] at hx
      rw [if_neg (by omega)] at hy
      have e : off + vs.length + (q - (off + vs.length)) = q := by omega
      rw [e] at hx
      obtain ⟨y', hy', hr⟩ := h.get q x hx
      rw [Array.getElem?_toList, hy] at hy'; injection hy' with hy'; subst hy'
      exact hr

theorem fill_rel {fs : List (Nat × Nat)} {rf : V → Prop} : ∀ (l : List (Nat × V)) (us : List (Nat × Value)) {cs cs' : List V} {cells : Array Value}, fillAgg fs l cs = some cs' → All2 (fun (p : Nat × V) (q : Nat × Value) => p.1 = q.1 ∧ VR w β obs F p.2 q.2) l us →
    All2 (VRl w β obs F) cs cells.toList → (∀ v ∈ cs, rf v) → (∀ p ∈ l, ∀ v ∈ p.2.fields, leafies p.2.fields = true → rf v) →
    ∃ cells', Instr.fill (fun i => fs[i]?) cells us = some cells' ∧ All2 (VRl w β obs F) cs' cells'.toList ∧ ∀ v ∈ cs', rf v
  | [], us, cs, cs', cells, h, hu, hc, hr, _ => by
    cases hu
    injection h with h; subst h
    exact ⟨cells, rfl, hc, hr⟩
  | (f, v) :: l, us, cs, cs', cells, h, hu, hc, hr, hl => by
    cases hu with
    | cons hp hu =>
      rename_i q us
      obtain ⟨g, u⟩ := q
      obtain ⟨e, hv⟩ := hp
      have e : f = g := e
      have hv : VR w β obs F v u := hv
      subst e
      simp only [fillAgg] at h
      split at h
      · rename_i off n hf
        cases hb : Nat.beq v.fields.length n && leafies v.fields && Nat.ble (off + n) cs.length with
        | false => rw [hb] at h; cases h
        | true =>
          rw [hb] at h
          rw [Bool.and_eq_true, Bool.and_eq_true] at hb
          have hn : v.fields.length = n := Nat.eq_of_beq_eq_true hb.1.1
          have hle := Nat.le_of_ble_eq_true hb.2
          have hvf : All2 (VRl w β obs F) v.fields u.cells.toList := fields_rel hv hb.1.2
          have hvl := hvf.length
          have hcl := hc.length
          have hset := set_rel (off := off) hc hvf (by omega)
          have hin : ∀ x ∈ setAt off v.fields cs, rf x := by
            intro x hx
            unfold setAt at hx
            rcases List.mem_append.1 hx with hx | hx
            · rcases List.mem_append.1 hx with hx | hx
              · exact hr x (List.mem_of_mem_take hx)
              · exact hl (f, v) (by simp) x hx hb.1.2
            · exact hr x (List.mem_of_mem_drop hx)
          obtain ⟨cells', h1, h2, h3⟩ := fill_rel (rf := rf) l us h hu hset hin (fun p hp => hl p (List.mem_cons_of_mem _ hp))
          refine ⟨cells', ?_, h2, h3⟩
          simp only [Instr.fill, hf]
          rw [Array.length_toList] at hvl hcl
          have c1 : u.cells.size = n := by omega
          have c2 : ¬ off + u.cells.size > cells.size := by omega
          simp only [c1, ne_eq, not_true_eq_false, decide_false, Bool.false_or]
          rw [if_neg (by simpa [c1] using c2), ← h1, ← Array.foldl_toList, Array.toList_zipIdx]
      · cases h

theorem z0_rel {v : V} {u : Value} (h : Z0 v u) : VRl w β obs F v u := by
  cases v with
  | undef => trivial
  | int => exact h
  | bool => exact h
  | nilp => exact h
  | nils => exact ⟨none, h⟩
  | _ => exact h.elim

theorem z0_refs {v : V} {u : Value} (h : Z0 v u) : refOf v = [] := by
  cases v <;> first | rfl | exact h.elim

theorem leaf_mem_refs {x : Operand} {v : V} (hl : leafies (opnd tm x).fields = true) (hv : v ∈ (opnd tm x).fields) : ∀ r ∈ refOf v, r ∈ refsOf (opnd tm x) := by
  intro r hr
  generalize opnd tm x = z at *
  cases z with
  | agg fs => exact List.mem_flatMap.2 ⟨v, hv, hr⟩
  | fn => simp [V.fields, leafies, leafy] at hl
  | tup => simp [V.fields, leafies, leafy] at hl
  | _ =>
    simp only [V.fields, List.mem_singleton] at hv
    subst hv
    exact hr

theorem op_build {R : Type} {K : OpK R} {r : R} (hT : TisOk P C) (hf : FR C w E β tm obs a F Gk) {t : TypeId} {parts : Array (Nat × Operand)} (ho : o.op = .build t parts) (h : opK C k tm obs fresh o K = some r) : OpOk P C k tm obs fresh o a w E β F := by
  unfold opK at h
  simp only [ho] at h
  have hop : ∀ p ∈ parts.toList, p.2 ∈ o.op.operands := by
    intro p hp
    rw [ho]; simp [Op.operands]
    exact ⟨p.1, Array.mem_toList_iff.1 hp⟩
  split at h
  · rename_i i hi
    have hk := (hT t i hi).kind
    obtain ⟨z, inf, hinf, hsz, _, hz, hza, _⟩ := (hT t i hi).info
    split at h
    · rename_i fs hik
      rw [hik] at hk
      obtain ⟨fields, hu, hfl⟩ := hk
      split at h
      · rename_i cs hcs
        have hpl : ∀ (fs : List (Nat × Nat)) (fl : List Field), All2 (fun (p : Nat × Nat) (f : Field) => f.offset = p.1 ∧ p.2 ≠ 0 ∧ (∃ inf, P.info? f.type = some inf ∧ inf.size = p.2) ∧ ∃ d, P.underlying f.type = some d ∧ isAggD d = !Nat.beq p.2 1) fs fl →
            fl.mapM (fun f => (P.info? f.type).map fun i => (f.offset, i.size)) = some fs := by
          intro fs fl h
          induction h with
          | nil => rfl
          | cons h _ ih =>
            obtain ⟨e1, _, ⟨inf, e2, e3⟩, _⟩ := h
            simp [List.mapM_cons, e2, ih, e1, e3]
        obtain ⟨cells', hfill, hall, hrf⟩ := fill_rel (w := w) (β := β) (obs := obs) (F := F) (rf := fun v => ∀ r ∈ refOf v, ∃ x ∈ o.op.operands, r ∈ refsOf (opnd tm x)) _ (parts.toList.map fun p => (p.1, a.eval p.2)) hcs
          (by
            refine All2.of_get (by simp) fun i x y hx hy => ?_
            rw [List.getElem?_map] at hx hy
            cases hp : parts.toList[i]? with
            | none => rw [hp] at hx; cases hx
            | some p =>
              rw [hp] at hx hy
              injection hx with hx; injection hy with hy; subst hx; subst hy
              exact ⟨rfl, opnd_rel hf p.2⟩)
          (cells := z.cells) (hza.imp fun v u _ hvu => z0_rel hvu)
          (by
            intro v hv r hr
            obtain ⟨u, hu'⟩ := hza.mem v hv
            rw [z0_refs hu'] at hr; cases hr)
          (by
            intro p hp v hv hl r hr
            obtain ⟨q, hq, rfl⟩ := List.mem_map.1 hp
            exact ⟨q.2, hop q hq, leaf_mem_refs hl hv r hr⟩)
        have hb : P.built t (parts.map fun (i, x) => (i, a.eval x)).toList = some cells' := by
          unfold Program.built
          simp only [hinf, hu, hz, hpl fs _ hfl]
          rw [← hfill]
          simp
        refine opOk_pure (rd := []) hf.ob (fun tm' obs' ht hr R' K' => ?_) ?_ (v := .agg cs) (u := .agg cells') ?_ ⟨_, rfl, hall⟩
        · unfold opK
          have : (parts.toList.map fun p => (p.1, opnd tm' p.2)) = parts.toList.map fun p => (p.1, opnd tm p.2) := List.map_congr_left fun p hp => by rw [ht p.2 (hop p hp)]
          simp only [ho, hi, hik, this, hcs]
        · intro r hr
          obtain ⟨v, hv, hr⟩ := List.mem_flatMap.1 (show r ∈ cs.flatMap refOf from hr)
          obtain ⟨x, hx, hrx⟩ := hrf v hv r hr
          exact Src.same hx r hrx
        · simp [execOp, ho, run_build w t _ cells' hb]
      · cases h
    · cases h
  · cases h

end
end Go.Lf

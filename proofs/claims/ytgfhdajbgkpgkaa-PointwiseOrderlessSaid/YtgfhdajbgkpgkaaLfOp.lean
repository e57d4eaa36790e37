import Derived.Test.YtgfhdajbgkpgkaaLfCall3
set_option linter.unusedVariables false
/-! Lf: any operation. -/
namespace Go.Lf

section
variable {P : Program} {C : Ctx} {k : Nat} {tm : List (Nat × V)} {obs : List (Nat × Ob)} {fresh : Nat} {o : Oper} {a : Act} {w : World} {E : Bs} {β : Nat → Option (Nat × Nat)} {F : Bs} {Gk : Nat → Bs}

theorem op_call {R : Type} {K : OpK R} {r : R} (hE : EnvOk P C) (hf : FR C w E β tm obs a F Gk) (hfr : Free obs fresh) {c : Call} {x : Operand} (ho : o.op = .call c) (hc : c.callee = .value x) (h : opK C k tm obs fresh o K = some r) : OpOk P C k tm obs fresh o a w E β F := by
  have hop : o.op.operands = #[x] ++ c.args := by rw [ho]; simp [Op.operands, Call.operands, hc]
  have hx : x ∈ o.op.operands := by rw [hop]; simp
  have hargs : ∀ y ∈ c.args.toList, y ∈ o.op.operands := fun y hy => by rw [hop]; simp; exact .inr (Array.mem_toList_iff.1 hy)
  unfold opK at h
  simp only [ho, hc] at h
  split at h
  · rename_i f caps hb
    split at h
    · rename_i S hS
      obtain ⟨hid, hsound⟩ := hE f S hS
      have rx := opnd_rel hf x
      rw [hb] at rx
      obtain ⟨us, hu, hall⟩ := rx
      have hv : All2 (VR w β obs F) (c.args.toList.map (opnd tm) ++ caps) (c.args.toList.map a.eval ++ us.toList) :=
        All2.append (All2.maps fun y _ => opnd_rel hf y) (hall.imp fun v u _ h => h.vr)
      obtain ⟨v, d, rd, iv, hst, hrefs, hkeys, hcalls⟩ := callK_ok hf.ob hfr hsound hv h
      refine ⟨v, d, rd, iv, fun tm' obs' ht hd R' K' => ?_, fun r hr => .inl (hrefs r hr), hkeys, fun next Q hnext => ?_⟩
      · unfold opK
        have hm : c.args.toList.map (opnd tm') = c.args.toList.map (opnd tm) := List.map_congr_left fun y hy => ht y (hargs y hy)
        simp only [ho, hc, ht x hx, hb, hS, hm]
        exact hst obs' hd R' K'
      · obtain ⟨fn, hfn, hn, hbody⟩ := hsound.entry
        unfold Oper.wp
        rw [hid] at hfn
        rw [run_call ho hc hu hfn hn hbody, Oper.upon_enter]
        have e : (c.args.map a.eval ++ us) = (c.args.toList.map a.eval ++ us.toList).toArray := by
          apply Array.toList_inj.1
          simp
        rw [e, ← hid]
        refine hcalls.mono fun e w' ⟨u, he, β', F', Gk', h1, h2, h3, h4, h5, h6⟩ => ?_
        subst he
        exact hnext u w' β' F' Gk' h1 h2 h3 h4 h5 h6
    · cases h
  · cases h

theorem op_buildNone {R : Type} {K : OpK R} {r : R} (hT : TisOk P C) (hf : FR C w E β tm obs a F Gk) {t : TypeId} {parts : Array (Nat × Operand)} (ho : o.op = .buildSlice t 0 parts) (h : opK C k tm obs fresh o K = some r) : OpOk P C k tm obs fresh o a w E β F := by
  unfold opK at h
  simp only [ho] at h
  split at h
  · rename_i q he hp
    obtain ⟨e, bytes, τ, zero⟩ := q
    obtain ⟨inf, z, hu, hi, hsz, _, _, hz, _, _⟩ := elemOf_spec hT he
    refine ⟨.nils, [], [], [], fun tm' obs' ht hd R' K' => ?_, Src.none rfl, Keys.nil, fun next Q hnext => ?_⟩
    · unfold opK; simp only [ho, he, hp]
    · have hpe : parts = #[] := Array.toList_inj.1 (by simpa using hp)
      have hrun : (execOp a.eval o).run P w = .ok (.value (.slice (some ⟨w.heap.size, 0, none⟩) 0 0)) (w.alloc (.cells #[] e)) := by
        simp [execOp, ho, hpe, Instr.buildSlice, run_underlying hu, sizeOf, typeInfo, hi, newRow, Instr.fill, show Array.range 0 = #[] from rfl]
      unfold Oper.wp
      rw [hrun, Oper.upon_value]
      have hold : ∀ b, b < w.heap.size → (w.alloc (.cells #[] e)).heap[b]? = w.heap[b]? := fun b hb => alloc_old w _ hb
      have hlt := obs_lt hf.ob.a
      have hst : ∀ G : Bs, (∀ b, G b → F b) → Stay w F (w.alloc (.cells #[] e)) F G := fun G hG => ⟨by simp, fun b hb => hold b (hlt b (hG b hb)), fun b _ hb => hold b hb, fun b hb => .inl hb⟩
      refine hnext _ _ β F Gk ⟨fun q o' hq => (hf.ob.rel q o' hq).keep (hst _ fun b hb => (hf.ob.cov b).2 (.inr ⟨q, o', hq, hb⟩)), hf.ob.dj, hf.ob.cov, hf.ob.out, fun b hb => Nat.lt_of_lt_of_le (hf.ob.elt b hb) (by simp)⟩
        ⟨_, rfl⟩ (alloc_apart w _) (hst _ fun _ h => h.elim) (fun b hb => hold b (hf.ob.elt b hb)) fun r _ _ => ?_
      exact RefKeep.of_stay (FA' := F) hf.ob.a rfl rfl fun o' ho' => hst _ fun b hb => (hf.ob.cov b).2 (.inr ⟨r.root, o', ho', hb⟩)
  · cases h

theorem op_ok {R : Type} {K : OpK R} {r : R} (hT : TisOk P C) (hE : EnvOk P C) (hf : FR C w E β tm obs a F Gk) (hfr : Free obs fresh) (h : opK C k tm obs fresh o K = some r) : OpOk P C k tm obs fresh o a w E β F := by
  cases ho : o.op with
  | move x => exact op_move hf (.inl ho) h
  | assign x => exact op_move hf (.inr ho) h
  | pick c x y => exact op_pick hf ho h
  | alloc e => exact op_alloc hT hf hfr ho h
  | box e x => exact op_box hf hfr ho h
  | build t ps => exact op_build hT hf ho h
  | buildSlice t n ps =>
    cases n with
    | zero => exact op_buildNone hT hf ho h
    | succ n => exact op_buildSlice hT hf hfr ho h
  | load t x => exact op_load hT hf ho h
  | store t x y => exact op_store hT hf ho h
  | nilCheck x => exact op_nilCheck hf ho h
  | binOp op t x y t' => exact op_binOp hT hf ho h
  | unOp op t x => exact op_unOp hf ho h
  | convert s t x => exact op_convert hT hf ho h
  | makeSlice t x y => exact op_makeSlice hT hf hfr ho h
  | slice t x lo hi mx => exact op_slice hT hf ho h
  | fieldAddr s x f => exact op_fieldAddr hT hf ho h
  | field s x f => exact op_field hT hf ho h
  | indexAddr t x y => exact op_indexAddr hT hf ho h
  | extract x i => exact op_extract hf ho h
  | makeFunc f first caps =>
    cases f with
    | func f => exact op_makeFunc hf ho h
    | _ => unfold opK at h; simp only [ho] at h; cases h
  | call c =>
    cases hc : c.callee with
    | value x => exact op_call hE hf hfr ho hc h
    | invoke x m => unfold opK at h; simp only [ho, hc] at h; cases h
    | builtin b =>
      cases b with
      | len => exact op_len hT hf ho hc h
      | append => exact op_append hT hf hfr ho hc h
      | max => exact op_minMax hf ho (.inl hc) h
      | min => exact op_minMax hf ho (.inr hc) h
      | _ => unfold opK at h; simp only [ho, hc] at h; cases h
  | _ => unfold opK at h; simp only [ho] at h; cases h
end
end Go.Lf

import Derived.Test.YtgfhdajbgkpgkaaLfOpsB
set_option linter.unusedVariables false
/-! Lf: slices, fields, aggregates. -/
namespace Go.Lf
section
variable {P : Program} {C : Ctx} {k : Nat} {tm : List (Nat × V)} {obs : List (Nat × Ob)} {fresh : Nat} {o : Oper} {a : Act} {w : World} {E : Bs} {β : Nat → Option (Nat × Nat)} {F : Bs} {Gk : Nat → Bs}

theorem All2.drop {α β : Type} {R : α → β → Prop} : ∀ {as : List α} {bs : List β} (n : Nat), All2 R as bs → All2 R (as.drop n) (bs.drop n)
  | _, _, 0, h => h
  | _, _, n + 1, .nil => .nil
  | _, _, n + 1, .cons _ h => h.drop n

theorem All2.take {α β : Type} {R : α → β → Prop} : ∀ {as : List α} {bs : List β} (n : Nat), All2 R as bs → All2 R (as.take n) (bs.take n)
  | _, _, 0, _ => .nil
  | _, _, n + 1, .nil => .nil
  | _, _, n + 1, .cons h t => .cons h (t.take n)

theorem All2.append {α β : Type} {R : α → β → Prop} {as as' : List α} {bs bs' : List β} (h : All2 R as bs) (h' : All2 R as' bs') : All2 R (as ++ as') (bs ++ bs') := by
  induction h with
  | nil => exact h'
  | cons h _ ih => exact .cons h ih

theorem leaf_refs {v : V} {u : Value} (h : VRl w β obs F v u) : refsOf v = refOf v ∧ (∀ u', VRl w β obs F v u' → VR w β obs F v u') := by
  cases v <;> first
    | exact ⟨rfl, fun _ h => h⟩
    | exact h.elim

theorem op_field {R : Type} {K : OpK R} {r : R} (hT : TisOk P C) (hf : FR C w E β tm obs a F Gk) {s : TypeId} {x : Operand} {f : Nat} (ho : o.op = .field s x f) (h : opK C k tm obs fresh o K = some r) : OpOk P C k tm obs fresh o a w E β F := by
  have hx : x ∈ o.op.operands := by rw [ho]; simp [Op.operands]
  have rx := opnd_rel hf x
  unfold opK at h
  simp only [ho] at h
  have hs := kindOf_ok hT s
  split at h
  · rename_i fs vs hk hb
    rw [hk] at hs
    have rx' := rx
    rw [hb] at rx'
    obtain ⟨us, hu, hall⟩ := rx'
    obtain ⟨fields, hun, hfl⟩ := hs
    split at h
    · rename_i off n hfs
      obtain ⟨fd, hfd, ho1, hn0, ⟨inf, hi, hsz⟩, d, hud, hagg⟩ := hfl.get f (off, n) hfs
      have ho1 : fd.offset = off := ho1
      have hsz : inf.size = n := hsz
      have hfd' : fields[f]? = some fd := by simpa using hfd
      cases hle : Nat.ble (off + n) vs.length with
      | false => rw [hle] at h; cases h
      | true =>
        rw [hle] at h
        have hle' := Nat.le_of_ble_eq_true hle
        simp only [cond] at h
        have hin : ∀ v ∈ vs, ∀ r ∈ refOf v, r ∈ refsOf (opnd tm x) := by
          intro v hv r hr
          rw [hb]
          exact List.mem_flatMap.2 ⟨v, hv, hr⟩
        cases h1 : Nat.beq n 1 with
        | true =>
          rw [h1] at h
          have hd : isAggD d = false := by rw [hagg]; show (!Nat.beq n 1) = false; rw [h1]; rfl
          have hia : (isAgg fd.type).run P w = .ok false w := by cases d <;> simp_all [isAgg, run_underlying hud, isAggD]
          simp only at h
          cases hv : vs[off]? with
          | none => rw [hv] at h; cases h
          | some v =>
            obtain ⟨u, hu1, hvr⟩ := hall.get off v hv
            have hu2 : us[off]? = some u := by simpa using hu1
            obtain ⟨hrf, hup⟩ := leaf_refs hvr
            refine opOk_pure (rd := []) hf.ob (fun tm' obs' ht hr R' K' => ?_) (Src.of hx fun r hr => hin v (List.mem_of_getElem? hv) r (hrf ▸ hr)) (v := v) (u := u) ?_ (hup u hvr)
            · unfold opK; simp only [ho, ht x hx, hk, hb, hfs, hle, cond, h1, hv]
            · simp [execOp, ho, hu, Instr.field, run_underlying hun, hfd', asAgg, part, hia, ho1, hu2]
        | false =>
          have hd : isAggD d = true := by rw [hagg]; show (!Nat.beq n 1) = true; rw [h1]; rfl
          have hia : (isAgg fd.type).run P w = .ok true w := by cases d <;> simp_all [isAgg, run_underlying hud, isAggD]
          refine opOk_pure (rd := []) hf.ob (fun tm' obs' ht hr R' K' => ?_) (Src.of hx ?_) (v := .agg ((vs.drop off).take n)) (u := .agg (us.extract off (off + n))) ?_ ?_
          · unfold opK; simp only [ho, ht x hx, hk, hb, hfs, hle, cond, h1]
          · intro r hr
            obtain ⟨v, hv, hr⟩ := List.mem_flatMap.1 (show r ∈ ((vs.drop off).take n).flatMap refOf from hr)
            exact hin v (List.mem_of_mem_drop (List.mem_of_mem_take hv)) r hr
          · simp [execOp, ho, hu, Instr.field, run_underlying hun, hfd', asAgg, part, hia, ho1, sizeOf, typeInfo, hi, hsz]
          · refine ⟨_, rfl, ?_⟩
            have : (us.extract off (off + n)).toList = (us.toList.drop off).take n := by simp
            rw [this]
            exact (hall.drop off).take n
    · cases h
  · cases h

theorem leafies_spec {vs : List V} (h : leafies vs = true) : ∀ v ∈ vs, leafy v = true := by
  induction vs with
  | nil => intro v hv; cases hv
  | cons x vs ih =>
    simp only [leafies, Bool.and_eq_true] at h
    intro v hv
    rcases List.mem_cons.1 hv with rfl | hv
    · exact h.1
    · exact ih h.2 v hv

theorem VR.leaf {v : V} {u : Value} (h : VR w β obs F v u) (hl : leafy v = true) : VRl w β obs F v u := by
  cases v <;> first | exact h | cases hl

theorem op_makeFunc {R : Type} {K : OpK R} {r : R} (hf : FR C w E β tm obs a F Gk) {f : FuncId} {first caps : Array Operand} (ho : o.op = .makeFunc (.func f) first caps) (h : opK C k tm obs fresh o K = some r) : OpOk P C k tm obs fresh o a w E β F := by
  unfold opK at h
  simp only [ho] at h
  split at h
  · rename_i hfi
    have hfi' : first = #[] := Array.toList_eq_nil_iff.1 hfi
    subst hfi'
    cases hl : leafies (caps.toList.map (opnd tm)) with
    | false => rw [hl] at h; cases h
    | true =>
      have hop : ∀ x ∈ caps.toList, x ∈ o.op.operands := fun x hx => by rw [ho]; simp [Op.operands]; exact Array.mem_toList_iff.1 hx
      have hls := leafies_spec hl
      refine opOk_pure (rd := []) hf.ob (fun tm' obs' ht _ R' K' => ?_) ?_ (v := .fn f (caps.toList.map (opnd tm))) (u := .func (.func f) #[] (caps.map a.eval)) ?_ ?_
      · unfold opK
        have : caps.toList.map (opnd tm') = caps.toList.map (opnd tm) := List.map_congr_left fun x hx => ht x (hop x hx)
        simp only [ho, this, hl, cond]
      · intro r hr
        obtain ⟨v, hv, hr⟩ := List.mem_flatMap.1 (show r ∈ (caps.toList.map (opnd tm)).flatMap refOf from hr)
        obtain ⟨x, hx, rfl⟩ := List.mem_map.1 hv
        refine Src.same (o := o) (hop x hx) r ?_
        have := (leaf_refs (VR.leaf (opnd_rel hf x) (hls _ hv))).1
        rw [this]; exact hr
      · simp [execOp, ho, Instr.makeFunc]
      · refine ⟨caps.map a.eval, rfl, ?_⟩
        rw [Array.toList_map]
        refine All2.of_get (by simp) fun i v u hv hu => ?_
        rw [List.getElem?_map] at hv hu
        cases hx : caps.toList[i]? with
        | none => rw [hx] at hv; cases hv
        | some x =>
          rw [hx] at hv hu
          injection hv with hv; injection hu with hu; subst hv; subst hu
          exact VR.leaf (opnd_rel hf x) (hls _ (List.mem_map.2 ⟨x, List.mem_of_getElem? hx, rfl⟩))
  · cases h

end
end Go.Lf

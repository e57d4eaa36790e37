import Derived.Test.YtgfhdajbgkpgkaaLfOpsA
set_option linter.unusedVariables false
/-! Lf: places, loads. -/
namespace Go.Lf
section
variable {P : Program} {C : Ctx} {k : Nat} {tm : List (Nat × V)} {obs : List (Nat × Ob)} {fresh : Nat} {o : Oper} {a : Act} {w : World} {E : Bs} {β : Nat → Option (Nat × Nat)} {F : Bs} {Gk : Nat → Bs}

theorem ix_add (o : Ob) (i j n : Nat) : ix o i (j + n) = ix o i j + n := by
  cases o <;> simp [ix, Nat.add_assoc]

theorem Src.via {x : Operand} {v : V} {rd : List Nat} {q : Ref} (hx : x ∈ o.op.operands) (hq : q ∈ refsOf (opnd tm x)) (hrd : q.root ∈ rd) (h : ∀ r ∈ refsOf v, r.root = q.root) : Src tm fresh o rd v :=
  fun r hr => .inr ⟨x, hx, q, hq, (h r hr).symm, .inr (.inl ((h r hr).symm ▸ hrd))⟩

theorem Src.eqRef {x : Operand} {v : V} {rd : List Nat} {q : Ref} (hx : x ∈ o.op.operands) (hq : q ∈ refsOf (opnd tm x)) (h : ∀ r ∈ refsOf v, r = q) : Src tm fresh o rd v :=
  Src.of hx fun r hr => (h r hr) ▸ hq

theorem op_fieldAddr {R : Type} {K : OpK R} {r : R} (hT : TisOk P C) (hf : FR C w E β tm obs a F Gk) {s : TypeId} {x : Operand} {f : Nat} (ho : o.op = .fieldAddr s x f) (h : opK C k tm obs fresh o K = some r) : OpOk P C k tm obs fresh o a w E β F := by
  have hx : x ∈ o.op.operands := by rw [ho]; simp [Op.operands]
  have rx := opnd_rel hf x
  unfold opK at h
  simp only [ho] at h
  have hs := kindOf_ok hT s
  have step : ∀ (fs : List (Nat × Nat)) (off n : Nat) (ad : Addr), KindOk P s (.struct fs) → fs[f]? = some (off, n) → (Instr.fieldAt s (.pointer (some ad)) f).run P w = .ok (.pointer (some (ad.add off))) w := by
    intro fs off n ad hk hfs
    obtain ⟨fields, hu, hall⟩ := hk
    obtain ⟨fd, hfd, ho1, hn0, ⟨inf, hi, hsz⟩, _⟩ := hall.get f (off, n) hfs
    have hfd' : fields[f]? = some fd := by simpa using hfd
    have hz : ¬ inf.size = 0 := by rw [hsz]; exact hn0
    simp [Instr.fieldAt, run_underlying hu, hfd', Instr.sureAddr, fieldPlace, sizeOf, typeInfo, hi, hz, ho1]
  split at h
  · rename_i fs q i j hk hb
    rw [hk] at hs
    have rx' := rx
    rw [hb] at rx'
    obtain ⟨ad, hu, hat⟩ := rx'
    split at h
    · rename_i off n hfs
      refine opOk_pure (rd := []) hf.ob (fun tm' obs' ht _ R' K' => ?_) (Src.eqRef hx (q := q) (by rw [hb]; simp [refsOf, refsOfA, refOf]) (fun r hr => by simpa [refsOf, refsOfA, refOf] using hr)) (v := .hp q i (j + off)) (u := .pointer (some (ad.add off))) ?_ ?_
      · unfold opK; simp only [ho, ht x hx, hk, hb, hfs]
      · simp [execOp, ho, hu, step fs off n ad hs hfs]
      · refine ⟨_, rfl, fun o loc hl => ?_⟩
        obtain ⟨b, c, hloc, had⟩ := hat o loc hl
        exact ⟨b, c, hloc, by rw [had, add_none, ix_add, Nat.add_assoc]⟩
    · cases h
  · rename_i fs τ y j hk hb
    rw [hk] at hs
    have rx' := rx
    rw [hb] at rx'
    obtain ⟨b, c, row, G, hu, hF, hrow, hE, hl⟩ := rx'
    split at h
    · rename_i off n hfs
      refine opOk_pure (rd := []) hf.ob (fun tm' obs' ht _ R' K' => ?_) (Src.none rfl) (v := .ip τ y (j + off)) (u := .pointer (some ⟨b, c + j + off, none⟩)) ?_ ?_
      · unfold opK; simp only [ho, ht x hx, hk, hb, hfs]
      · simp [execOp, ho, hu, step fs off n _ hs hfs, add_none]
      · exact ⟨b, c, row, G, by rw [Nat.add_assoc], hF, hrow, hE, hl⟩
    · cases h
  · cases h

/-- The cells of an element. -/
theorem szOk_spec (hT : TisOk P C) {t : TypeId} {τ : Ty} (h : szOk C t τ = true) : ∃ e inf, P.underlying t = some (.slice e) ∧ P.info? e = some inf ∧ inf.size = τ.size := by
  unfold szOk at h
  have hk := kindOf_ok hT t
  split at h
  · rename_i e he
    rw [he] at hk
    split at h
    · rename_i i hi
      obtain ⟨z, inf, h1, h2, _⟩ := (hT e i hi).info
      exact ⟨e, inf, hk, h1, h2.trans (Nat.eq_of_beq_eq_true h)⟩
    · cases h
  · cases h

theorem op_indexAddr {R : Type} {K : OpK R} {r : R} (hT : TisOk P C) (hf : FR C w E β tm obs a F Gk) {t : TypeId} {x y : Operand} (ho : o.op = .indexAddr t x y) (h : opK C k tm obs fresh o K = some r) : OpOk P C k tm obs fresh o a w E β F := by
  have hx : x ∈ o.op.operands := by rw [ho]; simp [Op.operands]
  have hy : y ∈ o.op.operands := by rw [ho]; simp [Op.operands]
  have rx := opnd_rel hf x
  have ry := opnd_rel hf y
  unfold opK at h
  simp only [ho] at h
  have step : ∀ (e : TypeId) (inf : TypeInfo) (ad : Addr) (n cap : Nat) (kk : IntKind) (i : Int), P.underlying t = some (.slice e) → P.info? e = some inf → 0 ≤ i → i < n →
      (Instr.indexAt t (.slice (some ad) n cap) (.int kk i)).run P w = .ok (.pointer (some (ad.add (i.toNat * inf.size)))) w := by
    intro e inf ad n cap kk i hu hi h0 hn
    simp [Instr.indexAt, asIntOf, run_underlying hu, sizeOf, typeInfo, hi, h0, hn]
  split at h
  · rename_i τ l kk i hb hby
    have rx' := rx; rw [hb] at rx'
    have ry' := ry; rw [hby] at ry'
    have ey := int_of_VR ry'
    cases hz : szOk C t τ with
    | false => rw [hz] at h; cases h
    | true =>
      rw [hz] at h
      simp only [cond] at h
      split at h
      · rename_i h0
        obtain ⟨y', hy', _⟩ := some_of_bind h
        obtain ⟨e, inf, hu, hi, hsz⟩ := szOk_spec hT hz
        have hlt : i.toNat < l.length := (List.getElem?_eq_some_iff.1 hy').1
        obtain ⟨G, hE, ad, cap, hux, hd⟩ := rx'
        injection hux with hux
        rcases hd with hd | ⟨b, off, row, had, hF, hrow, hle, hel⟩
        · subst hd; cases hlt
        · obtain ⟨G', hE', hl'⟩ := hel i.toNat y' hy'
          refine opOk_pure (rd := []) hf.ob (fun tm' obs' ht _ R' K' => ?_) (Src.none rfl) (v := .ip τ y' 0) (u := .pointer (some ⟨b, off + i.toNat * τ.size, none⟩)) ?_ ?_
          · unfold opK; simp only [ho, ht x hx, ht y hy, hb, hby, hz, cond, h0, if_true, hy', Option.bind]
          · have hlt' : i < (l.length : Int) := by omega
            simp [execOp, ho, ey, hux, had, step e inf _ l.length (l.length + cap) kk i hu hi h0 hlt', add_none, hsz]
          · exact ⟨b, off + i.toNat * τ.size, row, G', rfl, hF, hrow, hE', hl'⟩
      · cases h
  · rename_i q off n wh kk i hb hby
    have rx' := rx; rw [hb] at rx'
    have ry' := ry; rw [hby] at ry'
    have ey := int_of_VR ry'
    obtain ⟨o1, loc, G, hat, hob1, _, hK, hst⟩ := atRef_ok hf.ob h
    cases o1 with
    | box => cases hK
    | arr τ l =>
      simp only at hK
      cases hz : szOk C t τ with
      | false => rw [hz] at hK; cases hK
      | true =>
        rw [hz] at hK
        simp only [cond] at hK
        split at hK
        · rename_i h0
          obtain ⟨e, inf, hu, hi, hsz⟩ := szOk_spec hT hz
          obtain ⟨ad, cap, hux, hall⟩ := rx'
          obtain ⟨τ', l', e1, hh, hle, _⟩ := hall _ _ hat
          injection e1 with e1 e2; subst e1
          obtain ⟨ad', cap', hux', hd⟩ := hh
          rw [hux] at hux'; injection hux' with h1 h2 h3; subst h1; subst h3
          rcases hd with ⟨hn, _⟩ | ⟨b, c, row, hloc, hrow, had, hnc, hsize⟩
          · omega
          · refine opOk_pure (rd := [q.root]) hf.ob (fun tm' obs' ht hr R' K' => ?_) (Src.eqRef hx (q := q) (by rw [hb]; simp [refsOf, refsOfA, refOf]) (fun r hr => by simpa [refsOf, refsOfA, refOf] using hr)) (v := .hp q (offAdd off i.toNat) 0) (u := .pointer (some ⟨b, c + off * τ.size + i.toNat * τ.size, none⟩)) ?_ ?_
            · unfold opK; simp only [ho, ht x hx, ht y hy, hb, hby]
              rw [hst R' _ obs' (hr _ (.inl (by simp)))]
              simp only [hz, cond, h0, and_self, if_true]
            · simp [execOp, ho, ey, hux, had, step e inf _ n cap kk i hu hi h0.1 h0.2, add_none, hsz]
            · refine ⟨_, rfl, fun o2 loc2 hl2 => ?_⟩
              rw [hat] at hl2; injection hl2 with hl2; injection hl2 with h1 h2; subst h1; subst h2
              refine ⟨b, c, hloc, ?_⟩
              simp only [ix, offAdd, Nat.add_zero]
              rw [Nat.add_mul, Nat.add_comm (i.toNat * τ.size), Nat.add_assoc]
        · cases hK
  · cases h

theorem op_load {R : Type} {K : OpK R} {r : R} (hT : TisOk P C) (hf : FR C w E β tm obs a F Gk) {t : TypeId} {x : Operand} (ho : o.op = .load t x) (h : opK C k tm obs fresh o K = some r) : OpOk P C k tm obs fresh o a w E β F := by
  have hx : x ∈ o.op.operands := by rw [ho]; simp [Op.operands]
  have rx := opnd_rel hf x
  unfold opK at h
  simp only [ho] at h
  split at h
  · cases h
  · rename_i i hi
    have hk := (hT t i hi).kind
    obtain ⟨z, inf, hinf, hsz, _⟩ := (hT t i hi).info
    -- one cell
    have one : ∀ {d : TypeDesc} {u : Value} {ad : Addr}, P.underlying t = some d → isAggD d = false → a.eval x = .pointer (some ad) → w.cell? ad = some u → (execOp a.eval o).run P w = .ok (.value u) w := by
      intro d u ad hu hd he hc
      simp [execOp, ho, he, load_cell hu hd hc]
    have flat : (∃ d, P.underlying t = some d ∧ isAggD d = false) ∨ (∃ fs, i.k = .struct fs) ∨ i.k = .other := by
      cases hik : i.k with
      | int kk => rw [hik] at hk; exact .inl ⟨_, hk, rfl⟩
      | bool => rw [hik] at hk; exact .inl ⟨_, hk, rfl⟩
      | slice e => rw [hik] at hk; exact .inl ⟨_, hk, rfl⟩
      | ptr e => rw [hik] at hk; exact .inl ⟨_, hk, rfl⟩
      | struct fs => exact .inr (.inl ⟨fs, rfl⟩)
      | other => exact .inr (.inr rfl)
    split at h
    · rename_i q e j hb
      have rx' := rx; rw [hb] at rx'
      obtain ⟨ad, hux, hall⟩ := rx'
      obtain ⟨o1, loc, G, hat, hob1, _, hK, hst⟩ := atRef_ok hf.ob h
      obtain ⟨b, off, hloc, had⟩ := hall _ _ hat
      subst hloc
      have hq : q ∈ refsOf (opnd tm x) := by rw [hb]; simp [refsOf, refsOfA, refOf]
      rcases flat with ⟨d, hu, hd⟩ | ⟨fs, hik⟩ | hik
      · have hK' : (o1.leafK e j fun v => notUndef v fun v => K (view q e j v) [] [q.root] []) = some r := by
          cases hik : i.k with
          | struct fs => rw [hik] at hk; obtain ⟨fields, hu', _⟩ := hk; rw [hu] at hu'; injection hu' with hu'; subst hu'; cases hd
          | other => rw [hik] at hK; cases hK
          | _ => rw [hik] at hK; exact hK
        obtain ⟨v, hv, hK2⟩ := leafK_some hK'
        obtain ⟨b', off', u, G1, hl1, _, hcell, hlf, _, _⟩ := leaf_rel hob1 hv
        injection hl1 with hl1; injection hl1 with h1 h2; subst h1; subst h2
        have hvr := view_rel hat hv hcell hlf
        obtain ⟨hrf, hup⟩ := view_leaf (w := w) (β := β) (obs := obs) (F := F) q e j hlf
        refine opOk_pure (rd := [q.root]) hf.ob (fun tm' obs' ht hr R' K' => ?_) (Src.via hx hq (by simp) (view_refs q e j hlf)) (v := view q e j v) (u := u) (one hu hd (by rw [hux, had]) hcell) (hup u hvr)
        unfold opK; simp only [ho, hi, ht x hx, hb]
        rw [hst R' _ obs' (hr _ (.inl (by simp)))]
        have e1 : ∀ K2 : V → Option R', o1.leafK e j K2 = K2 v := fun K2 => leafK_eq hv K2
        cases hik : i.k with
        | struct fs => rw [hik] at hk; obtain ⟨fields, hu', _⟩ := hk; rw [hu] at hu'; injection hu' with hu'; subst hu'; cases hd
        | other => rw [hik] at hK; cases hK
        | _ => simp only; rw [e1]; exact notUndef_some hK2 R' _
      · rw [hik] at hK hk
        obtain ⟨fields, hu, hfl⟩ := hk
        simp only at hK
        obtain ⟨b', off', row, Gm, vs, hl1, hrow, hle, hls, hlen, hget, _, hst2⟩ := leaves_rel hob1 hK
        injection hl1 with hl1; injection hl1 with h1 h2; subst h1; subst h2
        have hagg : All2 (VRl w β obs F) (views q e j vs) (seg row (off + ix o1 e j) i.size) := by
          refine All2.of_get (by rw [views_length, hlen, seg_length hle]) fun p v' u hv' hu' => ?_
          rw [views_get] at hv'
          cases hp : vs[p]? with
          | none => rw [hp] at hv'; cases hv'
          | some v =>
            rw [hp] at hv'
            injection hv' with hv'; subst hv'
            obtain ⟨u2, G1, hu2, hlf⟩ := hls.to p v hp
            rw [hu'] at hu2; injection hu2 with hu2; subst hu2
            have hpn : p < i.size := by rw [← hlen]; exact (List.getElem?_eq_some_iff.1 hp).1
            refine view_rel hat ((hget p hpn).symm.trans hp) ?_ hlf
            have := row_of_seg hu'
            rw [ix_add, ← Nat.add_assoc]
            exact cell_of_row hrow.s this
        refine opOk_pure (rd := [q.root]) hf.ob (fun tm' obs' ht hr R' K' => ?_) (Src.via hx hq (by simp) ?_) (v := .agg (views q e j vs)) (u := .agg (seg row (off + ix o1 e j) i.size).toArray) ?_ ?_
        · unfold opK; simp only [ho, hi, ht x hx, hb]
          rw [hst R' _ obs' (hr _ (.inl (by simp)))]
          simp only [hik]
          exact hst2 R' _
        · intro r hr
          obtain ⟨v', hv', hr'⟩ := List.mem_flatMap.1 (show r ∈ (views q e j vs).flatMap refOf from hr)
          obtain ⟨p, hp⟩ := List.getElem?_of_mem hv'
          rw [views_get] at hp
          cases hp2 : vs[p]? with
          | none => rw [hp2] at hp; cases hp
          | some v =>
            rw [hp2] at hp
            injection hp with hp; subst hp
            obtain ⟨u2, G1, _, hlf⟩ := hls.to p v hp2
            have hrf := (view_leaf (w := w) (β := β) (obs := obs) (F := F) q e (j + p) hlf).1
            exact view_refs q e (j + p) hlf r (hrf.symm ▸ hr')
        · simp [execOp, ho, hux, had, load_row hu rfl hinf hsz hrow.s hle]
        · exact ⟨_, rfl, by simpa using hagg⟩
      · rw [hik] at hK; cases hK
    · rename_i τ y j hb
      have rx' := rx; rw [hb] at rx'
      obtain ⟨b, off, row, G, hux, hF, hrow, hE, hl⟩ := rx'
      cases hpl : τ.plain with
      | false => rw [hpl] at h; cases h
      | true =>
        rw [hpl] at h
        have hls := LR.leaves τ y _ _ hl
        have hlen := Ty.leaves_length τ y
        have hsl : (seg row off τ.size).length = τ.size := by rw [hls.length, hlen]
        have leaf : ∀ (p : Nat) (v : V) (u : Value), (τ.leaves y)[p]? = some v → (seg row off τ.size)[p]? = some u → VRl w β obs F v u := by
          intro p v u hv hu
          obtain ⟨u2, G1, hu2, hlf⟩ := hls.to p v hv
          rw [hu] at hu2; injection hu2 with hu2; subst hu2
          exact leafVR hlf (plain_leaves τ y hpl v (List.mem_of_getElem? hv))
        have noref : ∀ v ∈ τ.leaves y, refOf v = [] ∧ refsOf v = refOf v := by
          intro v hv
          obtain ⟨p, hp⟩ := List.getElem?_of_mem hv
          obtain ⟨u2, G1, _, hlf⟩ := hls.to p v hp
          cases v <;> first | exact ⟨rfl, rfl⟩ | exact hlf.elim
        rcases flat with ⟨d, hu, hd⟩ | ⟨fs, hik⟩ | hik
        · have hK' : (match (τ.leaves y)[j]? with | some v => K v [] [] [] | none => none) = some r := by
            cases hik : i.k with
            | struct fs => rw [hik] at hk; obtain ⟨fields, hu', _⟩ := hk; rw [hu] at hu'; injection hu' with hu'; subst hu'; cases hd
            | other => rw [hik] at h; cases h
            | _ => rw [hik] at h; exact h
          cases hv : (τ.leaves y)[j]? with
          | none => rw [hv] at hK'; cases hK'
          | some v =>
            have hj : j < τ.size := by rw [← hlen]; exact (List.getElem?_eq_some_iff.1 hv).1
            obtain ⟨u, hu2⟩ : ∃ u, (seg row off τ.size)[j]? = some u := ⟨_, List.getElem?_eq_getElem (by rw [hsl]; exact hj)⟩
            have hvr := leaf j v u hv hu2
            have hnr := noref v (List.mem_of_getElem? hv)
            refine opOk_pure (rd := []) hf.ob (fun tm' obs' ht hr R' K' => ?_) (Src.none (hnr.2.trans hnr.1)) (v := v) (u := u) (one hu hd hux (cell_of_row hrow (row_of_seg hu2))) ?_
            · unfold opK; simp only [ho, hi, ht x hx, hb, hpl]
              cases hik : i.k with
              | struct fs => rw [hik] at hk; obtain ⟨fields, hu', _⟩ := hk; rw [hu] at hu'; injection hu' with hu'; subst hu'; cases hd
              | other => rw [hik] at h; cases h
              | _ => simp only [hv]; rfl
            · cases v <;> first | exact hvr | exact hvr.elim
        · rw [hik] at h hk
          obtain ⟨fields, hu, hfl⟩ := hk
          have h' : (bif Nat.blt 0 i.size && Nat.ble (j + i.size) τ.size then K (.agg (((τ.leaves y).drop j).take i.size)) [] [] [] else none) = some r := h
          cases hb2 : Nat.blt 0 i.size && Nat.ble (j + i.size) τ.size with
          | false => rw [hb2] at h'; cases h'
          | true =>
            have hb3 := hb2
            rw [Bool.and_eq_true] at hb3
            have h0 : 0 < i.size := of_decide_eq_true (by simpa [Nat.blt_eq] using hb3.1)
            have hle := Nat.le_of_ble_eq_true hb3.2
            have hsr : off + τ.size ≤ row.size := by
              have := hsl
              unfold seg at this
              rw [List.length_take, List.length_drop, Array.length_toList] at this
              omega
            have hrs : off + j + i.size ≤ row.size := by omega
            have hagg : All2 (VRl w β obs F) (((τ.leaves y).drop j).take i.size) (seg row (off + j) i.size) := by
              refine All2.of_get (by rw [List.length_take, List.length_drop, hlen, seg_length hrs]; omega) fun p v u hv hu => ?_
              rw [List.getElem?_take] at hv
              split at hv
              · rename_i hp
                rw [List.getElem?_drop] at hv
                refine leaf (j + p) v u hv ?_
                rw [seg_get] at hu ⊢
                rw [if_pos hp] at hu
                rw [if_pos (by omega), ← hu, Nat.add_assoc]
              · cases hv
            refine opOk_pure (rd := []) hf.ob (fun tm' obs' ht hr R' K' => ?_) (Src.none ?_) (v := .agg (((τ.leaves y).drop j).take i.size)) (u := .agg (seg row (off + j) i.size).toArray) ?_ ?_
            · unfold opK; simp only [ho, hi, ht x hx, hb, hpl, hik]
              show (bif Nat.blt 0 i.size && Nat.ble (j + i.size) τ.size then _ else none) = _
              rw [hb2]; rfl
            · refine List.flatMap_eq_nil_iff.2 fun v hv => (noref v ?_).1
              exact List.mem_of_mem_drop (List.mem_of_mem_take hv)
            · simp [execOp, ho, hux, load_row hu rfl hinf hsz hrow hrs]
            · exact ⟨_, rfl, by simpa using hagg⟩
        · rw [hik] at h; cases h
    · cases h
end
end Go.Lf

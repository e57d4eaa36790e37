import Derived.Test.YtgfhdajbgkpgkaaLfOpsC
set_option linter.unusedVariables false
/-! Lf: slices of slices, len, min, max, build. -/
namespace Go.Lf
section
variable {P : Program} {C : Ctx} {k : Nat} {tm : List (Nat × V)} {obs : List (Nat × Ob)} {fresh : Nat} {o : Oper} {a : Act} {w : World} {E : Bs} {β : Nat → Option (Nat × Nat)} {F : Bs} {Gk : Nat → Bs}

theorem slice_bounds {n cap l h : Nat} {lo hi : Option Value} (hl : (lo = none ∧ l = 0) ∨ ∃ kk, lo = some (.int kk (l : Int))) (hh : (hi = none ∧ h = n) ∨ ((∃ kk, hi = some (.int kk (h : Int))) ∧ h ≤ cap)) (hlh : l ≤ h) :
    (Instr.sliceBounds true n cap lo hi none).run P w = .ok (l, h, cap) w := by
  rcases hl with ⟨e1, e2⟩ | ⟨kk, e1⟩ <;> rcases hh with ⟨e3, e4⟩ | ⟨⟨kk', e3⟩, hc⟩
  · subst e1; subst e2; subst e3; subst e4; simp [Instr.sliceBounds]
  · subst e1; subst e2; subst e3
    simp [Instr.sliceBounds, Instr.sliceBound, asIntOf, hc]
  · subst e1; subst e3; subst e4
    simp [Instr.sliceBounds, Instr.sliceBound, asIntOf, hlh]
  · subst e1; subst e3
    simp [Instr.sliceBounds, Instr.sliceBound, asIntOf, hc, hlh]

theorem slice_run {t e : TypeId} {inf : TypeInfo} {ad : Option Addr} {n cap l h : Nat} {lo hi : Option Value} (hu : P.underlying t = some (.slice e)) (hi' : P.info? e = some inf)
    (hl : (lo = none ∧ l = 0) ∨ ∃ kk, lo = some (.int kk (l : Int))) (hh : (hi = none ∧ h = n) ∨ ((∃ kk, hi = some (.int kk (h : Int))) ∧ h ≤ cap)) (hlh : l ≤ h) :
    (Instr.sliceAt t (.slice ad n cap) lo hi none).run P w = .ok (.slice (if cap = l then ad else ad.map (·.add (l * inf.size))) (h - l) (cap - l)) w := by
  simp [Instr.sliceAt, Instr.slice, run_underlying hu, slice_bounds hl hh hlh, sizeOf, typeInfo, hi']

/-- What a slice's bounds come to. -/
def cut (n : Nat) (lo hi : Option V) : Option (Nat × Nat) :=
  match lo, hi with
  | none, none => some (0, n)
  | some (.int _ a), none => if 0 ≤ a ∧ a ≤ n then some (a.toNat, n) else none
  | none, some (.int _ b) => if 0 ≤ b ∧ b ≤ n then some (0, b.toNat) else none
  | some (.int _ a), some (.int _ b) => if 0 ≤ a ∧ a ≤ b ∧ b ≤ n then some (a.toNat, b.toNat) else none
  | _, _ => none

theorem sliceK_hs {R : Type} {q : Ref} {off n : Nat} {wh : Bool} {lo hi mx : Option V} {K : V → Option R} {r : R} (h : sliceK (.hs q off n wh) lo hi mx K = some r) :
    mx = none ∧ ∃ l h off' wh', cut n lo hi = some (l, h) ∧ l ≤ h ∧ h ≤ n ∧ off' = off + l ∧ (wh' = true → wh = true ∧ l = 0 ∧ h = n) ∧ ∀ (R' : Type) (K' : V → Option R'), sliceK (.hs q off n wh) lo hi mx K' = K' (.hs q off' (h - l) wh') := by
  unfold sliceK at h
  split at h
  · exact ⟨rfl, 0, n, off, wh, rfl, Nat.zero_le _, Nat.le_refl _, rfl, fun h => ⟨h, rfl, rfl⟩, fun _ _ => rfl⟩
  · rename_i e; cases e
  · rename_i e; cases e
  · rename_i e; cases e
  · rename_i q' off' n' wh' kk x e
    injection e with e1 e2 e3 e4; subst e1; subst e2; subst e3; subst e4
    split at h
    · rename_i hx
      refine ⟨rfl, x.toNat, n, offAdd off x.toNat, false, by simp only [cut, hx, and_self, if_true], by omega, Nat.le_refl _, by simp only [offAdd]; omega, nofun, fun R' K' => ?_⟩
      unfold sliceK; simp only [hx, and_self, if_true]
    · cases h
  · rename_i q' off' n' wh' kk x e
    injection e with e1 e2 e3 e4; subst e1; subst e2; subst e3; subst e4
    split at h
    · rename_i hx
      refine ⟨rfl, 0, x.toNat, off, false, by simp only [cut, hx, and_self, if_true], by omega, by omega, by omega, nofun, fun R' K' => ?_⟩
      unfold sliceK; simp only [hx, and_self, if_true, Nat.sub_zero]
    · cases h
  · rename_i q' off' n' wh' kk x kk' y e
    injection e with e1 e2 e3 e4; subst e1; subst e2; subst e3; subst e4
    split at h
    · rename_i hx
      refine ⟨rfl, x.toNat, y.toNat, offAdd off x.toNat, false, by simp only [cut, hx, and_self, if_true], by omega, by omega, by simp only [offAdd]; omega, nofun, fun R' K' => ?_⟩
      unfold sliceK; simp only [hx, and_self, if_true]
    · cases h
  · cases h

theorem sliceK_sl {R : Type} {τ : Ty} {c : List τ.den} {lo hi mx : Option V} {K : V → Option R} {r : R} (h : sliceK (.sl τ c) lo hi mx K = some r) :
    mx = none ∧ ∃ l h c', cut c.length lo hi = some (l, h) ∧ l ≤ h ∧ h ≤ c.length ∧ c' = (c.drop l).take (h - l) ∧ ∀ (R' : Type) (K' : V → Option R'), sliceK (.sl τ c) lo hi mx K' = K' (.sl τ c') := by
  unfold sliceK at h
  split at h
  · exact ⟨rfl, 0, c.length, c, rfl, Nat.zero_le _, Nat.le_refl _, by simp, fun _ _ => rfl⟩
  · rename_i τ' c' kk x e
    injection e with e1 e2; subst e1
    have e2 := eq_of_heq e2; subst e2
    split at h
    · rename_i hx
      refine ⟨rfl, x.toNat, c.length, c.drop x.toNat, by simp only [cut, hx, and_self, if_true], by omega, Nat.le_refl _, ?_, fun R' K' => ?_⟩
      · rw [List.take_of_length_le (by rw [List.length_drop]; omega)]
      · unfold sliceK; simp only [hx, and_self, if_true]
    · cases h
  · rename_i τ' c' kk x e
    injection e with e1 e2; subst e1
    have e2 := eq_of_heq e2; subst e2
    split at h
    · rename_i hx
      refine ⟨rfl, 0, x.toNat, c.take x.toNat, by simp only [cut, hx, and_self, if_true], by omega, by omega, ?_, fun R' K' => ?_⟩
      · rw [List.drop_zero, Nat.sub_zero]
      · unfold sliceK; simp only [hx, and_self, if_true]
    · cases h
  · rename_i τ' c' kk x kk' y e
    injection e with e1 e2; subst e1
    have e2 := eq_of_heq e2; subst e2
    split at h
    · rename_i hx
      refine ⟨rfl, x.toNat, y.toNat, (c.drop x.toNat).take (y.toNat - x.toNat), by simp only [cut, hx, and_self, if_true], by omega, by omega, rfl, fun R' K' => ?_⟩
      unfold sliceK; simp only [hx, and_self, if_true]
    · cases h
  · rename_i e; cases e
  · rename_i e; cases e
  · rename_i e; cases e
  · cases h

theorem cut_vals (hf : FR C w E β tm obs a F Gk) {n cap l h : Nat} {lo hi : Option Operand} (hc : cut n (lo.map (opnd tm)) (hi.map (opnd tm)) = some (l, h)) (hcap : h ≤ cap) :
    ((lo.map a.eval = none ∧ l = 0) ∨ ∃ kk, lo.map a.eval = some (.int kk (l : Int))) ∧ ((hi.map a.eval = none ∧ h = n) ∨ ((∃ kk, hi.map a.eval = some (.int kk (h : Int))) ∧ h ≤ cap)) := by
  have val : ∀ (x : Operand) (kk : IntKind) (m : Int), opnd tm x = .int kk m → a.eval x = .int kk m := fun x kk m e => by
    have := opnd_rel hf x; rw [e] at this; exact int_of_VR this
  unfold cut at hc
  split at hc
  · rename_i h1 h2
    injection hc with hc; injection hc with e1 e2; subst e1; subst e2
    cases lo <;> cases hi <;> first | exact ⟨.inl ⟨rfl, rfl⟩, .inl ⟨rfl, rfl⟩⟩ | (cases h1; done) | (cases h2; done)
  · rename_i kk x h1 h2
    split at hc
    · rename_i hx
      injection hc with hc; injection hc with e1 e2; subst e1; subst e2
      cases lo with
      | none => cases h1
      | some lo =>
        cases hi with
        | some _ => cases h2
        | none =>
          injection h1 with h1
          exact ⟨.inr ⟨kk, by simp [val lo kk x h1]; omega⟩, .inl ⟨rfl, rfl⟩⟩
    · cases hc
  · rename_i kk x h1 h2
    split at hc
    · rename_i hx
      injection hc with hc; injection hc with e1 e2; subst e1; subst e2
      cases hi with
      | none => cases h2
      | some hi =>
        cases lo with
        | some _ => cases h1
        | none =>
          injection h2 with h2
          exact ⟨.inl ⟨rfl, rfl⟩, .inr ⟨⟨kk, by simp [val hi kk x h2]; omega⟩, hcap⟩⟩
    · cases hc
  · rename_i kk x kk' y h1 h2
    split at hc
    · rename_i hx
      injection hc with hc; injection hc with e1 e2; subst e1; subst e2
      cases hi with
      | none => cases h2
      | some hi =>
        cases lo with
        | none => cases h1
        | some lo =>
          injection h1 with h1
          injection h2 with h2
          exact ⟨.inr ⟨kk, by simp [val lo kk x h1]; omega⟩, .inr ⟨⟨kk', by simp [val hi kk' y h2]; omega⟩, hcap⟩⟩
    · cases hc
  · cases hc

theorem op_slice {R : Type} {K : OpK R} {r : R} (hT : TisOk P C) (hf : FR C w E β tm obs a F Gk) {t : TypeId} {x : Operand} {lo hi mx : Option Operand} (ho : o.op = .slice t x lo hi mx) (h : opK C k tm obs fresh o K = some r) : OpOk P C k tm obs fresh o a w E β F := by
  have hx : x ∈ o.op.operands := by rw [ho]; simp [Op.operands]
  have hlo : ∀ y, lo = some y → y ∈ o.op.operands := by intro y e; rw [ho, e]; simp [Op.operands]
  have hhi : ∀ y, hi = some y → y ∈ o.op.operands := by intro y e; rw [ho, e]; simp [Op.operands]
  have hmx : ∀ y, mx = some y → y ∈ o.op.operands := by intro y e; rw [ho, e]; simp [Op.operands]
  have same : ∀ (z : Option Operand) (tm' : List (Nat × V)), (∀ y, z = some y → y ∈ o.op.operands) → (∀ x, x ∈ o.op.operands → opnd tm' x = opnd tm x) → z.map (opnd tm') = z.map (opnd tm) := by
    intro z tm' hz ht
    cases z with
    | none => rfl
    | some y => simp [ht y (hz y rfl)]
  have rx := opnd_rel hf x
  unfold opK at h
  simp only [ho] at h
  split at h
  · rename_i τ l hb
    rw [hb] at rx
    cases hz : szOk C t τ with
    | false => rw [hz] at h; cases h
    | true =>
      rw [hz] at h
      simp only [cond] at h
      obtain ⟨hm, l1, h1, c', hcut, hlh, hhn, hc', hst⟩ := sliceK_sl h
      have hmn : mx = none := by cases mx <;> first | rfl | cases hm
      obtain ⟨e, inf, hu, hi', hsz⟩ := szOk_spec hT hz
      obtain ⟨G, hE, ad, cap, hux, hd⟩ := rx
      injection hux with hux
      obtain ⟨hvl, hvh⟩ := cut_vals (cap := l.length + cap) hf hcut (by omega)
      have hrun := slice_run (P := P) (w := w) (ad := ad) (n := l.length) hu hi' hvl hvh hlh
      refine opOk_pure (rd := []) hf.ob (fun tm' obs' ht hr R' K' => ?_) (Src.none rfl) (v := .sl τ c') (u := .slice (if l.length + cap = l1 then ad else ad.map (·.add (l1 * inf.size))) (h1 - l1) (l.length + cap - l1)) ?_ ?_
      · unfold opK; simp only [ho, ht x hx, hb, hz, cond, same lo tm' hlo ht, same hi tm' hhi ht, same mx tm' hmx ht]
        exact hst R' _
      · simp only [execOp, ho, hux, hmn, Option.map_none, Sem.run_bind, hrun, Result.andThen_ok, Sem.run_pure]
      · have hlen : c'.length = h1 - l1 := by rw [hc', List.length_take, List.length_drop]; omega
        refine ⟨G, hE, (if l.length + cap = l1 then ad else ad.map (·.add (l1 * inf.size))), l.length + cap - l1 - (h1 - l1), by rw [hlen]; congr 2; omega, ?_⟩
        by_cases h0 : l1 = h1
        · exact .inl (List.eq_nil_of_length_eq_zero (by omega))
        · rcases hd with hd | ⟨b, off, row, had, hF, hrow, hle, hel⟩
          · subst hd; have : h1 ≤ 0 := hhn; exact absurd (by omega : l1 = h1) h0
          · refine .inr ⟨b, off + l1 * τ.size, row, ?_, hF, hrow, ?_, fun i y hy => ?_⟩
            · rw [if_neg (by omega), had, hsz]; simp [add_none]
            · rw [hlen]
              have : (l1 + (h1 - l1)) * τ.size ≤ l.length * τ.size := Nat.mul_le_mul_right _ (by omega)
              rw [Nat.add_mul] at this
              omega
            · rw [hc', List.getElem?_take] at hy
              split at hy
              · rw [List.getElem?_drop] at hy
                obtain ⟨G', hE', hl'⟩ := hel (l1 + i) y hy
                refine ⟨G', hE', ?_⟩
                rw [Nat.add_mul, ← Nat.add_assoc] at hl'
                exact hl'
              · cases hy
  · rename_i q off n wh hb
    rw [hb] at rx
    obtain ⟨o1, loc, G, hat, hob1, _, hK, hst⟩ := atRef_ok hf.ob h
    cases o1 with
    | box => cases hK
    | arr τ l =>
      simp only at hK
      cases hz : szOk C t τ with
      | false => rw [hz] at hK; cases hK
      | true =>
        rw [hz] at hK
        simp only [cond] at hK
        obtain ⟨hm, l1, h1, off', wh', hcut, hlh, hhn, hoff, hwh, hst2⟩ := sliceK_hs hK
        have hmn : mx = none := by cases mx <;> first | rfl | cases hm
        obtain ⟨e, inf, hu, hi', hsz⟩ := szOk_spec hT hz
        obtain ⟨ad, cap, hux, hall⟩ := rx
        have hcapn : n ≤ cap := by
          obtain ⟨τ', l', e1, ⟨ad', cap', hux', hd⟩, hle, _⟩ := hall _ _ hat
          rw [hux] at hux'; injection hux' with e1 e2 e3; subst e3
          rcases hd with ⟨e1, _⟩ | ⟨_, _, _, _, _, _, hnc, _⟩ <;> omega
        obtain ⟨hvl, hvh⟩ := cut_vals (cap := cap) hf hcut (by omega)
        have hrun := slice_run (P := P) (w := w) (ad := ad) (n := n) hu hi' hvl hvh hlh
        refine opOk_pure (rd := [q.root]) hf.ob (fun tm' obs' ht hr R' K' => ?_) (Src.eqRef hx (q := q) (by rw [hb]; simp [refsOf, refsOfA, refOf]) (fun r hr => by simpa [refsOf, refsOfA, refOf] using hr)) (v := .hs q off' (h1 - l1) wh')
          (u := .slice (if cap = l1 then ad else ad.map (·.add (l1 * inf.size))) (h1 - l1) (cap - l1)) ?_ ?_
        · unfold opK; simp only [ho, ht x hx, hb]
          rw [hst R' _ obs' (hr _ (.inl (by simp)))]
          simp only [hz, cond, same lo tm' hlo ht, same hi tm' hhi ht, same mx tm' hmx ht]
          exact hst2 R' _
        · simp only [execOp, ho, hux, hmn, Option.map_none, Sem.run_bind, hrun, Result.andThen_ok, Sem.run_pure]
        · refine ⟨_, _, rfl, fun o2 loc2 hl2 => ?_⟩
          obtain ⟨τ', l', e1, ⟨ad', cap', hux', hd⟩, hle, hw⟩ := hall o2 loc2 hl2
          rw [hl2] at hat; injection hat with hat; injection hat with e2 e3; subst e2; subst e3
          injection e1 with e1 e2; subst e1
          have e2 := eq_of_heq e2; subst e2
          rw [hux] at hux'; injection hux' with e1 e2 e3; subst e1; subst e3
          refine ⟨τ, l, rfl, ⟨_, _, rfl, ?_⟩, by rw [hoff]; omega, fun hw' => ?_⟩
          · rcases hd with ⟨hn, hc⟩ | ⟨b, c, row, hloc, hrow, had, hnc, hsize⟩
            · exact .inl ⟨by omega, by omega⟩
            · by_cases hcl : cap = l1
              · exact .inl ⟨by omega, by omega⟩
              · refine .inr ⟨b, c, row, hloc, hrow, ?_, by omega, ?_⟩
                · rw [if_neg hcl, had, hsz, hoff]; simp [add_none, Nat.add_mul, Nat.add_assoc]
                · rw [hoff]
                  have : off + l1 + (cap - l1) = off + cap := by omega
                  rw [this]; exact hsize
          · obtain ⟨hw1, hw2, hw3⟩ := hwh hw'
            obtain ⟨e1, e2⟩ := hw hw1
            exact ⟨by omega, by omega⟩
  · cases h

theorem lenOf_spec {v : V} {u : Value} {n : Int} (hv : VR w β obs F v u) (h : lenOf v = some n) : ∃ ad m cap, u = .slice ad m cap ∧ n = (m : Int) := by
  unfold lenOf at h
  split at h
  · injection h with h; subst h
    obtain ⟨G, hE, ad, cap, hux, _⟩ := hv
    injection hux with hux
    exact ⟨ad, _, _, hux, rfl⟩
  · injection h with h; subst h
    obtain ⟨ad, cap, hux, _⟩ := hv
    exact ⟨ad, _, _, hux, rfl⟩
  · injection h with h; subst h
    obtain ⟨ad, hux⟩ := hv
    exact ⟨ad, _, _, hux, rfl⟩
  · cases h

theorem op_len {R : Type} {K : OpK R} {r : R} (hT : TisOk P C) (hf : FR C w E β tm obs a F Gk) {c : Call} (ho : o.op = .call c) (hc : c.callee = .builtin .len) (h : opK C k tm obs fresh o K = some r) : OpOk P C k tm obs fresh o a w E β F := by
  unfold opK at h
  simp only [ho, hc] at h
  split at h
  · rename_i x t ts ha hts
    split at h
    · rename_i e n hk hn
      have hx : x ∈ o.op.operands := by
        rw [ho]; simp [Op.operands, Call.operands]
        exact .inr (Array.mem_toList_iff.1 (by rw [ha]; simp))
      have hs := kindOf_ok hT t
      rw [hk] at hs
      obtain ⟨ad, m, cap, hux, hm⟩ := lenOf_spec (opnd_rel hf x) hn
      refine opOk_pure (rd := []) hf.ob (fun tm' obs' ht hr R' K' => ?_) (Src.none rfl) (v := .int .i64 n) (u := .int .i64 n) ?_ rfl
      · unfold opK; simp only [ho, hc, ha, hts, hk, ht x hx, hn]
      · have h0 : c.args[0]? = some x := by rw [← Array.getElem?_toList, ha]; rfl
        have h1 : c.argTypes[0]? = some t := by rw [← Array.getElem?_toList, hts]; rfl
        simp [execOp, ho, resolve, hc, invoke, builtin, Builtin.len_, h0, h1, hux, run_underlying (P := P) hs, goInt, hm]
    · cases h
  · cases h

theorem minMaxFrom_spec {isMax : Bool} {kk : IntKind} {g : Value → Value → Sem Value} (hg : ∀ (x y : Int) (k' : IntKind), g (.int kk x) (.int k' y) = pure (.int kk (mm isMax x y))) : ∀ (l : List V) (us : List Value) (x : Int) (v : V),
    minMaxFrom isMax kk x l = some v → All2 (VR w β obs F) l us → ∃ n, v = .int kk n ∧ (us.foldlM g (.int kk x)).run P w = .ok (.int kk n) w
  | [], us, x, v, h, ha => by
    cases ha
    injection h with h
    exact ⟨x, h.symm, by simp⟩
  | y :: l, us, x, v, h, ha => by
    cases ha with
    | cons hy hl =>
      unfold minMaxFrom at h
      split at h
      · rename_i e; cases e
      · rename_i k' y' l' e
        injection e with e1 e2; subst e1; subst e2
        cases hk : kbeq kk k' with
        | false => rw [hk] at h; cases h
        | true =>
          rw [hk] at h
          have e := int_of_VR hy; subst e
          obtain ⟨n, hn, hr⟩ := minMaxFrom_spec hg l _ _ v h hl
          refine ⟨n, hn, ?_⟩
          rw [List.foldlM_cons, hg]
          simp only [pure_bind]
          exact hr
      · cases h

theorem minMax_spec {isMax : Bool} {g : Value → Value → Sem Value} (hg : ∀ (kk : IntKind) (x y : Int) (k' : IntKind), g (.int kk x) (.int k' y) = pure (.int kk (mm isMax x y))) {l : List V} {us : List Value} {v : V}
    (h : minMax isMax l = some v) (ha : All2 (VR w β obs F) l us) : ∃ kk n u0 us', v = .int kk n ∧ us = u0 :: us' ∧ (us'.foldlM g u0).run P w = .ok (.int kk n) w := by
  unfold minMax at h
  split at h
  · rename_i kk x l
    cases ha with
    | cons hx hl =>
      have e := int_of_VR hx; subst e
      obtain ⟨n, hn, hr⟩ := minMaxFrom_spec (P := P) (hg kk) _ _ _ v h hl
      exact ⟨kk, n, _, _, hn, rfl, hr⟩
  · cases h

theorem args_rel (hf : FR C w E β tm obs a F Gk) (l : List Operand) : All2 (VR w β obs F) (l.map (opnd tm)) (l.map a.eval) := by
  induction l with
  | nil => exact .nil
  | cons x l ih => exact .cons (opnd_rel hf x) ih

theorem op_minMax {R : Type} {K : OpK R} {r : R} (hf : FR C w E β tm obs a F Gk) {c : Call} (ho : o.op = .call c) (hc : c.callee = .builtin .max ∨ c.callee = .builtin .min) (h : opK C k tm obs fresh o K = some r) : OpOk P C k tm obs fresh o a w E β F := by
  have hop : ∀ x ∈ c.args.toList, x ∈ o.op.operands := by
    intro x hx
    rw [ho]; simp [Op.operands, Call.operands]
    exact .inr (Array.mem_toList_iff.1 hx)
  have hall := args_rel hf c.args.toList
  have hmap : ∀ tm', (∀ x, x ∈ o.op.operands → opnd tm' x = opnd tm x) → c.args.toList.map (opnd tm') = c.args.toList.map (opnd tm) := fun tm' ht => List.map_congr_left fun x hx => ht x (hop x hx)
  rcases hc with hc | hc
  · unfold opK at h
    simp only [ho, hc] at h
    split at h
    · rename_i v hv
      obtain ⟨kk, n, u0, us', hn, hus, hr⟩ := minMax_spec (P := P) (g := Builtin.max2) (fun _ _ _ _ => rfl) hv hall
      refine opOk_pure (rd := []) hf.ob (fun tm' obs' ht hr R' K' => ?_) (Src.none ?_) (v := v) (u := .int kk n) ?_ ?_
      · unfold opK; simp only [ho, hc, hmap tm' ht, hv]
      · rw [hn]; rfl
      · simp [execOp, ho, resolve, hc, invoke, builtin, Builtin.max_, hus, hr]
      · rw [hn]; rfl
    · cases h
  · unfold opK at h
    simp only [ho, hc] at h
    split at h
    · rename_i v hv
      obtain ⟨kk, n, u0, us', hn, hus, hr⟩ := minMax_spec (P := P) (g := Builtin.min2) (fun _ _ _ _ => rfl) hv hall
      refine opOk_pure (rd := []) hf.ob (fun tm' obs' ht hr R' K' => ?_) (Src.none ?_) (v := v) (u := .int kk n) ?_ ?_
      · unfold opK; simp only [ho, hc, hmap tm' ht, hv]
      · rw [hn]; rfl
      · simp [execOp, ho, resolve, hc, invoke, builtin, Builtin.min_, hus, hr]
      · rw [hn]; rfl
    · cases h

end
end Go.Lf

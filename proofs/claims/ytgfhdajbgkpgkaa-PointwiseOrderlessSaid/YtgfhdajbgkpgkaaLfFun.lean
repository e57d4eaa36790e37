import Derived.Test.YtgfhdajbgkpgkaaLfCode
set_option linter.unusedVariables false
/-! Lf: functions. -/
namespace Go.Lf

section
variable {P : Program} {C : Ctx} {w : World} {E : Bs} {β : Nat → Option (Nat × Nat)}

theorem load_cell' {u : Value} {ad : Addr} {t : TypeId} {d : TypeDesc} (hu : P.underlying t = some d) (hd : isAggD d = false) (hc : w.cell? ad = some u) :
    (loadVar t ad).run P w = .ok u w := by
  have : (isAgg t).run P w = .ok false w := by cases d <;> simp_all [isAgg, run_underlying hu, isAggD]
  simp [loadVar, this, run_load, hc]

theorem load_row' {b o n : Nat} {row : Array Value} {t : TypeId} {d : TypeDesc} {inf : TypeInfo} (hu : P.underlying t = some d) (hd : isAggD d = true) (hi : P.info? t = some inf) (hn : inf.size = n)
    (hr : RowS w b row) (hs : o + n ≤ row.size) : (loadVar t ⟨b, o, none⟩).run P w = .ok (.agg (seg row o n).toArray) w := by
  have : (isAgg t).run P w = .ok true w := by cases d <;> simp_all [isAgg, run_underlying hu, isAggD]
  simp [loadVar, this, sizeOf, typeInfo, hi, hn, run_load_seg hr hs]

/-- One result. -/
def resOf (tmps : Array Value) : ResultVar → Sem Value
  | .tmp t => pure (tmps.getD t undef)
  | .cell a t => do loadVar t (← asAddr (tmps.getD a undef))

theorem run_results {fn : Func} {tmps : Array Value} {us : List Value} (h : All2 (fun v u => (resOf tmps v).run P w = .ok u w) fn.results.toList us) : (results fn tmps).run P w = .ok (pack us) w := by
  have go : ∀ (l : List ResultVar) (us : List Value), All2 (fun v u => (resOf tmps v).run P w = .ok u w) l us → (l.mapM (resOf tmps)).run P w = .ok us w := by
    intro l us h
    induction h with
    | nil => rfl
    | cons h _ ih => simp only [List.mapM_cons, Sem.run_bind, h, Result.andThen, ih]; rfl
  have e : results fn tmps = (do
      let vs ← fn.results.mapM (resOf tmps)
      pure (if h : vs.size = 1 then vs[0] else .tuple vs)) := by
    unfold results
    congr 1
  rw [e, Array.mapM_eq_mapM_toList]
  simp only [Sem.run_bind, Sem.run_map, go _ _ h]
  rfl

theorem isA_value {F : Bs} {τ : Ty} {x : τ.den} {u : Value} {G : Bs} (h : LR w F τ x [u] G) (hA : τ.isA = false) : ¬ ∃ us, u = .agg us := by
  rintro ⟨us, e⟩
  subst e
  cases τ with
  | int k => have := h.1; injection this with this; cases this
  | bool => have := h.1; injection this with this; cases this
  | sl a => obtain ⟨_, ad, cap, hc, _⟩ := h; injection hc with hc; cases hc
  | ow a => obtain ⟨u, hc, ⟨ad, cap, hu, _⟩, _⟩ := h; injection hc with hc; subst hc; cases hu
  | bx a => obtain ⟨b, row, G', hc, _⟩ := h; injection hc with hc; cases hc
  | pair => cases hA
  | unit => cases hA

/-- The results, out of the state at the end. -/
theorem results_ok {R : Type} (hT : TisOk P C) {a : Act} : ∀ (rs : List Ty) {f : List ResultVar} {tm : List (Nat × V)} {obs : List (Nat × Ob)} {K : Tys rs → List (Nat × Ob) → Option R} {r : R} {FA F : Bs} {Gk : Nat → Bs},
    (∀ t v, get t tm = some v → ∃ u, a.tmps[t]? = some u ∧ VR w β obs FA v u) → ObsA w E FA F β obs Gk → (∀ b, F b → FA b) → resultsK C f rs tm obs K = some r →
    ∃ ys obs' FA1 F1 G Gk1 us, K ys obs' = some r ∧ Took w E β FA F obs FA1 F1 G obs' Gk1 ∧ ResR w FA1 rs ys us G ∧ All2 (fun v u => (resOf a.tmps v).run P w = .ok u w) f us
  | [], f, tm, obs, K, r, FA, F, Gk, htm, hob, hF, h => by
    unfold resultsK at h
    split at h
    · exact ⟨(), obs, FA, F, fun _ => False, Gk, [], h, Took.refl hob, ⟨rfl, fun _ h => h⟩, .nil⟩
    · cases h
  | τ :: rs, f, tm, obs, K, r, FA, F, Gk, htm, hob, hF, h => by
    unfold resultsK at h
    -- behind one result
    have next : ∀ (f' : List ResultVar) (v : ResultVar) (u : Value) (x : τ.den) (obs1 : List (Nat × Ob)) (FA1 F1 G1 : Bs) (Gk1 : Nat → Bs), f = v :: f' → Took w E β FA F obs FA1 F1 G1 obs1 Gk1 → ValR w FA1 τ x u G1 → (resOf a.tmps v).run P w = .ok u w →
        resultsK C f' rs tm obs1 (fun xs obs' => K (x, xs) obs') = some r →
        ∃ ys obs' FA1 F1 G Gk1 us, K ys obs' = some r ∧ Took w E β FA F obs FA1 F1 G obs' Gk1 ∧ ResR w FA1 (τ :: rs) ys us G ∧ All2 (fun v u => (resOf a.tmps v).run P w = .ok u w) f us := by
      intro f' v u x obs1 FA1 F1 G1 Gk1 hf htook hval hrun hk
      have hF1 : ∀ b, F1 b → FA1 b := fun b hb => Classical.byContradiction fun hn => (htook.lost b (hF b (htook.less b hb)) hn).2.1 hb
      obtain ⟨ys, obs', FA2, F2, G2, Gk2, us, hk2, htook2, hres, hall⟩ := results_ok hT rs (fun t y hy => by
        obtain ⟨u', hu', hvr⟩ := htm t y hy
        exact ⟨u', hu', hvr.keep (htook.stay _) fun r _ => htook.keep r⟩) htook.ob hF1 hk
      subst hf
      exact ⟨(x, ys), obs', FA2, F2, _, Gk2, u :: us, hk2, htook.trans htook2, ⟨u, us, G1, G2, rfl, ⟨hval.1.sub htook2.sub, hval.2⟩, hres, htook.djG htook2, fun n => Iff.rfl⟩, .cons hrun hall⟩
    split at h
    · rename_i t f'
      split at h
      · rename_i v hg
        cases hl : likeA τ v with
        | false => rw [hl] at h; cases h
        | true =>
          rw [hl] at h
          simp only [cond] at h
          obtain ⟨u, hu, hvr⟩ := htm t v hg
          have hnu : v ≠ .undef := by intro e; subst e; cases h
          have hall := rest_fields hvr h
          obtain ⟨vs, d, FA1, F1, G, Gk1, hk, _, htook, hls, _, _⟩ := restsK_sound _ hob hF hall h
          split at hk
          · rename_i x hx
            obtain ⟨G1, hs1, H⟩ := ofAll_sound hx hls
            have htook' := htook.drop hs1
            refine next f' (.tmp t) u x _ _ _ _ _ rfl htook' ⟨H _ (fun b hb => hb.1) (fun b hb hn hf => hn (hf.2 hb)), likeA_iff hl hvr hnu⟩ ?_ hk
            have : a.tmps.getD t undef = u := by rw [Array.getD_eq_getD_getElem?, hu]; rfl
            simp only [resOf, this]
            rfl
          · cases hk
      · cases h
    · rename_i c t f'
      split at h
      · rename_i i q hi hg
        obtain ⟨u, hu, ad, had, hpl⟩ := htm c _ hg
        split at h
        · rename_i t' fs hq
          cases hc : Nat.beq fs.length i.size && cellOk i.k τ with
          | false => rw [hc] at h; cases h
          | true =>
            rw [hc] at h
            simp only [cond] at h
            rw [Bool.and_eq_true] at hc
            split at h
            · rename_i x hx
              obtain ⟨b, row, G', hloc, hrow, hls, hnb, hG⟩ := hob.rel q _ hq
              obtain ⟨b', off', hloc', had'⟩ := hpl (.box t' fs) (β q) (by simp [atLoc, hq, way])
              rw [hloc] at hloc'; injection hloc' with e; injection e with e1 e2; subst e1; subst e2
              have had2 : ad = ⟨b, 0, none⟩ := by rw [had']; rfl
              subst had2
              obtain ⟨G1, hs1, H⟩ := ofAll_sound hx hls
              have htook := (took_del hob hF hq).drop (G' := G1) fun n hn => (hG n).2 (.inr (hs1 n hn))
              have hlr := H (fun b => FA b ∧ (Gk q b → G1 b)) (fun b hb => hb.1) fun b hb hn hf => hn (hf.2 ((hG b).2 (.inr hb)))
              have hlen : row.size = i.size := by
                have h1 := hls.length
                rw [Array.length_toList] at h1
                rw [h1]
                exact Nat.eq_of_beq_eq_true hc.1
              have hga : a.tmps.getD c undef = .pointer (some ⟨b, 0, none⟩) := by rw [Array.getD_eq_getD_getElem?, hu, had]; rfl
              obtain ⟨z, inf, hinf, hsz, _⟩ := (hT t i hi).info
              have hkind := (hT t i hi).kind
              have flat : ∀ d, P.underlying t = some d → isAggD d = false → τ.isA = false →
                  ∃ ys obs' FA1 F1 G Gk1 us, K ys obs' = some r ∧ Took w E β FA F obs FA1 F1 G obs' Gk1 ∧ ResR w FA1 (τ :: rs) ys us G ∧ All2 (fun v u => (resOf a.tmps v).run P w = .ok u w) (.cell c t :: f') us := by
                intro d hd1 hd2 hA
                have hl1 := LR.length τ _ _ _ hlr
                have ht1 : τ.size = 1 := by cases τ <;> first | rfl | cases hA
                rw [ht1] at hl1
                cases hrl : row.toList with
                | nil => rw [hrl] at hl1; cases hl1
                | cons v l =>
                  cases l with
                  | cons => rw [hrl] at hl1; simp at hl1
                  | nil =>
                    rw [hrl] at hlr
                    have hcell : w.cell? ⟨b, 0, none⟩ = some v := cell_of_row hrow.s (by rw [← Array.getElem?_toList, hrl]; rfl)
                    have hnA := isA_value hlr hA
                    refine next f' (.cell c t) v x _ _ _ _ _ rfl htook ⟨?_, ⟨fun h => absurd h hnA, fun h => by rw [hA] at h; cases h⟩⟩ ?_ h
                    · have : v.cells.toList = [v] := by
                        cases v with
                        | agg us => exact absurd ⟨us, rfl⟩ hnA
                        | _ => rfl
                      rw [this]; exact hlr
                    · simp [resOf, hga, asAddr, load_cell' hd1 hd2 hcell]
              cases hik : i.k with
              | struct ofs =>
                rw [hik] at hkind hc
                obtain ⟨fields, hund, _⟩ := hkind
                have hA : τ.isA = true := hc.2
                refine next f' (.cell c t) (.agg row) x _ _ _ _ _ rfl htook ⟨hlr, ⟨fun _ => hA, fun _ => ⟨row, rfl⟩⟩⟩ ?_ h
                have hld := load_row' (P := P) (w := w) (t := t) (o := 0) (n := i.size) hund rfl hinf hsz hrow.s (by omega)
                have hseg : (seg row 0 i.size).toArray = row := by
                  unfold seg
                  apply Array.toList_inj.1
                  rw [List.drop_zero, ← hlen, ← Array.length_toList, List.take_length]
                rw [hseg] at hld
                simp [resOf, hga, asAddr, hld]
              | other => rw [hik] at hc; cases hc.2
              | int kk => rw [hik] at hkind hc; exact flat _ hkind rfl (by simpa [cellOk] using hc.2)
              | bool => rw [hik] at hkind hc; exact flat _ hkind rfl (by simpa [cellOk] using hc.2)
              | slice e => rw [hik] at hkind hc; exact flat _ hkind rfl (by simpa [cellOk] using hc.2)
              | ptr e => rw [hik] at hkind hc; exact flat _ hkind rfl (by simpa [cellOk] using hc.2)
            · cases h
        · cases h
      · cases h
    · cases h

/-- What the borrowed blocks hold at the end. -/
theorem upds_ok {R : Type} {a : Act} : ∀ (ps : List PT) {t : Nat} {us : List Value} {tm : List (Nat × V)} {obs : List (Nat × Ob)} {K : Upds ps → Option R} {r : R} {FA F : Bs} {Gk : Nat → Bs},
    pinsOk C t ps = true → us.length = ps.length → (∀ j, t + j ∈ C.pin → j < us.length → a.tmps[t + j]? = us[j]?) → (∀ t v, get t tm = some v → ∃ u, a.tmps[t]? = some u ∧ VR w β obs FA v u) → ObsA w E FA F β obs Gk → (∀ b, F b → FA b) → updsK ps t tm obs K = some r →
    ∃ ys obs' FA1 F1 G Gk1, K ys = some r ∧ Took w E β FA F obs FA1 F1 G obs' Gk1 ∧ BackR w FA1 ps ys us G
  | [], t, us, tm, obs, K, r, FA, F, Gk, hp, hl, hu, htm, hob, hF, h => by
    have : us = [] := List.eq_nil_of_length_eq_zero hl
    exact ⟨(), obs, FA, F, fun _ => False, Gk, h, Took.refl hob, this, fun _ h => h⟩
  | .imm τ :: ps, t, us, tm, obs, K, r, FA, F, Gk, hp, hl, hu, htm, hob, hF, h => by
    cases us with
    | nil => cases hl
    | cons u us =>
      obtain ⟨ys, obs', FA1, F1, G, Gk1, h1, h2, h3⟩ := upds_ok ps (t := t + 1) (us := us) hp (by simpa using hl) (fun j hj hlt => by
        have := hu (j + 1) (by rw [← Nat.add_assoc, Nat.add_right_comm]; exact hj) (by simp; omega)
        rw [← Nat.add_assoc, Nat.add_right_comm] at this
        simpa using this) htm hob hF h
      exact ⟨ys, obs', FA1, F1, G, Gk1, h1, h2, u, us, rfl, h3⟩
  | .bor τ false :: ps, t, us, tm, obs, K, r, FA, F, Gk, hp, hl, hu, htm, hob, hF, h => by cases hp
  | .bor τ true :: ps, t, us, tm, obs, K, r, FA, F, Gk, hp, hl, hu, htm, hob, hF, h => by
    have hp' : (true && mem t C.pin && pinsOk C (t + 1) ps) = true := hp
    simp only [Bool.true_and, Bool.and_eq_true] at hp'
    have htp : t ∈ C.pin := (mem_iff C.pin).1 hp'.1
    cases us with
    | nil => cases hl
    | cons u us =>
      have hu0 : a.tmps[t]? = some u := by have := hu 0 htp (by simp); simpa using this
      unfold updsK at h
      split at h
      · rename_i k hg
        split at h
        · rename_i t' fs hq
          split at h
          · rename_i x hx
            obtain ⟨u', hu', ad, had, hpl⟩ := htm t _ hg
            rw [hu0] at hu'; injection hu' with hu'; subst hu'
            obtain ⟨b, row, G', hloc, hrow, hls, hnb, hG⟩ := hob.rel k _ hq
            obtain ⟨b', off', hloc', had'⟩ := hpl (.box t' fs) (β k) (by simp [atLoc, hq, way])
            rw [hloc] at hloc'; injection hloc' with e; injection e with e1 e2; subst e1; subst e2
            have had2 : ad = ⟨b, 0, none⟩ := by rw [had']; rfl
            subst had2
            obtain ⟨G1, hs1, H⟩ := ofAll_sound hx hls
            have htook := (took_del hob hF hq).drop (G' := fun n => n = b ∨ G1 n) fun n hn => (hG n).2 (hn.imp id (hs1 n))
            have hlr := H (fun n => FA n ∧ (Gk k n → n = b ∨ G1 n)) (fun b hb => hb.1) fun n hn h1 hf => (hf.2 ((hG n).2 (.inr hn))).elim (fun e => hnb (e ▸ hn)) h1
            have hF1 : ∀ n, F n ∧ ¬ Gk k n → FA n ∧ (Gk k n → n = b ∨ G1 n) := fun n hn => ⟨hF n hn.1, fun h => absurd h hn.2⟩
            obtain ⟨ys, obs', FA2, F2, G2, Gk2, h1, h2, h3⟩ := upds_ok ps (t := t + 1) (us := us) hp'.2 (by simpa using hl) (fun j hj hlt => by
              have := hu (j + 1) (by rw [← Nat.add_assoc, Nat.add_right_comm]; exact hj) (by simp; omega)
              rw [← Nat.add_assoc, Nat.add_right_comm] at this
              simpa using this) (fun t y hy => by
                obtain ⟨u', hu', hvr⟩ := htm t y hy
                exact ⟨u', hu', hvr.keep (htook.stay _) fun r _ => htook.keep r⟩) htook.ob hF1 h
            exact ⟨(x, ys), obs', FA2, F2, _, Gk2, h1, htook.trans h2, u, us, _, G2, rfl, ⟨b, row, G1, by rw [had], hrow, hlr.sub h2.sub, fun hb => hnb (hs1 b hb), fun n => Iff.rfl⟩, h3, htook.djG h2, fun n => Iff.rfl⟩
          · cases h
        · cases h
      · cases h

theorem get_ents {e : Ent} : ∀ {es : List Ent}, (keysE es).Nodup → e ∈ es → get e.k (es.map fun e => (e.k, e.ob)) = some e.ob
  | [], _, h => by cases h
  | f :: es, hn, h => by
    have hn' := List.nodup_cons.1 hn
    show (bif Nat.beq f.k e.k then some f.ob else get e.k (es.map fun e => (e.k, e.ob))) = _
    rcases List.mem_cons.1 h with rfl | h
    · rw [Nat.beq_refl]; rfl
    · have hne : f.k ≠ e.k := fun x => hn'.1 (show f.k ∈ keysE es from x ▸ mem_keysE h)
      rw [show Nat.beq f.k e.k = false from by cases hb : Nat.beq f.k e.k with | true => exact absurd (Nat.eq_of_beq_eq_true hb) hne | false => rfl]
      exact get_ents hn'.2 h

theorem get_ents_none {q : Nat} : ∀ {es : List Ent}, q ∉ keysE es → get q (es.map fun e => (e.k, e.ob)) = none
  | [], _ => rfl
  | f :: es, h => by
    show (bif Nat.beq f.k q then some f.ob else get q (es.map fun e => (e.k, e.ob))) = _
    have hne : f.k ≠ q := fun x => h (by simp [keysE, x])
    rw [show Nat.beq f.k q = false from by cases hb : Nat.beq f.k q with | true => exact absurd (Nat.eq_of_beq_eq_true hb) hne | false => rfl]
    exact get_ents_none fun hq => h (List.mem_cons_of_mem _ hq)

theorem args_length {F : Bs} : ∀ (ps : List PT) {x : Args ps} {us : List Value} {G : Bs}, ArgsR w F ps x us G → us.length = ps.length
  | [], _, _, _, ⟨h, _⟩ => by rw [h]; rfl
  | .imm _ :: ps, _, _, _, ⟨_, _, hu, _, _, h⟩ => by rw [hu, List.length_cons, List.length_cons, args_length ps h]
  | .bor _ _ :: ps, _, _, _, ⟨_, _, _, _, hu, _, h, _, _⟩ => by rw [hu, List.length_cons, List.length_cons, args_length ps h]

/-- The state at the start. -/
theorem start_ok {F : Bs} : ∀ (ps : List PT) {x : Args ps} {us : List Value} {G : Bs} (t r : Nat), ArgsR w F ps x us G →
    ∃ es, (startA ps x t r).2 = es.map (fun e => (e.k, e.ob)) ∧ es.length = borrowed ps ∧ FreshOk w F r G es ∧
      ∀ t' v, get t' (startA ps x t r).1 = some v → ∃ j u, t' = t + j ∧ us[j]? = some u ∧ (∀ q ∈ refsOf v, r ≤ q.root ∧ q.root < r + es.length) ∧ ∀ β obs, At β obs es → VR w β obs F v u
  | [], _, _, _, t, r, ⟨_, hE⟩ => ⟨[], rfl, rfl, FreshOk.nil hE, fun t' v h => by cases h⟩
  | .imm τ :: ps, x, _, _, t, r, ⟨u, us, hu, hp, hval, ha⟩ => by
    obtain ⟨es, h1, h2, h3, h4⟩ := start_ok ps (t + 1) r ha
    subst hu
    refine ⟨es, h1, h2, h3, fun t' v h => ?_⟩
    have h' : (bif Nat.beq t t' then some (τ.toV x.1) else get t' (startA ps x.2 (t + 1) r).1) = some v := h
    cases e : Nat.beq t t' with
    | true =>
      rw [e] at h'
      injection h' with h'; subst h'
      have := Nat.eq_of_beq_eq_true e
      subst this
      exact ⟨0, u, rfl, rfl, fun q hq => (by rw [refs_toV] at hq; cases hq), fun β obs _ => ValR.vr hp hval⟩
    | false =>
      rw [e] at h'
      obtain ⟨j, u', e1, e2, e3⟩ := h4 t' v h'
      exact ⟨j + 1, u', by omega, by simpa using e2, e3⟩
  | .bor τ rw' :: ps, x, _, G, t, r, ⟨u, us, G1, G2, hu, hbx, ha, hd, hG⟩ => by
    obtain ⟨es, h1, h2, h3, h4⟩ := start_ok ps (t + 1) (r + 1) ha
    subst hu
    obtain ⟨b, row, G', hc, hr, hl, hnb, hGb⟩ := hbx
    injection hc with hc
    have one : FreshOk w F r G1 [⟨r, .box (some τ) (τ.leaves x.1), some (b, 0), G1⟩] := FreshOk.one ⟨b, row, G', rfl, hr, LR.leaves τ _ _ _ hl, hnb, hGb⟩
    refine ⟨⟨r, .box (some τ) (τ.leaves x.1), some (b, 0), G1⟩ :: es, ?_, by rw [List.length_cons, h2]; rfl, one.append h3 hd hG, fun t' v h => ?_⟩
    · show (r, Ob.box (some τ) (τ.leaves x.1)) :: (startA ps x.2 (t + 1) (r + 1)).2 = _
      rw [h1]; rfl
    · have h' : (bif Nat.beq t t' then some (V.hp ⟨r, []⟩ 0 0) else get t' (startA ps x.2 (t + 1) (r + 1)).1) = some v := h
      cases e : Nat.beq t t' with
      | true =>
        rw [e] at h'
        injection h' with h'; subst h'
        have := Nat.eq_of_beq_eq_true e
        subst this
        refine ⟨0, u, rfl, rfl, fun q hq => ?_, fun β obs hat => ?_⟩
        · simp [refsOf, refsOfA, refOf] at hq
          subst hq
          exact ⟨Nat.le_refl _, by rw [List.length_cons]; exact Nat.lt_add_of_pos_right (by omega)⟩
        · obtain ⟨hb, hg⟩ := hat _ List.mem_cons_self
          subst hc
          exact hp_new (F' := F) hg hb
      | false =>
        rw [e] at h'
        obtain ⟨j, u', e1, e2, e3, e4⟩ := h4 t' v h'
        exact ⟨j + 1, u', by omega, by simpa using e2, fun q hq => by have := e3 q hq; rw [List.length_cons]; omega, fun β obs hat => e4 β obs fun e he => hat e (List.mem_cons_of_mem _ he)⟩

/-- A function does what its lifted form says. -/
theorem fun_sound (hmix : P.follows .mixedOrders = true) (hT : TisOk P C) (hE : EnvOk P C) {S : FSem} {fn : Func} {c : Code} (hf : P.funcs[S.id]? = some fn) (hn : (fn.name == "runtime.NumGoroutine") = false) (hb : fn.body = some c)
    {L : (k : Nat) → List (LC (Tys S.rs × Upds S.ps))} (hL : ∀ k, Lok P C (L k) c 0) (heq : ∀ k x, evF C k (L k) fn S.ps S.rs x some = S.f k x) : FSound P S := by
  refine ⟨⟨fn, hf, hn, by rw [hb]; rfl⟩, fun k x y hy w E F G us hargs hF hdE hElt => ?_⟩
  rw [← heq] at hy
  unfold evF at hy
  rw [hb] at hy
  simp only at hy
  cases hpin : (pinsOk C 0 S.ps && Nat.beq C.nt fn.ntmps && Nat.ble S.ps.length C.nt) with
  | false => rw [hpin] at hy; cases hy
  | true =>
    rw [hpin] at hy
    rw [Bool.and_eq_true, Bool.and_eq_true] at hpin
    obtain ⟨⟨hp1, hp2⟩, hp3⟩ := hpin
    have hnt : C.nt = fn.ntmps := Nat.eq_of_beq_eq_true hp2
    have hle : S.ps.length ≤ C.nt := Nat.le_of_ble_eq_true hp3
    have hul := args_length S.ps hargs
    obtain ⟨es, hes1, hes2, hfo, hslot⟩ := start_ok S.ps 0 0 hargs
    have hy' : ev C k (L k) c 0 ⟨(startA S.ps x 0 0).1, (startA S.ps x 0 0).2, borrowed S.ps⟩ (finish C fn S.ps S.rs some) = some y := hy
    generalize hA : ({ tmps := us.toArray ++ Array.replicate (fn.ntmps - us.toArray.size) undef, defers := [] } : Act) = A
    have htmp : ∀ j u, us[j]? = some u → A.tmps[j]? = some u := fun j u hj => by
      have hlt := (List.getElem?_eq_some_iff.1 hj).1
      rw [← hA]
      rw [Array.getElem?_append_left (by simpa using hlt)]
      simpa using hj
    have hsize : A.tmps.size = C.nt := by
      rw [← hA, hnt]
      simp
      rw [hul, ← hnt]; omega
    have hat : At (locE (fun _ => none) es) (startA S.ps x 0 0).2 es := fun e he => ⟨locE_mem hfo.keys he, by rw [hes1]; exact get_ents hfo.keys he⟩
    have hGF : ∀ b, (∃ e ∈ es, e.G b) ↔ G b := fun b => (hfo.cov b).symm
    have hsr : SR C w E (locE (fun _ => none) es) ⟨(startA S.ps x 0 0).1, (startA S.ps x 0 0).2, borrowed S.ps⟩ A F (gE (fun _ _ => False) es) := by
      have h0 : ObsA w E F E (fun _ => none) [] (fun _ _ => False) := ⟨fun q o hq => (by cases hq), fun q q' o o' hq => (by cases hq), fun b => ⟨.inl, fun h => h.elim id fun ⟨q, o, hq, _⟩ => (by cases hq)⟩, fun q o hq => (by cases hq), hElt⟩
      refine ⟨⟨fun t v hv => ?_, obs_new h0 hfo.keys hfo.rel hfo.dj (fun q hq => by rw [hes1]; exact get_ents_none hq) (fun e he => by rw [hes1]; exact get_ents hfo.keys he) (fun b => ?_) (fun e he b hb => hdE b ((hfo.cov b).2 ⟨e, he, hb⟩)) (fun e he q o _ hq => by cases hq) (Nat.le_refl _) (fun q o _ hq => by cases hq) (fun _ _ _ => rfl) (fun b hb => .inl hb), hsize⟩, fun q hq => ?_, fun t v hv r hr => ?_⟩
      · obtain ⟨j, u, ht, hu, _, hvr⟩ := hslot t v hv
        rw [Nat.zero_add] at ht
        subst ht
        exact ⟨u, htmp _ u hu, hvr _ _ hat⟩
      · rw [hF b, ← hGF b]
        constructor
        · rintro (h | h)
          · exact .inl h
          · exact .inr (.inr h)
        · rintro (h | ⟨q, o, _, hq, _⟩ | h)
          · exact .inl h
          · cases hq
          · exact .inr h
      · show q < borrowed S.ps
        by_cases hk : q ∈ keysE es
        · obtain ⟨e, he, rfl⟩ := mem_of_keysE hk
          have := hfo.range e he
          omega
        · have hq' : get q (startA S.ps x 0 0).2 ≠ none := hq
          rw [hes1, get_ents_none hk] at hq'
          exact absurd rfl hq'
      · obtain ⟨j, u, _, _, href, _⟩ := hslot t v hv
        have := href r hr
        show r.root < borrowed S.ps
        omega
    refine calls_of_wp hf hb ?_
    rw [hA]
    refine ev_sound hmix hT hE c 0 (hL k) hy' hsr _ fun e S' w' β' F' Gk' a' hK hS hst => ?_
    have main : (resultsK C fn.results.toList S.rs S'.tm S'.ob fun y obs => updsK S.ps 0 S'.tm obs fun u => some (y, u)) = some y →
        a'.defers = [] ∧ ∃ v, (results fn a'.tmps).run P w' = .ok v w' ∧ (fun e w' => ∃ rs F' G1 G2, e = Ending.returned (pack rs) ∧ ResR w' F' S.rs y.1 rs G1 ∧ BackR w' F' S.ps y.2 us G2 ∧ Dj G1 G2 ∧ Dj G1 E ∧ Dj G2 E ∧ (∀ b, F' b ↔ E b ∨ G1 b ∨ G2 b) ∧
          Apart w w' ∧ Stay w F w' F' (fun _ => False) ∧ ∀ b, E b → w'.heap[b]? = w.heap[b]?) (.returned v) w' := by
      intro hfin
      obtain ⟨ys, obs1, FA1, F1, G1, Gk1, rs, hk1, htook1, hres, hall⟩ := results_ok hT S.rs hS.fr.tm hS.fr.ob.a (fun _ h => h) hfin
      have hF1 : ∀ b, F1 b → FA1 b := fun b hb => Classical.byContradiction fun hn => (htook1.lost b (htook1.less b hb) hn).2.1 hb
      obtain ⟨zs, obs2, FA2, F2, G2, Gk2, hk2, htook2, hback⟩ := upds_ok S.ps (t := 0) (us := us) hp1 hul (fun j hj hlt => by
        rw [Nat.zero_add] at hj ⊢
        rw [hst.same j fun h => h.2 hj]
        rw [List.getElem?_eq_getElem hlt]
        exact htmp j _ (List.getElem?_eq_getElem hlt)) (fun t v hv => by
          obtain ⟨u, hu, hvr⟩ := hS.fr.tm t v hv
          exact ⟨u, hu, hvr.keep (htook1.stay _) fun r _ => htook1.keep r⟩) htook1.ob hF1 hk1
      injection hk2 with hk2
      subst hk2
      have hT2 := htook1.trans htook2
      have hEF2 : ∀ b, E b → F2 b := fun b hb => (htook2.ob.cov b).2 (.inl hb)
      have hF2 : ∀ b, F2 b → FA2 b := fun b hb => Classical.byContradiction fun hn => (htook2.lost b (hF1 b (htook2.less b hb)) hn).2.1 hb
      have hGA : ∀ b, G1 b ∨ G2 b → FA2 b := fun b hb => Classical.byContradiction fun hn => (hT2.lost b (hT2.got b hb) hn).2.2 hb
      have hsub : ∀ b, (E b ∨ G1 b ∨ G2 b) → FA2 b := fun b hb => hb.elim (fun h => hF2 b (hEF2 b h)) (hGA b)
      have hsubF : ∀ b, (E b ∨ G1 b ∨ G2 b) → F' b := fun b hb => hb.elim (fun h => (hS.fr.ob.cov b).2 (.inl h)) (hT2.got b)
      refine ⟨by rw [hst.defers, ← hA], pack rs, run_results hall, rs, fun b => E b ∨ G1 b ∨ G2 b, G1, G2, rfl, ResR.cast S.rs (.inl fun b hb => htook2.sub b (hsub b hb) |> fun h => h) (ResR.cast S.rs (.inl fun b hb => hb) hres), BackR.cast S.ps (.inl hsub) hback, htook1.djG htook2, fun b hb hE' => hT2.dj b (.inl hb) (hEF2 b hE'), fun b hb hE' => hT2.dj b (.inr hb) (hEF2 b hE'), fun b => Iff.rfl,
        hst.apart, ⟨hst.stay.size, fun _ h => h.elim, hst.stay.out, fun b hb => hst.stay.less b (hsubF b hb)⟩, hst.keepE⟩
    cases e with
    | normal => exact main hK
    | ret => exact main hK
    | _ => cases hK
end
end Go.Lf

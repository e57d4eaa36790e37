import Derived.Test.YtgfhdajbgkpgkaaLfKeep
set_option linter.unusedVariables false
/-! Lf: store. -/
namespace Go.Lf

theorem okq_place {e j' : Nat} : ∀ {q p : List (Nat × Nat)}, over p (q ++ [(e, j')]) true = false → okq q (fun p => ∀ i1 j1 p', p = (i1, j1) :: p' → j1 ≠ j') p
  | [], [], _ => fun i1 j1 p' h => by cases h
  | [], (i1, j1) :: p, h => by
    intro i2 j2 p' he hj
    injection he with he _; injection he with _ he; subst he; subst hj
    have h' : (Nat.beq j1 j1 && over p [] true) = false := h
    have e1 : Nat.beq j1 j1 = true := Nat.beq_refl j1
    have e2 : over p [] true = true := by cases p <;> rfl
    rw [e1, e2] at h'
    cases h'
  | (_, j) :: q, [], _ => trivial
  | (_, j) :: q, (_, j1) :: p, h => by
    intro e
    subst e
    have h' : (Nat.beq j1 j1 && over p (q ++ [(e, j')]) true) = false := h
    have e1 : Nat.beq j1 j1 = true := Nat.beq_refl j1
    rw [e1] at h'
    exact okq_place h'

theorem okq_all {α : Type} {ok : α → List (Nat × Nat) → Prop} : ∀ {q p : List (Nat × Nat)}, (∀ t, okq q (ok t) p) → okq q (fun p => ∀ t, ok t p) p
  | [], _, h => h
  | _ :: _, [], _ => trivial
  | (_, _) :: _, (_, _) :: _, h => fun e => okq_all fun t => h t e

theorem okq_mono {ok ok' : List (Nat × Nat) → Prop} (h : ∀ p, ok p → ok' p) : ∀ {q p : List (Nat × Nat)}, okq q ok p → okq q ok' p
  | [], p, hk => h p hk
  | _ :: _, [], _ => trivial
  | (_, _) :: _, (_, _) :: _, hk => fun e => okq_mono h (hk e)

theorem okq_true : ∀ (q p : List (Nat × Nat)), okq q (fun _ => True) p
  | [], _ => trivial
  | _ :: _, [] => trivial
  | (_, _) :: q, (_, _) :: p => fun _ => okq_true q p

theorem mem_placesOf {r : Ref} {i : Nat} : ∀ {j t : Nat} {vs : List V} {v : V}, vs[t]? = some v → isObj v = true → (⟨r.root, r.path ++ [(i, j + t)]⟩, true) ∈ placesOf r i j vs
  | j, 0, v :: vs, _, h, ho => by
    injection h with h; subst h
    unfold placesOf
    rw [ho]
    exact List.mem_cons_self
  | j, t + 1, v :: vs, x, h, ho => by
    have := mem_placesOf (r := r) (i := i) (j := j + 1) (t := t) (vs := vs) (v := x) (by simpa using h) ho
    have e : j + 1 + t = j + (t + 1) := by omega
    rw [e] at this
    unfold placesOf
    cases isObj v
    · exact this
    · exact List.mem_cons_of_mem _ this

theorem overAny_mem {r : Ref} : ∀ {iv : List (Ref × Bool)}, overAny r iv = false → ∀ q e, (q, e) ∈ iv → r.root = q.root → over r.path q.path e = false
  | (q0, e0) :: iv, h, q, e, hm, hr => by
    have h' : ((Nat.beq r.root q0.root && over r.path q0.path e0) || overAny r iv) = false := h
    rw [Bool.or_eq_false_iff] at h'
    rcases List.mem_cons.1 hm with he | hm
    · injection he with e1 e2; subst e1; subst e2
      have e1 : Nat.beq r.root q.root = true := by rw [hr]; exact Nat.beq_refl _
      rw [e1] at h'
      exact h'.1
    · exact overAny_mem h'.2 q e hm hr

theorem placesOf_root {r : Ref} {i : Nat} : ∀ {j : Nat} {vs : List V} {p : Ref × Bool}, p ∈ placesOf r i j vs → p.1.root = r.root
  | j, [], p, h => by cases h
  | j, v :: vs, p, h => by
    unfold placesOf at h
    cases hv : isObj v with
    | false => rw [hv] at h; exact placesOf_root h
    | true =>
      rw [hv] at h
      rcases List.mem_cons.1 h with h | h
      · subst h; rfl
      · exact placesOf_root h

section
variable {w w' : World} {E : Bs} {β : Nat → Option (Nat × Nat)} {FA F FA1 F1 G : Bs} {obs obs' : List (Nat × Ob)} {Gk Gk' : Nat → Bs}

theorem obs_put (h : ObsA w E FA F β obs Gk) (hF : ∀ c, F c → FA c) {k : Nat} {o0 o0' : Ob} {H : Bs} (hg : get k obs = some o0) (hnew : ObR w' (fun c => (F c ∧ ¬ Gk k c) ∨ H c) o0' (β k) H) (hdj : ∀ c, H c → F c → Gk k c)
    (hsize : w.heap.size ≤ w'.heap.size) (hst : ∀ c, F c → ¬ Gk k c → w'.heap[c]? = w.heap[c]?) (hout : ∀ c, ¬ FA c → c < w.heap.size → w'.heap[c]? = w.heap[c]?) (hless : ∀ c, H c → FA c ∨ w.heap.size ≤ c) :
    ObsR w' E (fun c => (F c ∧ ¬ Gk k c) ∨ H c) β (put k o0' obs) (upd Gk k H) := by
  have old : ∀ q o', q ≠ k → get q (put k o0' obs) = some o' → get q obs = some o' := fun q o' hq h => by rw [get_put_ne _ (Ne.symm hq)] at h; exact h
  have sub : ∀ q o', get q obs = some o' → ∀ b, Gk q b → F b := fun q o' hq b hb => (h.cov b).2 (.inr ⟨q, o', hq, hb⟩)
  have nk : ∀ q o', q ≠ k → get q obs = some o' → ∀ b, Gk q b → ¬ Gk k b := fun q o' hq hg' b hb => h.dj q k o' o0 hg' hg hq b hb
  refine ⟨fun q o' hq => ?_, fun q q' o1 o2 h1 h2 hne => ?_, fun b => ?_, fun q o' hq => ?_, fun b hb => Nat.lt_of_lt_of_le (h.elt b hb) hsize⟩
  · by_cases e : q = k
    · subst e
      rw [get_put] at hq
      injection hq with hq; subst hq
      rw [upd_same]
      exact hnew
    · rw [upd_ne _ _ e]
      have hq' := old q o' e hq
      refine (h.rel q o' hq').keep ⟨hsize, fun c hc => hst c (sub q o' hq' c hc) (nk q o' e hq' c hc), hout, fun c hc => ?_⟩
      rcases hc with ⟨hc, _⟩ | hc
      · exact .inl (hF c hc)
      · exact hless c hc
  · by_cases e : q = k
    · subst e
      rw [upd_same, upd_ne _ _ (Ne.symm hne)]
      have h2' := old q' o2 (Ne.symm hne) h2
      exact fun b hb hb' => nk q' o2 (Ne.symm hne) h2' b hb' (hdj b hb (sub q' o2 h2' b hb'))
    · rw [upd_ne _ _ e]
      have h1' := old q o1 e h1
      by_cases e' : q' = k
      · subst e'
        rw [upd_same]
        exact fun b hb hb' => nk q o1 e h1' b hb (hdj b hb' (sub q o1 h1' b hb))
      · rw [upd_ne _ _ e']
        exact h.dj q q' o1 o2 h1' (old q' o2 e' h2) hne
  · constructor
    · rintro (⟨hb, hn⟩ | hb)
      · rcases (h.cov b).1 hb with hE | ⟨q, o', hq, hqb⟩
        · exact .inl hE
        have e : q ≠ k := fun e => hn (e ▸ hqb)
        exact .inr ⟨q, o', by rw [get_put_ne _ (Ne.symm e)]; exact hq, by rw [upd_ne _ _ e]; exact hqb⟩
      · exact .inr ⟨k, o0', get_put _ _ _, by rw [upd_same]; exact hb⟩
    · rintro (hE | ⟨q, o', hq, hqb⟩)
      · exact .inl ⟨(h.cov b).2 (.inl hE), fun hk => h.out k o0 hg b hk hE⟩
      by_cases e : q = k
      · subst e
        rw [upd_same] at hqb
        exact .inr hqb
      · rw [upd_ne _ _ e] at hqb
        have hq' := old q o' e hq
        exact .inl ⟨sub q o' hq' b hqb, nk q o' e hq' b hqb⟩
  · by_cases e : q = k
    · subst e
      rw [upd_same]
      exact fun b hb hE => h.out q o0 hg b (hdj b hb ((h.cov b).2 (.inl hE))) hE
    · rw [upd_ne _ _ e]
      exact h.out q o' (old q o' e hq)
end

section
variable {P : Program} {C : Ctx} {k : Nat} {tm : List (Nat × V)} {obs : List (Nat × Ob)} {fresh : Nat} {o : Oper} {a : Act} {w : World} {E : Bs} {β : Nat → Option (Nat × Nat)} {F : Bs} {Gk : Nat → Bs}

theorem op_store {R : Type} {K : OpK R} {r : R} (hT : TisOk P C) (hf : FR C w E β tm obs a F Gk) {t : TypeId} {x y : Operand} (ho : o.op = .store t x y) (h : opK C k tm obs fresh o K = some r) : OpOk P C k tm obs fresh o a w E β F := by
  have hx : x ∈ o.op.operands := by rw [ho]; simp [Op.operands]
  have hy : y ∈ o.op.operands := by rw [ho]; simp [Op.operands]
  have rx := opnd_rel hf x
  have ry := opnd_rel hf y
  unfold opK at h
  simp only [ho] at h
  split at h
  · cases h
  · rename_i i hi
    obtain ⟨z, inf, hinf, hsz, _⟩ := (hT t i hi).info
    split at h
    · rename_i q e j hb
      rw [hb] at rx
      have hall := rest_fields ry h
      obtain ⟨vs, d, FA1, F1, G, Gk1, hk, hst, htook, hls, hnu, hex⟩ := restsK_sound _ hf.ob.a (fun _ h => h) hall h
      cases hsize : Nat.beq vs.length i.size && Nat.blt 0 i.size with
      | false => rw [hsize] at hk; cases hk
      | true =>
        rw [hsize] at hk
        have hsize' := hsize
        rw [Bool.and_eq_true] at hsize'
        have hlen : vs.length = i.size := Nat.eq_of_beq_eq_true hsize'.1
        have hpos : 0 < i.size := of_decide_eq_true (by simpa [Nat.blt_eq] using hsize'.2)
        have hvs : vs ≠ [] := fun e => by rw [e] at hlen; simp at hlen; omega
        simp only [cond] at hk
        cases hg : get q.root (applyD d obs) with
        | none => rw [hg] at hk; cases hk
        | some o0 =>
          rw [hg] at hk
          simp only at hk
          have hF1 : ∀ b, F1 b → FA1 b := fun b hb => Classical.byContradiction fun hn => (htook.lost b (htook.less b hb) hn).2.1 hb
          have hGA : ∀ b, G b → FA1 b := fun b hb => Classical.byContradiction fun hn => (htook.lost b (htook.got b hb) hn).2.2 hb
          obtain ⟨o1, hgo⟩ := updK_go hk
          have hob0 := htook.ob.rel _ _ hg
          have hcov0 : ∀ c, Gk1 q.root c → F1 c := fun c hc => (htook.ob.cov c).2 (.inr ⟨_, _, hg, hc⟩)
          obtain ⟨loc1, G1, hway, hob1, hs1, _, hupd, hclose⟩ := upd_path q.path hob0 hgo
          rw [hupd] at hk
          have hfit := fits_of_write hvs hk
          obtain ⟨b, off, row, Gm, Gr, old, hloc, hrow, hle, _, hG, hdmr, hnm, hnr, _, hwr⟩ := write_ob hob1 hfit
          obtain ⟨o1', hk1, hlike, hst1, hcl1⟩ := hwr vs rfl _ _ _ hk
          obtain ⟨o0', hk0, hlike0, hst0, hcl0⟩ := hclose o1' _ _ _ hlike hk1
          subst hloc
          -- the address
          obtain ⟨ad, hux, hpl⟩ := rx
          have hat1 : atLoc w β (applyD d obs) q = some (o1, some (b, off)) := by unfold atLoc; simp only [hg]; exact hway
          obtain ⟨ob, hat, hlk, _⟩ := htook.keep q _ _ hat1
          obtain ⟨b', off', hloc', had⟩ := hpl _ _ hat
          injection hloc' with e1; injection e1 with e1 e2; subst e1; subst e2
          rw [ix_like hlk] at had
          -- memory
          have hul := hls.length
          have hcells : ∀ u ∈ (a.eval y).cells.toList, u.oneCell' = true := by
            intro u hu
            obtain ⟨p, hp⟩ := List.getElem?_of_mem hu
            have hpl : p < vs.length := by rw [← hul]; exact (List.getElem?_eq_some_iff.1 hp).1
            obtain ⟨u2, G2, hu2, hlf⟩ := hls.to p vs[p] (List.getElem?_eq_getElem hpl)
            rw [hp] at hu2; injection hu2 with hu2; subst hu2
            exact oneCell_leaf hlf (hnu _ (List.getElem_mem hpl))
          have hrun := run_store_row (P := P) hrow (o := off + ix o1 e j) (us := (a.eval y).cells.toList) (by rw [hul]; exact hle) hcells
          obtain ⟨row', hrow', hsp⟩ := setCells_row b (a.eval y).cells.toList (off + ix o1 e j) w row hrow (by rw [hul]; exact hle)
          have hother : ∀ c, c ≠ b → (w.setCells b (off + ix o1 e j) (a.eval y).cells.toList).heap[c]? = w.heap[c]? := fun c hc => setCells_other b _ _ w c hc
          have hhs : (w.setCells b (off + ix o1 e j) (a.eval y).cells.toList).heap.size = w.heap.size := setCells_size b _ _ w
          generalize hw' : w.setCells b (off + ix o1 e j) (a.eval y).cells.toList = w' at *
          have hbG1 : G1 b := (hG b).2 (.inl rfl)
          have hbF : F1 b := hcov0 b (hs1 b hbG1)
          have hbFA : FA1 b := hF1 b hbF
          have hout : ∀ c, ¬ FA1 c → c < w.heap.size → w'.heap[c]? = w.heap[c]? := fun c hc _ => hother c fun e => hc (e ▸ hbFA)
          have hA := hcl1 w' FA1 (a.eval y).cells.toList row' G hrow' hsp hul
            (Lets.intro fun F' hF' => hls.keep ⟨by rw [hhs]; exact Nat.le_refl _, fun c hc => hother c fun e => htook.dj c hc (e ▸ hbF), hout, fun c hc => .inl (hF' c hc)⟩)
            (fun c hc hc' => htook.dj c hc (hc'.elim (fun e => e ▸ hbF) fun h => hcov0 c (hs1 c ((hG c).2 (.inr (.inr h))))))
            ⟨by rw [hhs]; exact Nat.le_refl _, fun c _ hcb => hother c hcb, hout, fun c hc => .inl hc⟩
          have hB := hcl0 w' FA1 _ hA
            (fun c hc hc' => by
              rcases hc with hc | hc | hc
              · exact htook.dj c hc (hcov0 c hc'.1)
              · exact hc'.2 (hc ▸ hbG1)
              · exact hc'.2 ((hG c).2 (.inr (.inr hc))))
            (fun c rw' hr hc => by
              by_cases e : c = b
              · subst e
                have := hrow.eq hr
                subst this
                exact ⟨row', hrow', hsp.size⟩
              · exact ⟨rw', hr.keep (hother c e), rfl⟩)
            ⟨by rw [hhs]; exact Nat.le_refl _, fun c hc => hother c fun e => hc.2 (e ▸ hbG1), hout, fun c hc => .inl hc⟩
          obtain ⟨H, hHs, hH⟩ := hB
          have hHsub : ∀ c, H c → G c ∨ Gk1 q.root c := by
            intro c hc
            rcases hHs c hc with (h | h | h) | h
            · exact .inl h
            · exact .inr (h ▸ hs1 b hbG1)
            · exact .inr (hs1 c ((hG c).2 (.inr (.inr h))))
            · exact .inr h.1
          have hnew := hH (fun c => (F1 c ∧ ¬ Gk1 q.root c) ∨ H c) (fun c hc => hc.elim (fun h => hF1 c h.1) fun h => (hHsub c h).elim (hGA c) fun h => hF1 c (hcov0 c h))
            (fun c hc hn hc' => hc'.elim (fun h => by
              rcases hc with (h' | h' | h') | h'
              · exact htook.dj c h' h.1
              · exact h.2 (h' ▸ hs1 b hbG1)
              · exact h.2 (hs1 c ((hG c).2 (.inr (.inr h'))))
              · exact h.2 h'.1) hn)
          have hobs := obs_put htook.ob hF1 hg hnew (fun c hc hF => (hHsub c hc).elim (fun h => absurd hF (htook.dj c h)) id) (by rw [hhs]; exact Nat.le_refl _) (fun c hc hn => hother c fun e => hn (e ▸ hs1 b hbG1)) hout
            (fun c hc => .inl ((hHsub c hc).elim (hGA c) fun h => hF1 c (hcov0 c h)))
          have eqD : applyD (d ++ [(q.root, some o0')]) obs = put q.root o0' (applyD d obs) := by rw [applyD_append]; rfl
          refine ⟨.undef, d ++ [(q.root, some o0')], [q.root], placesOf q e j vs, fun tm' obs' ht hd R' K' => ?_, Src.none rfl, ?_, fun next Q hnext => ?_⟩
          · unfold opK
            simp only [ho, hi, ht x hx, ht y hy, hb]
            rw [hst _ _ obs' fun q hq => hd q (.inr (by rw [keysOf_append]; exact List.mem_append.2 (.inl hq)))]
            simp only [hsize, cond]
            have hg' : get q.root (applyD d obs') = some o0 := by
              rw [get_applyD_congr d obs obs' (hd q.root (.inl (by simp)))]; exact hg
            rw [hg']
            simp only
            rw [hupd, hst1]
            exact hst0 _ _
          · refine ⟨fun c hc => ?_, fun p hp => ?_⟩
            · rw [keysOf_append] at hc
              rcases List.mem_append.1 hc with hc | hc
              · exact .inl (hex c hc)
              · simp [keysOf] at hc
                subst hc
                refine .inl fun hn => ?_
                by_cases e : q.root ∈ keysOf d
                · exact hex _ e hn
                · rw [get_applyD d obs e, hn] at hg; cases hg
            · rw [placesOf_root hp, keysOf_append]
              simp [keysOf]
          · unfold Oper.wp
            have hex : (execOp a.eval o).run P w = .ok .skip w' := by
              have hcs : (a.eval y).cells.size = inf.size := by rw [← Array.length_toList, hul, hlen, hsz]
              simp [execOp, ho, Instr.storeAt, Instr.sureAddr, hux, storeVar, sizeOf, typeInfo, hinf, hcs, had, hrun]
            rw [hex, Oper.upon_skip]
            refine hnext undef w' β _ _ (by rw [eqD]; exact hobs) trivial (hw' ▸ setCells_apart b _ _ w) ⟨by rw [hhs]; exact Nat.le_refl _, fun c hc => hc.elim, fun c hc _ => hother c fun e => hc (e ▸ htook.less b hbF), fun c hc => .inl ?_⟩ (fun c hE => hother c fun e => htook.ob.out _ _ hg b (hs1 b hbG1) (e ▸ hE)) fun r' hr' hiv => ?_
            · rcases hc with ⟨hc, _⟩ | hc
              · exact htook.less c hc
              · exact (hHsub c hc).elim (htook.got c) fun h => htook.less c (hcov0 c h)
            · rw [eqD]
              refine (htook.keep r').trans ?_
              by_cases er : r'.root = q.root
              · intro o' loc hl
                have hl' : way w' o0' (β q.root) r'.path = some (o', loc) := by
                  unfold atLoc at hl
                  rw [er, get_put] at hl
                  exact hl
                have hok : okq q.path (fun p => ∀ i1 j1 p' v, p = (i1, j1) :: p' → inRange o1 e j vs.length i1 j1 → vs[j1 - j]? = some v → ¬ (isOwned v = true ∨ v = .nils)) r'.path := by
                  have h1 : ∀ t : Nat, okq q.path (fun p => ∀ v, vs[t]? = some v → isObj v = true → ∀ i1 j1 p', p = (i1, j1) :: p' → j1 ≠ j + t) r'.path := by
                    intro t
                    cases hvt : vs[t]? with
                    | none => exact okq_mono (ok := fun _ => True) (fun _ _ v hv => by cases hv) (okq_true _ _)
                    | some v =>
                      cases hov : isObj v with
                      | false =>
                        refine okq_mono (ok := fun _ => True) (fun _ _ v' hv' ho' => ?_) (okq_true _ _)
                        injection hv' with hv'; subst hv'; rw [hov] at ho'; cases ho'
                      | true =>
                        refine okq_mono (fun p hp v' hv' _ => hp) (okq_place (e := e) (j' := j + t) ?_)
                        exact overAny_mem hiv _ _ (mem_placesOf hvt hov) er
                  refine okq_mono (fun p hp i1 j1 p' v he hin hv hd => ?_) (okq_all h1)
                  have ejj : j ≤ j1 := by cases o1 <;> simp only [inRange] at hin <;> omega
                  refine hp (j1 - j) v hv ?_ i1 j1 p' he (by omega)
                  rcases hd with hd | hd
                  · cases v <;> first | rfl | cases hd
                  · subst hd; rfl
                have hwkey : o1.writeK e j vs some = some o1' := hst1 _ some
                obtain ⟨oo, hoo, hlko⟩ := way_upd (w' := w') (F := FA1) (Gx := fun c => c = b) (by rw [hhs]; exact Nat.le_refl _) hout hob1 (fun n hn => by rw [hn]; exact hbG1)
                  (way_write (by rw [hhs]; exact Nat.le_refl _) hout hob1 hvs hwkey hrow hrow' hsp hul (fun c _ hc => hother c hc)) q.path hob0 hway (fun c _ hc => hother c hc) (hst0 _ some) o0' (.inl rfl) r'.path hok o' loc hl'
                refine ⟨oo, ?_, hlko, fun b2 off2 e2 rw2 hr2 => ?_⟩
                · unfold atLoc; rw [er, hg]; exact hoo
                · by_cases e3 : b2 = b
                  · subst e3
                    have := hrow.eq hr2
                    subst this
                    exact ⟨row', hrow', hsp.size⟩
                  · exact ⟨rw2, hr2.keep (hother b2 e3), rfl⟩
              · refine RefKeep.of_stay (FA' := FA1) htook.ob rfl (get_put_ne _ (Ne.symm er) _) fun o2 ho2 => ?_
                refine ⟨by rw [hhs]; exact Nat.le_refl _, fun c hc => hother c fun e => ?_, hout, fun c hc => .inl hc⟩
                exact htook.ob.dj _ _ o2 o0 ho2 hg er c hc (e ▸ hs1 b hbG1)
    · cases h
end
end Go.Lf

import Derived.Test.YtgfhdajbgkpgkaaLfCall2
set_option linter.unusedVariables false
/-! Lf: a call. -/
namespace Go.Lf

/-- What the context says of other functions. -/
def EnvOk (P : Program) (C : Ctx) : Prop := ∀ f S, findF f C.env = some S → S.id = f ∧ FSound P S

theorem mem_iff {k : Nat} : ∀ l : List Nat, mem k l = true ↔ k ∈ l
  | [] => ⟨fun h => (by cases h), fun h => (by cases h)⟩
  | j :: l => by
    unfold mem
    cases h : Nat.beq j k with
    | true => have := Nat.eq_of_beq_eq_true h; subst this; exact ⟨fun _ => List.mem_cons_self, fun _ => rfl⟩
    | false =>
      have hne : j ≠ k := fun e => by subst e; rw [Nat.beq_refl] at h; cases h
      simp only [cond]
      rw [mem_iff l, List.mem_cons]
      exact ⟨.inr, fun h => h.resolve_left fun e => hne e.symm⟩

theorem disj_ok : ∀ {a b : List Nat}, disj a b = true → ∀ q ∈ a, q ∉ b
  | [], _, _, q, hq => by cases hq
  | x :: a, b, h, q, hq => by
    have h' : (!mem x b && disj a b) = true := h
    rw [Bool.and_eq_true] at h'
    rcases List.mem_cons.1 hq with rfl | hq
    · intro hb
      rw [(mem_iff b).2 hb] at h'
      cases h'.1
    · exact disj_ok h'.2 q hq

theorem nodup_ok : ∀ {a : List Nat}, nodup a = true → a.Nodup
  | [], _ => List.nodup_nil
  | x :: a, h => by
    have h' : (!mem x a && nodup a) = true := h
    rw [Bool.and_eq_true] at h'
    refine List.nodup_cons.2 ⟨fun hx => ?_, nodup_ok h'.2⟩
    rw [(mem_iff a).2 hx] at h'
    cases h'.1

theorem run_call {P : Program} {a : Act} {w : World} {o : Oper} {c : Call} {x : Operand} {f : FuncId} {caps : Array Value} {fn : Func} (ho : o.op = .call c) (hc : c.callee = .value x) (hx : a.eval x = .func (.func f) #[] caps)
    (hf : P.funcs[f]? = some fn) (hn : (fn.name == "runtime.NumGoroutine") = false) (hb : fn.body.isNone = false) :
    (execOp a.eval o).run P w = .ok (.enter f (c.args.map a.eval ++ caps)) w := by
  have hn' : fn.name ≠ "runtime.NumGoroutine" := by simpa using hn
  have hb' : fn.body ≠ none := by intro e; rw [e] at hb; cases hb
  simp [execOp, ho, resolve, hc, hx, Deferred.ofValue, invoke, callFunc, hf, hn', hb']

section
variable {P : Program} {C : Ctx} {k : Nat} {tm : List (Nat × V)} {obs : List (Nat × Ob)} {fresh : Nat} {o : Oper} {a : Act} {w : World} {E : Bs} {β : Nat → Option (Nat × Nat)} {F : Bs} {Gk : Nat → Bs}

theorem VRl.vr {v : V} {u : Value} (h : VRl w β obs F v u) : VR w β obs F v u := by
  cases v <;> first | exact h | exact h.elim

theorem All2.maps {α γ δ : Type} {Q : γ → δ → Prop} {f : α → γ} {g : α → δ} : ∀ {l : List α}, (∀ x ∈ l, Q (f x) (g x)) → All2 Q (l.map f) (l.map g)
  | [], _ => .nil
  | x :: l, h => .cons (h x (by simp)) (All2.maps fun y hy => h y (by simp [hy]))

theorem callK_ok {R : Type} {K : OpK R} {r : R} {S : FSem} (hob : ObsR w E F β obs Gk) (hfr : Free obs fresh) (hS : FSound P S) {vs : List V} {us : List Value} (hv : All2 (VR w β obs F) vs us) (h : callK S k fresh vs obs K = some r) :
    ∃ v d rd iv, (∀ obs', (∀ q, q ∈ rd ∨ q ∈ keysOf d → get q obs' = get q obs) → ∀ (R : Type) (K : OpK R), callK S k fresh vs obs' K = K v d rd iv) ∧ (∀ r ∈ refsOf v, inR fresh r ∧ r.path = []) ∧ Keys obs fresh d iv ∧
      Calls P S.id us.toArray w fun e w' => ∃ u, e = .returned u ∧ ∃ β' F' Gk', ObsR w' E F' β' (applyD d obs) Gk' ∧ VR w' β' (applyD d obs) F' v u ∧ Apart w w' ∧ Stay w F w' F' (fun _ => False) ∧ (∀ b, E b → w'.heap[b]? = w.heap[b]?) ∧
        ∀ r, ¬ inR fresh r → overAny r iv = false → RefKeep w β obs w' β' (applyD d obs) r := by
  unfold callK at h
  obtain ⟨xs, bs, d, sn, FA1, F1, G, hk, hst, hok, hlink, hGk, hbox, hargs⟩ := args_ok S.ps hob.a (fun _ h => h) hv h
  cases hc : disj sn bs && nodup bs && allRw S.ps with
  | false => rw [hc] at hk; cases hk
  | true =>
    rw [hc] at hk
    simp only [cond] at hk
    have hc' := hc
    rw [Bool.and_eq_true, Bool.and_eq_true] at hc'
    have hdis := disj_ok hc'.1.1
    have hnd := nodup_ok hc'.1.2
    cases hy : S.f k xs with
    | none => rw [hy] at hk; cases hk
    | some y =>
      rw [hy] at hk
      simp only [Option.bind] at hk
      generalize hft : freshTup S.rs y.1 fresh = ft at hk
      obtain ⟨rs', d', k'⟩ := ft
      simp only at hk
      cases hfit : Nat.ble k' (fresh + 4) with
      | false => rw [hfit] at hk; cases hk
      | true =>
        rw [hfit] at hk
        simp only at hk
        have hfit' : k' ≤ fresh + 4 := Nat.le_of_ble_eq_true hfit
        generalize hbd : backD S.ps y.2 bs = bd at hk
        obtain ⟨d'', iv⟩ := bd
        -- what the callee may not touch
        have hob1 := hok.took.ob
        have hF1 : ∀ b, F1 b → FA1 b := fun b hb => Classical.byContradiction fun hn => (hok.took.lost b (hok.took.less b hb) hn).2.1 hb
        have hbs1 : ∀ q ∈ bs, q ∉ keysOf d := fun q hq hd => hdis q (hok.sub q hd) hq
        have hget1 : ∀ q, q ∉ keysOf d → get q (applyD d obs) = get q obs := fun q hq => get_applyD d obs hq
        have hbox1 : ∀ q ∈ bs, ∃ t fs, get q (applyD d obs) = some (.box t fs) := fun q hq => by
          obtain ⟨t, fs, hb⟩ := hbox q hq
          exact ⟨t, fs, by rw [hget1 q (hbs1 q hq)]; exact hb⟩
        have hGF : ∀ b, G b → F1 b := fun b hb => by
          obtain ⟨q, hq, hqb⟩ := hGk b hb
          obtain ⟨t, fs, hg⟩ := hbox1 q hq
          exact (hob1.cov b).2 (.inr ⟨q, _, hg, hqb⟩)
        let Ec : Bs := fun b => E b ∨ ∃ q o, get q (applyD d obs) = some o ∧ q ∉ bs ∧ q ∉ sn ∧ Gk q b
        have hEcF : ∀ b, Ec b → F1 b := fun b hb => by
          rcases hb with hb | ⟨q, o, hq, _, _, hqb⟩
          · exact (hob1.cov b).2 (.inl hb)
          · exact (hob1.cov b).2 (.inr ⟨q, o, hq, hqb⟩)
        have hGEc : Dj G Ec := fun b hb hb' => by
          obtain ⟨q, hq, hqb⟩ := hGk b hb
          obtain ⟨t, fs, hg⟩ := hbox1 q hq
          rcases hb' with hb' | ⟨q', o, hq', hn, _, hqb'⟩
          · exact hob1.out q _ hg b hqb hb'
          · exact hob1.dj q q' _ o hg hq' (fun e => hn (e ▸ hq)) b hqb hqb'
        let Fc : Bs := fun b => Ec b ∨ G b
        have hFcF : ∀ b, Fc b → F1 b := fun b hb => hb.elim (hEcF b) (hGF b)
        have hsnF : ∀ q ∈ sn, q ∉ keysOf d → ∀ b, Gk q b → ¬ Fc b := fun q hq hqd b hb hf => by
          have hex := hok.ex q hq
          cases hg : get q (applyD d obs) with
          | none => rw [hget1 q hqd] at hg; exact hex hg
          | some oq =>
            rcases hf with (hf | ⟨q', o', hq', _, hn, hqb'⟩) | hf
            · exact hob1.out q oq hg b hb hf
            · exact hob1.dj q q' oq o' hg hq' (fun e => hn (e ▸ hq)) b hb hqb'
            · obtain ⟨q', hq', hqb'⟩ := hGk b hf
              obtain ⟨t, fs, hg'⟩ := hbox1 q' hq'
              exact hob1.dj q q' oq _ hg hg' (fun e => hdis q hq (e ▸ hq')) b hb hqb'
        have hA : ArgsR w Fc S.ps xs us G := hargs Fc ⟨fun b hb => hF1 b (hFcF b hb), hsnF⟩ hnd hdis fun q hq b hb hf => by
          rcases hf with hf | hf
          · obtain ⟨t, fs, hg⟩ := hbox1 q hq
            rcases hf with hf | ⟨q', o', hq', hn, _, hqb'⟩
            · exact absurd hf (hob1.out q _ hg b hb)
            · exact absurd hqb' (hob1.dj q q' _ o' hg hq' (fun e => hn (e ▸ hq)) b hb)
          · exact hf
        have hcall := hS.calls k xs y hy w Ec Fc G us hA (fun b => Iff.rfl) hGEc fun b hb => obs_lt hob1 b (hEcF b hb)
        have hfk : ∀ q ∈ bs, ¬ (fresh ≤ q ∧ q < fresh + 4) := fun q hq ⟨h1, h2⟩ => by
          obtain ⟨t, fs, hg⟩ := hbox q hq
          rw [hfr q h1 h2] at hg; cases hg
        -- for what is said of the abstract side, some run of the callee
        obtain ⟨e0, w0, _, ⟨rs0, F0, G10, G20, _, hres0, hback0, _⟩, _⟩ := hcall []
        obtain ⟨vs0, es0, hf0, hfo0, hnr0, hvr0⟩ := freshTup_ok S.rs fresh hres0
        rw [hft] at hf0
        injection hf0 with hf1 hf2; injection hf2 with hf2 hf3; subst hf1; subst hf2; subst hf3
        obtain ⟨bs0, hb0, hbk0, _⟩ := back_ok S.ps hA hback0 hlink
        rw [hbd] at hb0
        injection hb0 with hb1 hb2; subst hb1; subst hb2
        have hkeys : keysOf (d ++ (dOf bs0 ++ dOf es0)) = keysOf d ++ (bs ++ keysE es0) := by
          rw [keysOf_append, keysOf_append, keysOf_dOf, keysOf_dOf, hbk0]
        refine ⟨one rs', d ++ (dOf bs0 ++ dOf es0), sn ++ bs, bs.map fun k => (⟨k, []⟩, false), fun obs' hq R' K' => ?_, fun r hr => ?_, ⟨fun q hq => ?_, fun p hp => ?_⟩, ?_⟩
        · unfold callK
          rw [hst R' _ obs' (fun q hq' => hq q (.inl (List.mem_append.2 (.inl hq')))) (fun q hq' => hq q (.inl (List.mem_append.2 (.inr hq')))) hdis]
          simp only [hc, cond, hy, Option.bind, hft, hfit, hbd]
        · have hr' := (one_ok (hvr0 (locE β es0) (applyD (dOf es0) []) fun e he => ⟨locE_mem hfo0.keys he, get_dOf hfo0.keys he⟩)).2 r hr
          have := hnr0 r hr'
          exact ⟨⟨this.1, by omega⟩, this.2.2⟩
        · rw [hkeys] at hq
          rcases List.mem_append.1 hq with hq | hq
          · exact .inl (hok.ex q (hok.sub q hq))
          · rcases List.mem_append.1 hq with hq | hq
            · obtain ⟨t, fs, hg⟩ := hbox q hq
              exact .inl (by rw [hg]; exact fun e => by cases e)
            · obtain ⟨e, he, rfl⟩ := mem_of_keysE hq
              have := hfo0.range e he
              exact .inr ⟨this.1, by omega⟩
        · obtain ⟨q, hq, rfl⟩ := List.mem_map.1 hp
          rw [hkeys]
          exact List.mem_append.2 (.inr (List.mem_append.2 (.inl hq)))
        · refine hcall.mono fun e w' ⟨rs, F', G1, G2, he, hres, hback, hd12, hd1, hd2, hF', hap, hstay, hEk⟩ => ?_
          -- the new objects
          have hshare : (∀ b, (E b ∨ (∃ q o, get q (applyD d obs) = some o ∧ q ∉ bs ∧ Gk q b) ∨ G1 b ∨ G2 b) → F' b) ∨ (hasSl S.rs = false ∧ borSl S.ps = false) := by
            cases hsh : (hasSl S.rs || borSl S.ps) with
            | false => rw [Bool.or_eq_false_iff] at hsh; exact .inr hsh
            | true =>
              refine .inl fun b hb => (hF' b).2 ?_
              rcases hb with hb | ⟨q, o, hq, hn, hqb⟩ | hb | hb
              · exact .inl (.inl hb)
              · by_cases hs : q ∈ sn
                · have := hok.gone q (hok.all hsh q hs)
                  rw [this] at hq; cases hq
                · exact .inl (.inr ⟨q, o, hq, hn, hs, hqb⟩)
              · exact .inr (.inl hb)
              · exact .inr (.inr hb)
          let Fn : Bs := fun b => E b ∨ (∃ q o, get q (applyD d obs) = some o ∧ q ∉ bs ∧ Gk q b) ∨ G1 b ∨ G2 b
          have hres' : ResR w' Fn S.rs y.1 rs G1 := ResR.cast S.rs (hshare.imp id fun h => h.1) hres
          have hback' : BackR w' Fn S.ps y.2 us G2 := BackR.cast S.ps (hshare.imp id fun h => h.2) hback
          obtain ⟨vs1, es1, hf1, hfo, hnr, hvr⟩ := freshTup_ok S.rs fresh hres'
          rw [hft] at hf1
          injection hf1 with hf1 hf2; injection hf2 with hf2 hf3; subst hf1
          obtain ⟨bs1, hb1, hbk, hbdj, hbrel, hbcov, hbold⟩ := back_ok S.ps hA hback' hlink
          rw [hbd] at hb1
          injection hb1 with hb1 _
          have hkE : keysE (bs1 ++ es1) = bs ++ keysE es1 := by rw [keysE_append, hbk]
          have hnotk : ∀ q, q ∉ keysE (bs1 ++ es1) → q ∉ bs := fun q hq hb => hq (by rw [hkE]; exact List.mem_append.2 (.inl hb))
          have hdD : applyD (d ++ (dOf bs0 ++ dOf es0)) obs = applyD (dOf (bs1 ++ es1)) (applyD d obs) := by rw [applyD_append, dOf_append, hb1, hf2]
          have hnd1 : (keysE (bs1 ++ es1)).Nodup := by
            rw [hkE]
            refine List.nodup_append.2 ⟨hnd, hfo.keys, fun q hq q' hq' e => ?_⟩
            obtain ⟨x, hx, rfl⟩ := mem_of_keysE hq'
            have := hfo.range x hx
            exact hfk q hq ⟨by omega, by omega⟩
          have hcovE : ∀ b, (∃ e ∈ bs1 ++ es1, e.G b) ↔ G1 b ∨ G2 b := fun b => by
            rw [hfo.cov b, hbcov b]
            constructor
            · rintro ⟨e, he, hb⟩
              exact (List.mem_append.1 he).elim (fun he => .inr ⟨e, he, hb⟩) fun he => .inl ⟨e, he, hb⟩
            · rintro (⟨e, he, hb⟩ | ⟨e, he, hb⟩)
              · exact ⟨e, List.mem_append.2 (.inr he), hb⟩
              · exact ⟨e, List.mem_append.2 (.inl he), hb⟩
          have hGnew : ∀ b, G1 b ∨ G2 b → Fc b ∨ w.heap.size ≤ b := fun b hb => hstay.less b ((hF' b).2 (.inr hb))
          have hGK : ∀ b, G1 b ∨ G2 b → ∀ q o, q ∉ bs → get q (applyD d obs) = some o → ¬ Gk q b := fun b hb q o hn hq hqb => by
            by_cases hs : q ∈ sn
            · have hqd : q ∉ keysOf d := fun e => by rw [hok.gone q e] at hq; cases hq
              rcases hGnew b hb with h | h
              · exact hsnF q hs hqd b hqb h
              · exact absurd ((hob1.rel q o hq).lt b hqb) (Nat.not_lt.2 h)
            · have hE : Ec b := .inr ⟨q, o, hq, hn, hs, hqb⟩
              exact hb.elim (fun h => hd1 b h hE) fun h => hd2 b h hE
          have hFn : ∀ b, Fn b ↔ E b ∨ (∃ q o, q ∉ keysE (bs1 ++ es1) ∧ get q (applyD d obs) = some o ∧ Gk q b) ∨ ∃ e ∈ bs1 ++ es1, e.G b := fun b => by
            rw [hcovE b]
            constructor
            · rintro (h | ⟨q, o, hq, hn, hqb⟩ | h)
              · exact .inl h
              · refine .inr (.inl ⟨q, o, fun hk => ?_, hq, hqb⟩)
                rw [hkE] at hk
                rcases List.mem_append.1 hk with hk | hk
                · exact hn hk
                · obtain ⟨x, hx, rfl⟩ := mem_of_keysE hk
                  have := hfo.range x hx
                  have hnone := hfr x.k this.1 (by omega)
                  by_cases e : x.k ∈ keysOf d
                  · rw [hok.gone _ e] at hq; cases hq
                  · rw [hget1 _ e, hnone] at hq; cases hq
              · exact .inr (.inr h)
            · rintro (h | ⟨q, o, hk, hq, hqb⟩ | h)
              · exact .inl h
              · exact .inr (.inl ⟨q, o, hq, hnotk q hk, hqb⟩)
              · exact .inr (.inr h)
          have hobs := obs_new (w' := w') (F' := Fn) (obs' := applyD (dOf (bs1 ++ es1)) (applyD d obs)) hob1 hnd1 (fun e he => (List.mem_append.1 he).elim (hbrel e) (hfo.rel e))
            (List.pairwise_append.2 ⟨hbdj, hfo.dj, fun e he f hf b hb hb' => hd12 b ((hfo.cov b).2 ⟨f, hf, hb'⟩) ((hbcov b).2 ⟨e, he, hb⟩)⟩)
            (fun q hq => get_applyD _ _ (by rw [keysOf_dOf]; exact hq)) (fun e he => get_dOf hnd1 he) hFn
            (fun e he b hb hE => by
              have := (hcovE b).1 ⟨e, he, hb⟩
              exact this.elim (fun h => hd1 b h (.inl hE)) fun h => hd2 b h (.inl hE))
            (fun e he q o hk hq b hb => hGK b ((hcovE b).1 ⟨e, he, hb⟩) q o (hnotk q hk) hq)
            hstay.size
            (fun q o hk hq b hqb => by
              by_cases hs : q ∈ sn
              · have hqd : q ∉ keysOf d := fun e => by rw [hok.gone q e] at hq; cases hq
                exact hstay.out b (hsnF q hs hqd b hqb) ((hob1.rel q o hq).lt b hqb)
              · exact hEk b (.inr ⟨q, o, hq, hnotk q hk, hs, hqb⟩))
            (fun b hb hlt => hstay.out b (fun h => hb (hF1 b (hFcF b h))) hlt)
            (fun b hb => by
              rcases hb with hb | ⟨q, o, hq, hn, hqb⟩ | hb
              · exact .inl (hF1 b ((hob1.cov b).2 (.inl hb)))
              · exact .inl (hF1 b ((hob1.cov b).2 (.inr ⟨q, o, hq, hqb⟩)))
              · exact (hGnew b hb).imp (fun h => hF1 b (hFcF b h)) id)
          have hat : At (locE β (bs1 ++ es1)) (applyD (dOf (bs1 ++ es1)) (applyD d obs)) es1 := fun e he => ⟨locE_mem hnd1 (List.mem_append.2 (.inr he)), get_dOf hnd1 (List.mem_append.2 (.inr he))⟩
          refine ⟨pack rs, he, locE β (bs1 ++ es1), Fn, _, by rw [hdD]; exact hobs, by rw [hdD]; exact (one_ok (hvr _ _ hat)).1, hap, ⟨hstay.size, fun b hb => hb.elim, fun b hb hlt => hstay.out b (fun h => hb (hok.took.less b (hFcF b h))) hlt, fun b hb => ?_⟩, fun b hb => hEk b (.inl hb), fun r hr hiv => ?_⟩
          · rcases hb with hb | ⟨q, o, hq, hn, hqb⟩ | hb
            · exact .inl (hok.took.less b ((hob1.cov b).2 (.inl hb)))
            · exact .inl (hok.took.less b ((hob1.cov b).2 (.inr ⟨q, o, hq, hqb⟩)))
            · exact (hGnew b hb).imp (fun h => hok.took.less b (hFcF b h)) id
          · rw [hdD]
            refine (hok.took.keep r).trans ?_
            by_cases hrb : r.root ∈ bs
            · -- the block itself
              have hp : r.path = [] := by
                cases hpath : r.path with
                | nil => rfl
                | cons p l =>
                  exfalso
                  have : ∀ l' : List Nat, r.root ∈ l' → overAny r (l'.map fun k => ((⟨k, []⟩ : Ref), false)) = true := by
                    intro l'
                    induction l' with
                    | nil => intro h; cases h
                    | cons q l' ih =>
                      intro h
                      show ((Nat.beq r.root q && over r.path [] false) || overAny r (l'.map _)) = true
                      rcases List.mem_cons.1 h with e | h
                      · rw [← e, Nat.beq_refl, hpath]; rfl
                      · rw [ih h, Bool.or_true]
                  rw [this bs hrb] at hiv; cases hiv
              have hke : r.root ∈ keysE bs1 := by rw [hbk]; exact hrb
              obtain ⟨x, hx, hxk⟩ := mem_of_keysE hke
              obtain ⟨hβ, ⟨t, fs, hxo⟩, b, row, row', hloc, hrow, hrow', hsz⟩ := hbold x hx
              obtain ⟨t0, fs0, hg0⟩ := hbox1 _ hrb
              intro o' loc hl
              unfold atLoc at hl
              rw [← hxk, get_dOf hnd1 (List.mem_append.2 (.inl hx)), locE_mem hnd1 (List.mem_append.2 (.inl hx)), hp, hxo] at hl
              have hl' : some (Ob.box t fs, x.loc) = some (o', loc) := hl
              injection hl' with hl'; injection hl' with e1 e2; subst e1; subst e2
              refine ⟨.box t0 fs0, ?_, trivial, fun b2 off2 e2 rw2 hr2 => ?_⟩
              · unfold atLoc
                rw [hg0, hp]
                show some (Ob.box t0 fs0, β r.root) = _
                rw [← hxk, hβ]
              · rw [hloc] at e2
                injection e2 with e2; injection e2 with e3 e4; subst e3
                have := hrow.eq hr2
                subst this
                exact ⟨row', hrow', hsz⟩
            · have hre : r.root ∉ keysE (bs1 ++ es1) := by
                rw [hkE]
                intro hm
                rcases List.mem_append.1 hm with hm | hm
                · exact hrb hm
                · obtain ⟨x, hx, hxk⟩ := mem_of_keysE hm
                  have := hfo.range x hx
                  exact hr ⟨by omega, by omega⟩
              refine RefKeep.of_stay (FA' := Fn) hob1 (locE_out hre) (get_applyD _ _ (by rw [keysOf_dOf]; exact hre)) fun o2 ho2 => ?_
              refine ⟨hstay.size, fun b hqb => ?_, fun b hb hlt => hstay.out b (fun h => hb (hF1 b (hFcF b h))) hlt, fun b hb => ?_⟩
              · by_cases hs : r.root ∈ sn
                · have hqd : r.root ∉ keysOf d := fun e => by rw [hok.gone _ e] at ho2; cases ho2
                  exact hstay.out b (hsnF _ hs hqd b hqb) ((hob1.rel _ _ ho2).lt b hqb)
                · exact hEk b (.inr ⟨_, _, ho2, hrb, hs, hqb⟩)
              · rcases hb with hb | ⟨q, o, hq, hn, hqb⟩ | hb
                · exact .inl (hF1 b ((hob1.cov b).2 (.inl hb)))
                · exact .inl (hF1 b ((hob1.cov b).2 (.inr ⟨q, o, hq, hqb⟩)))
                · exact (hGnew b hb).imp (fun h => hF1 b (hFcF b h)) id
end
end Go.Lf

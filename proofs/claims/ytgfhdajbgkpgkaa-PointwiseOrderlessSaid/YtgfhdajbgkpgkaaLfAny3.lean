import Derived.Test.YtgfhdajbgkpgkaaLfAny2
set_option linter.unusedVariables false
/-! Lf: regions in any order: the proof. -/
namespace Go.Lf

theorem over_nil (e : Bool) : over [] [] e = e := rfl

theorem overAny_out {r : Ref} {d : Delta} : ∀ {iv : List (Ref × Bool)}, ivOk iv = true → (∀ p ∈ iv, p.1.root ∈ keysOf d) → (r.path ≠ [] → r.root ∉ keysOf d) → overAny r iv = false
  | [], _, _, _ => rfl
  | (q, e) :: l, hk, hr, hn => by
    have hk' : ((match q.path with | [] => !e | _ => true) && ivOk l) = true := hk
    rw [Bool.and_eq_true] at hk'
    have ih := overAny_out (r := r) hk'.2 (fun p hp => hr p (by simp [hp])) hn
    show ((Nat.beq r.root q.root && over r.path q.path e) || overAny r l) = false
    rw [ih, Bool.or_false]
    cases hb : Nat.beq r.root q.root with
    | false => rfl
    | true =>
      have he := Nat.eq_of_beq_eq_true hb
      have hqk : q.root ∈ keysOf d := hr (q, e) (by simp)
      cases hp : r.path with
      | cons p l' => exact absurd hqk (by rw [← he]; exact hn (by rw [hp]; exact fun h => by cases h))
      | nil =>
        cases hq : q.path with
        | cons => rfl
        | nil =>
          have := hk'.1
          rw [hq] at this
          simp at this
          subst this
          rfl

theorem leads_out {v : V} {iv : List (Ref × Bool)} {d : Delta} (hk : ivOk iv = true) (hr : ∀ p ∈ iv, p.1.root ∈ keysOf d) (hn : ∀ r ∈ refsOf v, r.path ≠ [] → r.root ∉ keysOf d) : leadsV iv v = false := by
  rw [leadsV_eq, List.any_eq_false]
  intro r hrm
  rw [overAny_out hk hr (hn r hrm)]
  simp

section
variable {P : Program} {C : Ctx} {k : Nat} {tm : List (Nat × V)} {obs obs' : List (Nat × Ob)} {fresh : Nat} {o : Oper} {a : Act} {w w' : World} {E : Bs} {β : Nat → Option (Nat × Nat)} {F : Bs} {Gk : Nat → Bs}

/-- Another list of the same objects; another world with the same heap. -/
theorem FR.same (h : FR C w E β tm obs a F Gk) (he : ∀ q, get q obs' = get q obs) (hw : w'.heap = w.heap) : FR C w' E β tm obs' a F Gk := by
  have hst : ∀ G, Stay w F w' F G := fun G => ⟨by rw [hw]; exact Nat.le_refl _, fun _ _ => by rw [hw], fun _ _ _ => by rw [hw], fun _ h => .inl h⟩
  refine ⟨fun t v hv => ?_, ⟨fun q o' hq => ?_, fun q q' o1 o2 h1 h2 => h.ob.dj q q' o1 o2 (by rw [← he]; exact h1) (by rw [← he]; exact h2), fun b => ?_, fun q o' hq => h.ob.out q o' (by rw [← he]; exact hq), fun b hb => by rw [hw]; exact h.ob.elt b hb⟩, h.nt⟩
  · obtain ⟨u, hu, hvr⟩ := h.tm t v hv
    exact ⟨u, hu, hvr.keep (hst _) fun r _ => RefKeep.of_stay (FA' := F) h.ob.a rfl (he _) fun o' ho' => hst _⟩
  · exact (h.ob.rel q o' (by rw [← he]; exact hq)).keep (hst _)
  · rw [h.ob.cov b]
    constructor
    · rintro (hb | ⟨q, o', hq, hb⟩)
      · exact .inl hb
      · exact .inr ⟨q, o', by rw [he]; exact hq, hb⟩
    · rintro (hb | ⟨q, o', hq, hb⟩)
      · exact .inl hb
      · exact .inr ⟨q, o', by rw [← he]; exact hq, hb⟩

theorem get_mapV {f : Nat → V → V} (t : Nat) : ∀ tm : List (Nat × V), get t (tm.map fun p => (p.1, f p.1 p.2)) = (get t tm).map (f t)
  | [] => rfl
  | (j, v) :: l => by
    simp only [List.map_cons, get]
    cases e : Nat.beq j t with
    | true => have := Nat.eq_of_beq_eq_true e; subst this; rfl
    | false => exact get_mapV t l

theorem getD_false {listed : Array Bool} {i : Nat} (h : listed.getD i true = false) : i < listed.size ∧ listed.getD i false = false := by
  rcases Nat.lt_or_ge i listed.size with h' | h'
  · refine ⟨h', ?_⟩
    simp [h'] at h ⊢; exact h
  · simp [Array.getElem?_eq_none h'] at h

theorem getD_lt {listed : Array Bool} {i : Nat} (h : listed.getD i false = true) : i < listed.size := by
  refine Classical.byContradiction fun hn => ?_
  simp [Array.getElem?_eq_none (Nat.not_lt.1 hn)] at h

/-- What is listed, in order. -/
def Xs (n : Nat) (listed : Array Bool) : List Nat := (List.range n).filter fun j => listed.getD j false

theorem range_split {i n : Nat} (h : i < n) : ∃ L : List Nat, List.range n = List.range i ++ i :: L ∧ ∀ j ∈ L, i < j ∧ j < n := by
  refine ⟨(List.range (n - i - 1)).map (i + 1 + ·), ?_, fun j hj => ?_⟩
  · have e : n = (i + 1) + (n - i - 1) := by omega
    rw [e, List.range_add, List.range_succ, ← e]
    simp
  · obtain ⟨x, hx, rfl⟩ := List.mem_map.1 hj
    have := List.mem_range.1 hx
    omega

structure Inv (C : Ctx) (ops : Array Oper) (rc : Nat → Rec) (T0 : Nat → Option V) (O0 : Nat → Option Ob) (w0 : World) (E F0 : Bs) (a0 : Act) (fuel : Nat) (listed : Array Bool) (a : Act) (w : World) : Prop where
  size : listed.size = ops.size
  closed : Closed ops listed
  card : fuel + (Xs ops.size listed).length = ops.size
  state : ∃ tm obs β F Gk, (∀ t, get t tm = foldT rc (Xs ops.size listed) T0 t) ∧ (∀ q, get q obs = foldO rc (Xs ops.size listed) O0 q) ∧ FR C w E β tm obs a F Gk ∧ Step (Wr C (opsDsts ops.toList)) w0 E F0 a0 w F a

theorem mem_dsts {d : Nat} : ∀ {l : List Oper} {i : Nat} {o : Oper}, l[i]? = some o → o.dst = some d → d ∈ opsDsts l
  | [], _, _, h, _ => by simp at h
  | x :: l, 0, o, h, hd => by
    simp at h
    subst h
    unfold opsDsts
    rw [hd]; exact List.mem_cons_self
  | x :: l, i + 1, o, h, hd => by
    have := mem_dsts (l := l) (i := i) (by simpa using h) hd
    unfold opsDsts
    split
    · exact List.mem_cons_of_mem _ this
    · exact this

theorem any_step (hT : TisOk P C) (hE : EnvOk P C) {ops : Array Oper} {base : Nat} {T0 : Nat → Option V} {O0 : Nat → Option Ob} {rc : Nat → Rec} {w0 : World} {F0 : Bs} {a0 : Act} {Q : Exit → Act → World → Prop}
    (hslots : slotsOk ops (masksOf ops) = true) (hO0 : ∀ q, O0 q ≠ none → q < base) (hT0 : ∀ t v, T0 t = some v → ∀ r ∈ refsOf v, r.root < base)
    (hrc : ∀ j o, ops[j]? = some o → RecOk C k base ops (foldT rc (List.range j) T0) (foldO rc (List.range j) O0) j o (rc j) ∧ ∀ j', j' < j → ((masksOf ops).getD j 0).testBit j' = false → Apart3 (rc j') (rc j))
    {fuel : Nat} {listed : Array Bool} (hinv : Inv C ops rc T0 O0 w0 E F0 a0 (fuel + 1) listed a w) {i : Nat} (hi : i ∈ Region.ready .any ops listed) {K : Act → World → Prop}
    (hK : ∀ a' w', Inv C ops rc T0 O0 w0 E F0 a0 fuel (listed.setIfInBounds i true) a' w' → K a' w') : wpOp P ops Q i K a w := by
  obtain ⟨hsb, hsl⟩ := slotsOk_spec hslots
  have hmr := mask_ready hinv.size hinv.closed hi
  have hmc := mask_closed hinv.size hinv.closed
  obtain ⟨hun, o, hoi, hall⟩ := mem_ready.1 hi
  obtain ⟨hil, hif⟩ := getD_false hun
  rw [hinv.size] at hil
  obtain ⟨L, hL, hLj⟩ := range_split hil
  -- the sets
  have hX : Xs ops.size listed = (List.range i).filter (fun j => listed.getD j false) ++ L.filter (fun j => listed.getD j false) := by
    unfold Xs
    rw [hL, List.filter_append, List.filter_cons_of_neg (by simp only [hif]; simp)]
  have hX' : Xs ops.size (listed.setIfInBounds i true) = (List.range i).filter (fun j => listed.getD j false) ++ i :: L.filter (fun j => listed.getD j false) := by
    unfold Xs
    rw [hL, List.filter_append, List.filter_cons_of_pos (by simp [hinv.size, hil])]
    congr 1
    · exact List.filter_congr fun j hj => getD_set_ne false (by have := List.mem_range.1 hj; omega)
    · congr 1
      exact List.filter_congr fun j hj => getD_set_ne false (by have := hLj j hj; omega)
  generalize hA : (List.range i).filter (fun j => listed.getD j false) = A at hX hX'
  generalize hB : L.filter (fun j => listed.getD j false) = B at hX hX'
  have hBj : ∀ j ∈ B, i < j ∧ j < ops.size ∧ listed.getD j false = true := fun j hj => by
    rw [← hB] at hj
    have := List.mem_filter.1 hj
    exact ⟨(hLj j this.1).1, (hLj j this.1).2, this.2⟩
  obtain ⟨hrec, _⟩ := hrc i o hoi
  -- those behind that were first
  have hBi : ∀ j ∈ B, ∃ oj, ops[j]? = some oj ∧ RecOk C k base ops (foldT rc (List.range j) T0) (foldO rc (List.range j) O0) j oj (rc j) ∧ o.apart ops oj = true ∧ Apart3 (rc i) (rc j) := fun j hj => by
    obtain ⟨h1, h2, h3⟩ := hBj j hj
    have hoj := Array.getElem?_eq_getElem h2
    obtain ⟨h4, h5⟩ := hrc j _ hoj
    have hm : ((masksOf ops).getD j 0).testBit i = false := by
      cases h : ((masksOf ops).getD j 0).testBit i with
      | false => rfl
      | true => rw [hmc j h3 i h] at hif; cases hif
    exact ⟨_, hoj, h4, hsl i j o _ h1 hoi hoj hm, h5 i h1 hm⟩
  have hind : ∀ j ∈ B, Indep (rc i) (rc j) := fun j hj => by
    obtain ⟨oj, hoj, hrj, hap, hap3⟩ := hBi j hj
    obtain ⟨h1, h2, h3⟩ := Oper.apart_spec hap
    refine ⟨fun d hd => ?_, fun q hq => (hap3.1 q hq).2, leads_out hrj.ivk hrj.ivr fun r hr hp hq => hap3.2 _ hq (hrec.way r hr hp), leads_out hrec.ivk hrec.ivr fun r hr hp hq => (hap3.1 _ hq).1 (hrj.way r hr hp)⟩
    rw [hrj.dst]
    rw [hrec.dst] at hd
    exact h2 d hd
  -- those before that have not been
  have hAi : ∀ j ∈ List.range i, listed.getD j false = false → ∃ oj, ops[j]? = some oj ∧ RecOk C k base ops (foldT rc (List.range j) T0) (foldO rc (List.range j) O0) j oj (rc j) ∧ oj.apart ops o = true ∧ Apart3 (rc j) (rc i) := fun j hj hlj => by
    have hji := List.mem_range.1 hj
    have hoj := Array.getElem?_eq_getElem (show j < ops.size by omega)
    have hm : ((masksOf ops).getD i 0).testBit j = false := by
      cases h : ((masksOf ops).getD i 0).testBit j with
      | false => rfl
      | true => rw [hmr j h] at hlj; cases hlj
    exact ⟨_, hoj, (hrc j _ hoj).1, hsl j i _ o hji hoj hoi hm, (hrc i o hoi).2 j hji hm⟩
  obtain ⟨tm, obs, β, F, Gk, hsT, hsO, hf, hstep⟩ := hinv.state
  -- what it reads is there
  have slot : ∀ t, t ∈ o.looksAt ops → ∀ v, foldT rc (List.range i) T0 t = some v → v ≠ .undef → (∀ r ∈ refsOf v, r.path ≠ [] → r.root ∈ (rc i).rd) → get t tm = some v := by
    intro t ht v hv hnu hway
    have h1 : Less (foldT rc (List.range i) T0 t) (foldT rc A T0 t) := by
      rw [← hA]
      refine foldT_sub _ (fun j hj hp hd => ?_) (.inl rfl)
      obtain ⟨oj, hoj, hrj, hap, _⟩ := hAi j hj hp
      rw [hrj.dst] at hd
      exact (Oper.apart_spec hap).1 t hd ht
    rw [hv] at h1
    have h2 : foldT rc A T0 t = some v := by
      rcases h1 with h1 | h1
      · exact h1.symm
      · injection h1 with h1; exact absurd h1 hnu
    rw [hsT, hX, foldT_append]
    refine foldT_up B (fun j hj => ?_) h2
    obtain ⟨oj, hoj, hrj, hap, hap3⟩ := hBi j hj
    refine ⟨fun hd => ?_, leads_out hrj.ivk hrj.ivr fun r hr hp hq => hap3.2 _ hq (hway r hr hp)⟩
    rw [hrj.dst] at hd
    exact (Oper.apart_spec hap).2.2 t hd ht
  have object : ∀ q, q ∈ (rc i).rd ∨ q ∈ keysOf (rc i).d → get q obs = foldO rc (List.range i) O0 q := by
    intro q hq
    have h1 : foldO rc (List.range i) O0 q = foldO rc A O0 q := by
      rw [← hA]
      refine foldO_sub _ (fun j hj hp hk => ?_) rfl
      obtain ⟨oj, hoj, hrj, _, hap3⟩ := hAi j hj hp
      exact hq.elim (hap3.1 q hk).1 (hap3.1 q hk).2
    rw [hsO, hX, foldO_append, h1]
    refine foldO_up B fun j hj hk => ?_
    obtain ⟨oj, hoj, hrj, _, hap3⟩ := hBi j hj
    exact hq.elim (hap3.2 q hk) fun h => (hap3.1 q h).2 hk
  -- its numbers are free
  have fresh1 : ∀ q, base + 4 * i ≤ q → q < base + 4 * i + 4 → ∀ j, j < ops.size → q ∈ keysOf (rc j).d → j ≠ i → i < j ∧ q ∈ keysOf (rc i).d := by
    intro q hq1 hq2 j
    induction j using Nat.strongRecOn with
    | _ j ih =>
      intro hjl hqj hne
      have hoj := Array.getElem?_eq_getElem hjl
      rcases (hrc j _ hoj).1.keys q hqj with h | h
      · rcases foldO_from _ h with h | ⟨j', hj', hk⟩
        · have := hO0 q h; omega
        · have hlt := List.mem_range.1 hj'
          by_cases e : j' = i
          · subst e; exact ⟨hlt, hk⟩
          · have := ih j' hlt (by omega) hk e
            exact ⟨by omega, this.2⟩
      · omega
  have notB : ∀ j, listed.getD j false = true → i < j → ((masksOf ops).getD j 0).testBit i = false := fun j hlj _ => by
    cases h : ((masksOf ops).getD j 0).testBit i with
    | false => rfl
    | true => rw [hmc j hlj i h] at hif; cases hif
  have memX : ∀ j, j ∈ Xs ops.size listed → j < ops.size ∧ listed.getD j false = true := fun j hj => by
    have := List.mem_filter.1 hj
    exact ⟨List.mem_range.1 this.1, this.2⟩
  have hfree : Free obs (base + 4 * i) := by
    intro q hq1 hq2
    cases hg : get q obs with
    | none => rfl
    | some x =>
      exfalso
      have hne : foldO rc (Xs ops.size listed) O0 q ≠ none := by rw [← hsO, hg]; exact fun e => by cases e
      rcases foldO_from _ hne with h | ⟨j, hj, hk⟩
      · have := hO0 q h; omega
      · obtain ⟨hjl, hlj⟩ := memX j hj
        have hji : j ≠ i := fun e => by subst e; rw [hif] at hlj; cases hlj
        obtain ⟨h1, h2⟩ := fresh1 q hq1 hq2 j hjl hk hji
        have hoj := Array.getElem?_eq_getElem hjl
        exact (((hrc j _ hoj).2 i h1 (notB j hlj h1)).1 q h2).2 hk
  have fresh2 : ∀ j, listed.getD j false = true → j < ops.size → ∀ r ∈ refsOf (rc j).v, ¬ inR (base + 4 * i) r := by
    intro j
    induction j using Nat.strongRecOn with
    | _ j ih =>
      intro hlj hjl r hr hin
      have hoj := Array.getElem?_eq_getElem hjl
      have hji : j ≠ i := fun e => by subst e; rw [hif] at hlj; cases hlj
      rcases (hrc j _ hoj).1.src r hr with h | ⟨t, v', ht, hTv, q, hq, hqr⟩
      · unfold inR at h hin; omega
      · rcases foldT_from _ hTv q hq with ⟨v2, h2, hq2⟩ | ⟨j', hj', hd, hq2⟩
        · have := hT0 t v2 h2 q hq2
          unfold inR at hin; omega
        · have hlt := List.mem_range.1 hj'
          have hoj' := Array.getElem?_eq_getElem (show j' < ops.size by omega)
          have hm : ((masksOf ops).getD j 0).testBit j' = true := by
            cases h : ((masksOf ops).getD j 0).testBit j' with
            | true => rfl
            | false =>
              have hap := hsl j' j _ _ hlt hoj' hoj h
              rw [(hrc j' _ hoj').1.dst] at hd
              exact absurd ht ((Oper.apart_spec hap).1 t hd)
          exact ih j' hlt (hmc j hlj j' hm) (by omega) q hq2 (by unfold inR at hin ⊢; omega)
  have hlow : ∀ t v, get t tm = some v → ∀ r ∈ refsOf v, ¬ inR (base + 4 * i) r := by
    intro t v hv r hr
    rw [hsT] at hv
    rcases foldT_from _ hv r hr with ⟨v2, h2, hr2⟩ | ⟨j, hj, _, hr2⟩
    · have := hT0 t v2 h2 r hr2
      unfold inR; omega
    · obtain ⟨hjl, hlj⟩ := memX j hj
      exact fresh2 j hlj hjl r hr2
  -- behind it
  have hds : ∀ d, o.dst = some d → Wr C (opsDsts ops.toList) d := fun d hd => ⟨mem_dsts (i := i) (by simpa using hoi) hd, (pinned_lt hrec.pin d hd).1⟩
  have invs : ∀ a' w' F' β' Gk' tm' obs', (∀ t, get t tm' = stepT (rc i) (fun t => get t tm) t) → (∀ q, get q obs' = stepO (rc i) (fun q => get q obs) q) → FR C w' E β' tm' obs' a' F' Gk' → Step (Wr C (opsDsts ops.toList)) w0 E F0 a0 w' F' a' → Inv C ops rc T0 O0 w0 E F0 a0 fuel (listed.setIfInBounds i true) a' w' := by
    intro a' w' F' β' Gk' tm' obs' h1 h2 h3 h4
    refine ⟨by rw [Array.size_setIfInBounds]; exact hinv.size, fun j oj hj hl e he hb => ?_, ?_, tm', obs', β', F', Gk', fun t => ?_, fun q => ?_, h3, h4⟩
    · by_cases hji : i = j
      · subst hji
        rw [hoi] at hj
        injection hj with hj; subst hj
        exact getD_set_true (hall e he hb)
      · rw [getD_set_ne false hji] at hl
        exact getD_set_true (hinv.closed j oj hj hl e he hb)
    · have := hinv.card
      rw [hX] at this
      rw [hX', List.length_append, List.length_cons]
      rw [List.length_append] at this
      omega
    · have e : (fun t => get t tm) = foldT rc (Xs ops.size listed) T0 := funext hsT
      rw [h1, e, hX, hX', foldT_append, foldT_append]
      show _ = foldT rc B (stepT (rc i) (foldT rc A T0)) t
      rw [foldT_comm _ hind]
    · have e : (fun q => get q obs) = foldO rc (Xs ops.size listed) O0 := funext hsO
      rw [h2, e, hX, hX', foldO_append, foldO_append]
      show _ = foldO rc B (stepO (rc i) (foldO rc A O0)) q
      rw [foldO_comm _ hind]
  unfold wpOp
  simp only [hoi]
  rcases hrec.what with ⟨j, want, t, hg, ht, hv, ev, ed, eiv⟩ | ⟨hg, hops, rd0, hrd0, hst⟩
  · -- it is passed over
    have hnot : Region.wanted o (yielded ops a.tmps) = false := by
      unfold Region.wanted
      rw [hg]
      rcases hv with hv | hv
      · have hv' := slot t (looksAt_guard hg ht) _ hv nofun (fun r hr => by cases hr)
        obtain ⟨u, hu, us, hus, hall⟩ := hf.tm t _ hv'
        have : us = #[] := by
          cases hall' : us.toList with
          | cons x l => rw [hall'] at hall; cases hall
          | nil => exact Array.toList_inj.1 (by simpa using hall')
        subst this
        subst hus
        show (yielded ops a.tmps j == some want) = false
        rw [yielded_none ht hu]
        rfl
      · have hv' := slot t (looksAt_guard hg ht) _ hv nofun (fun r hr => by cases hr)
        obtain ⟨u, hu, hvr⟩ := hf.tm t _ hv'
        have := bool_of_VR hvr
        subst this
        show (yielded ops a.tmps j == some want) = false
        rw [yielded_bool ht hu]
        cases want <;> rfl
    rw [hnot]
    simp only [Bool.false_eq_true, if_false]
    have hf2 := hf.skip hrec.pin
    refine hK _ _ (invs _ _ _ _ _ _ _ (fun t => ?_) (fun q => ?_) hf2 (hstep.trans (Step.put (ds := Wr C (opsDsts ops.toList)) (Apart.refl w) (Stay.refl w F _) (fun _ _ => rfl) hds) (fun _ h => h) fun _ h => h))
    · rw [get_putDst]
      unfold stepT
      rw [hrec.dst, ev, eiv]
      have : (dropV [] : V → V) = id := funext dropV_nil
      rw [this]; simp
    · unfold stepO
      rw [ed]; rfl
  · -- it runs
    have hw : Region.wanted o (yielded ops a.tmps) = true := by
      unfold Region.wanted
      rcases hg with hg | ⟨j, want, t, hg, ht, hv⟩
      · rw [hg]
      · rw [hg]
        have hv' := slot t (looksAt_guard hg ht) _ hv nofun (fun r hr => by cases hr)
        obtain ⟨u, hu, hvr⟩ := hf.tm t _ hv'
        have := bool_of_VR hvr
        subst this
        show (yielded ops a.tmps j == some want) = true
        rw [yielded_bool ht hu]
        simp
    rw [hw]
    simp only [if_true]
    refine .inl ?_
    let TI : Nat → Option V := foldT rc (List.range i) T0
    let tm' : List (Nat × V) := tm.map fun p => (p.1, (fun t v => open Classical in if TI t = none ∨ TI t = some .undef then V.undef else v) p.1 p.2)
    have hf' : FR C w E β tm' obs a F Gk := hf.le fun t v hv => by
      have hv2 : (get t tm).map _ = some v := (get_mapV (f := fun t v => open Classical in if TI t = none ∨ TI t = some .undef then V.undef else v) t tm).symm.trans hv
      cases hg : get t tm with
      | none => rw [hg] at hv2; cases hv2
      | some y =>
        rw [hg] at hv2
        injection hv2 with hv2
        by_cases hc : TI t = none ∨ TI t = some .undef
        · simp only [hc, if_true] at hv2; exact .inr ⟨hv2.symm, y, rfl⟩
        · simp only [hc, if_false] at hv2; exact .inl (by rw [hv2])
    have hopn : ∀ y ∈ o.op.operands, opnd tm' y = opndF TI y := by
      intro y hy
      cases y with
      | tmp t =>
        have hv2 := get_mapV (f := fun t v => open Classical in if TI t = none ∨ TI t = some .undef then V.undef else v) t tm
        show (get t tm').getD .undef = (TI t).getD .undef
        rw [show get t tm' = _ from hv2]
        by_cases hc : TI t = none ∨ TI t = some .undef
        · have e1 : (TI t).getD V.undef = V.undef := by rcases hc with h | h <;> rw [h] <;> rfl
          rw [e1]
          cases get t tm with
          | none => rfl
          | some y => simp [hc]
        · cases hTi : TI t with
          | none => exact absurd (.inl hTi) hc
          | some v =>
            have hnu : v ≠ .undef := fun e => hc (.inr (by rw [hTi, e]))
            rw [slot t (looksAt_op hy) v hTi hnu (hops t hy v hTi)]
            have hc' : ¬ (TI t = none ∨ TI t = some .undef) := hc
            simp [hnu]
      | _ => rfl
    have hobs : ∀ q, q ∈ rd0 ∨ q ∈ keysOf (rc i).d → get q obs = foldO rc (List.range i) O0 q := fun q hq => object q (hq.imp (hrd0 q) id)
    have hrun : opK C k tm' obs (base + 4 * i) o (fun v d rd iv => some (v, d, rd, iv)) = some ((rc i).v, (rc i).d, rd0, (rc i).iv) := hst tm' obs hopn hobs _ _
    obtain ⟨v, d, rd, iv, hst2, _, _, hgood⟩ := op_ok hT hE hf' hfree hrun
    have e2 := hst2 tm' obs (fun _ _ => rfl) (fun _ _ => rfl) _ (fun v d rd iv => some (v, d, rd, iv))
    rw [hrun] at e2
    injection e2 with e2; injection e2 with e3 e2; injection e2 with e4 e2; injection e2 with e5 e6
    refine hgood _ _ fun u w' β' F' Gk' hob hv hap hstay hEk hrk => ?_
    have hf2 := hf.step hrec.pin hob hv hstay hrk hlow
    refine hK _ _ (invs _ _ _ _ _ _ _ (fun t => ?_) (fun q => ?_) hf2 (hstep.trans (Step.put (ds := Wr C (opsDsts ops.toList)) hap hstay hEk hds) (fun _ h => h) fun _ h => h))
    · rw [get_putDst, get_dropIv]
      unfold stepT
      rw [hrec.dst, e3, e6]
    · rw [get_appF]
      unfold stepO
      rw [e4]

theorem region_any {R : Type} {K : St → Option R} {r : R} (hm : P.follows .mixedOrders = true) (hT : TisOk P C) (hE : EnvOk P C) {ops : Array Oper} {base id : Nat} (hslots : slotsOk ops (masksOf ops) = true)
    (h : regionK C k ops true (masksOf ops) base ops.toList 0 [] tm obs K = some r) (hf : FR C w E β tm obs a F Gk) (hk : ∀ q, get q obs ≠ none → q < base) (hr : ∀ t v, get t tm = some v → ∀ r ∈ refsOf v, r.root < base)
    {Q : Exit → Act → World → Prop} (hQ : ∀ S' w' β' F' Gk' a', K S' = some r → SR C w' E β' S' a' F' Gk' → Step (Wr C (opsDsts ops.toList)) w E F a w' F' a' → Q .normal a' w') : (Code.region id ops true).wp P Q a w := by
  obtain ⟨rc, _, hrc, tmN, obsN, hN1, hN2, hK, hkN, hrN⟩ := trace_ok (T0 := fun t => get t tm) (O0 := fun q => get q obs) (rc0 := fun _ => ⟨none, .undef, [], [], []⟩) hT hE ops.toList 0 (by simp) (fun j => by simp) h hf (by simpa using hk) (by simpa using hr) (fun t => rfl) (fun q => rfl) (fun j hj => by omega)
  refine wp_region_any hm ?_
  have main : ∀ (fuel : Nat) (listed : Array Bool) (a' : Act) (w' : World), Inv C ops rc (fun t => get t tm) (fun q => get q obs) { w with drawn := w.drawn + 1 } E F a fuel listed a' w' → wpAny P .any ops Q fuel listed a' w' := by
    have done : ∀ (fuel : Nat) (listed : Array Bool) (a' : Act) (w' : World), Inv C ops rc (fun t => get t tm) (fun q => get q obs) { w with drawn := w.drawn + 1 } E F a fuel listed a' w' → (∀ i, i < ops.size → listed.getD i false = true) → Q .normal a' w' := by
      intro fuel listed a' w' hinv hall
      obtain ⟨tm', obs', β', F', Gk', h1, h2, h3, h4⟩ := hinv.state
      have hXr : Xs ops.size listed = List.range ops.size := by
        unfold Xs
        exact List.filter_eq_self.2 fun j hj => hall j (List.mem_range.1 hj)
      rw [hXr] at h1 h2
      have h5 : FR C w' E β' (keepOnly C.keep tmN) obsN a' F' Gk' := (h3.same (w' := w') (obs' := obsN) (fun q => by rw [hN2, h2]) rfl).le fun t v hv => .inl (by rw [h1, ← hN1]; exact get_keepOnly hv)
      refine hQ _ w' β' F' Gk' a' hK ⟨h5, hkN, fun t v hv => hrN t v (get_keepOnly hv)⟩ ?_
      exact ⟨⟨h4.apart.os, h4.apart.tape, h4.apart.output⟩, ⟨h4.stay.size, fun _ h => h.elim, h4.stay.out, h4.stay.less⟩, h4.keepE, h4.same, h4.defers⟩
    intro fuel
    induction fuel with
    | zero =>
      intro listed a' w' hinv
      have hall : ∀ i, i < ops.size → listed.getD i false = true := by
        have hc := hinv.card
        have : (Xs ops.size listed).length = (List.range ops.size).length := by rw [List.length_range]; omega
        unfold Xs at this
        have := List.length_filter_eq_length_iff.1 this
        exact fun i hi => this i (List.mem_range.2 hi)
      refine ⟨?_, done 0 listed a' w' hinv hall⟩
      cases hrd : Region.ready .any ops listed with
      | nil => rfl
      | cons i l =>
        have : i ∈ Region.ready .any ops listed := by rw [hrd]; simp
        obtain ⟨hun, o, hoi, _⟩ := mem_ready.1 this
        have := hall i (Array.getElem?_eq_some_iff.1 hoi).1
        rw [(getD_false hun).2] at this
        cases this
    | succ fuel ih =>
      intro listed a' w' hinv
      refine ⟨fun hnil => done _ listed a' w' hinv ?_, fun i hi => any_step hT hE hslots hk hr (fun j o ho => hrc j o (Nat.zero_le j) ho) hinv hi fun a2 w2 => ih _ a2 w2⟩
      intro i
      induction i using Nat.strongRecOn with
      | _ i ih2 =>
        intro hil
        cases hl : listed.getD i false with
        | true => rfl
        | false =>
          exfalso
          have : i ∈ Region.ready .any ops listed := by
            rw [mem_ready]
            have hil' : i < listed.size := by rw [hinv.size]; exact hil
            refine ⟨?_, _, Array.getElem?_eq_getElem hil, fun e he hb => ?_⟩
            · simp [hil'] at hl ⊢; exact hl
            · have := (slotsOk_spec hslots).1 i _ (Array.getElem?_eq_getElem hil) e he hb
              exact ih2 e.on this (by omega)
          rw [hnil] at this
          cases this
  refine main ops.size _ a _ ⟨by simp, fun j oj hj hl => ?_, ?_, tm, obs, β, F, Gk, fun t => ?_, fun q => ?_, hf.same (fun q => rfl) rfl, Step.refl⟩
  · have := getD_lt hl
    simp at this
    simp [this] at hl
  · have : Xs ops.size (Array.replicate ops.size false) = [] := by
      unfold Xs
      refine List.filter_eq_nil_iff.2 fun j hj => ?_
      have := List.mem_range.1 hj
      simp [this]
    rw [this]; rfl
  · have : Xs ops.size (Array.replicate ops.size false) = [] := by
      unfold Xs
      refine List.filter_eq_nil_iff.2 fun j hj => ?_
      have := List.mem_range.1 hj
      simp [this]
    rw [this]; rfl
  · have : Xs ops.size (Array.replicate ops.size false) = [] := by
      unfold Xs
      refine List.filter_eq_nil_iff.2 fun j hj => ?_
      have := List.mem_range.1 hj
      simp [this]
    rw [this]; rfl
end
end Go.Lf

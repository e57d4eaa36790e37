import Derived.Test.YtgfhdajbgkpgkaaLfAppOp
set_option linter.unusedVariables false
/-! Lf: append, put together. -/
namespace Go.Lf
section
variable {w : World} {E : Bs} {β : Nat → Option (Nat × Nat)} {FA F FA1 F1 G : Bs} {obs obs1 : List (Nat × Ob)} {Gk Gk1 : Nat → Bs} {τ : Ty}

theorem keep_undef {k j : Nat} {t : Option Ty} {fs : List V} (hg : get k obs = some (.box t fs)) (hj : j < fs.length) (r : Ref) :
    RefKeep w β obs w β (put k (.box t (setAt j [.undef] fs)) obs) r := by
  intro o' loc hl
  by_cases e : k = r.root
  · subst e
    have hl' : way w (.box t (setAt j [.undef] fs)) (β r.root) r.path = some (o', loc) := by
      unfold atLoc at hl
      rw [get_put] at hl
      exact hl
    have goal : ∀ p, way w (.box t (setAt j [.undef] fs)) (β r.root) p = some (o', loc) → ∃ o, way w (.box t fs) (β r.root) p = some (o, loc) ∧ o.like o' := by
      intro p hp
      cases p with
      | nil =>
        injection hp with hp; injection hp with h1 h2; subst h1; subst h2
        exact ⟨_, rfl, trivial⟩
      | cons ij p =>
        obtain ⟨i1, j1⟩ := ij
        refine ⟨o', ?_, Ob.like.refl o'⟩
        cases hb : β r.root with
        | none => rw [hb] at hp; cases hp
        | some bo =>
          obtain ⟨b, off⟩ := bo
          rw [hb] at hp
          simp only [way, leafAt, ix] at hp ⊢
          rw [setAt_get (vs := [V.undef]) (show j + 1 ≤ fs.length from hj)] at hp
          by_cases c1 : j1 < j
          · rw [if_pos c1] at hp; exact hp
          · rw [if_neg c1] at hp
            by_cases c2 : j1 < j + 1
            · have : j1 - j = 0 := by omega
              have c3 : j1 < j + [V.undef].length := by simpa using c2
              rw [if_pos c3, this] at hp
              simp at hp
            · have c3 : ¬ j1 < j + [V.undef].length := by simpa using c2
              rw [if_neg c3] at hp; exact hp
    obtain ⟨o, ho, hlike⟩ := goal r.path hl'
    refine ⟨o, ?_, hlike, fun _ _ _ row hr => ⟨row, hr, rfl⟩⟩
    unfold atLoc
    rw [hg]
    exact ho
  · have : atLoc w β obs r = some (o', loc) := by
      unfold atLoc at hl ⊢
      rw [get_put_ne _ e] at hl
      exact hl
    exact ⟨o', this, Ob.like.refl o', fun _ _ _ row hr => ⟨row, hr, rfl⟩⟩

/-- A leaf of a block is taken out. -/
theorem took_undef (h : ObsA w E FA F β obs Gk) {k j : Nat} {t : Option Ty} {fs : List V} {v : V} (hg : get k obs = some (.box t fs)) (hj : fs[j]? = some v) :
    ∃ b u G2 Gk2, β k = some (b, 0) ∧ w.cell? ⟨b, j, none⟩ = some u ∧ LfR w FA v u G2 ∧ Took w E β FA F obs FA (fun q => F q ∧ ¬ G2 q) G2 (put k (.box t (setAt j [.undef] fs)) obs) Gk2 := by
  obtain ⟨b, row, G', hloc, hrow, hls, hnb, hG⟩ := h.rel k _ hg
  have hjl : j < fs.length := (List.getElem?_eq_some_iff.1 hj).1
  have hlen := hls.length
  rw [list_split3 fs j 1] at hls
  obtain ⟨c1, c23, G1, G23, hc, h1, h23, hd1, hG1⟩ := hls.split
  obtain ⟨c2, c3, G2, G3, hc', h2, h3, hd2, hG2⟩ := h23.split
  have ej : (fs.drop j).take 1 = [v] := by
    rw [List.drop_eq_getElem_cons hjl]
    have := (List.getElem?_eq_some_iff.1 hj).2
    simp [this]
  rw [ej] at h2
  obtain ⟨u2, hu2, hlf⟩ := LsR.one_inv h2
  subst hu2
  have l1 : c1.length = j := by rw [h1.length, List.length_take]; omega
  have hrj : row[j]? = some u2 := by
    have : row.toList[j]? = some u2 := by rw [hc, hc', List.getElem?_append_right (by omega), l1, Nat.sub_self]; rfl
    simpa using this
  have hsub2 : ∀ q, G2 q → Gk k q := fun q hq => (hG q).2 (.inr ((hG1 q).2 (.inr ((hG2 q).2 (.inl hq)))))
  have hnew : LsR w FA (setAt j [.undef] fs) row.toList (fun q => G1 q ∨ G3 q) := by
    rw [hc, hc']
    have hu : LfR w FA .undef u2 (fun _ => False) := fun _ h => h
    have hA : LsR w FA ([.undef] ++ fs.drop (j + 1)) ([u2] ++ c3) (fun q => False ∨ G3 q) := LsR.append (LsR.one hu) h3 (fun _ h => h.elim)
    have hB := LsR.append h1 hA (fun q hq hq' => hq'.elim id fun h => hd1 q hq ((hG2 q).2 (.inr h)))
    have hE : setAt j [.undef] fs = fs.take j ++ ([.undef] ++ fs.drop (j + 1)) := by unfold setAt; rw [List.append_assoc]; rfl
    rw [hE]
    exact hB.iff fun q => ⟨fun h => h.imp id .inr, fun h => h.imp id fun h => h.elim False.elim id⟩
  have sub : ∀ q o', get q (put k (.box t (setAt j [.undef] fs)) obs) = some o' → (∃ o, get q obs = some o) ∧ ∀ c, upd Gk k (fun c => c = b ∨ (G1 c ∨ G3 c)) q c → Gk q c := by
    intro q o' hq
    by_cases e : q = k
    · subst e
      refine ⟨⟨_, hg⟩, fun c hc => ?_⟩
      rw [upd_same] at hc
      rcases hc with e | hc | hc
      · exact (hG c).2 (.inl e)
      · exact (hG c).2 (.inr ((hG1 c).2 (.inl hc)))
      · exact (hG c).2 (.inr ((hG1 c).2 (.inr ((hG2 c).2 (.inr hc)))))
    · rw [get_put_ne _ (Ne.symm e)] at hq
      exact ⟨⟨_, hq⟩, fun c hc => by rw [upd_ne _ _ e] at hc; exact hc⟩
  refine ⟨b, u2, G2, upd Gk k (fun c => c = b ∨ (G1 c ∨ G3 c)), hloc, cell_of_row hrow.s hrj, hlf, ⟨⟨fun q o' hq => ?_, fun q q' o1 o2 h1 h2 hne => ?_, fun c => ?_, fun q o' hq => ?_, h.elt⟩, fun c hc => hc, fun c hc hn => absurd hc hn, fun c hc => hc.1, fun c hc => (h.cov c).2 (.inr ⟨k, _, hg, hsub2 c hc⟩), fun c hc h2 => h2.2 hc, fun r => keep_undef hg hjl r⟩⟩
  · by_cases e : q = k
    · subst e
      rw [get_put] at hq
      injection hq with hq; subst hq
      rw [upd_same]
      exact ⟨b, row, _, hloc, hrow, hnew, fun h => hnb (h.elim (fun h => (hG1 b).2 (.inl h)) fun h => (hG1 b).2 (.inr ((hG2 b).2 (.inr h)))), fun n => Iff.rfl⟩
    · rw [get_put_ne _ (Ne.symm e)] at hq
      rw [upd_ne _ _ e]
      exact h.rel q o' hq
  · obtain ⟨⟨p1, hp1⟩, s1⟩ := sub q o1 h1
    obtain ⟨⟨p2, hp2⟩, s2⟩ := sub q' o2 h2
    exact fun c hc hc' => h.dj q q' p1 p2 hp1 hp2 hne c (s1 c hc) (s2 c hc')
  · constructor
    · rintro ⟨hf, hn2⟩
      rcases (h.cov c).1 hf with hE | ⟨q, o', hq, hqc⟩
      · exact .inl hE
      by_cases e : q = k
      · subst e
        refine .inr ⟨q, _, get_put _ _ _, ?_⟩
        rw [upd_same]
        rcases (hG c).1 hqc with e | hc
        · exact .inl e
        · rcases (hG1 c).1 hc with hc | hc
          · exact .inr (.inl hc)
          · rcases (hG2 c).1 hc with hc | hc
            · exact absurd hc hn2
            · exact .inr (.inr hc)
      · exact .inr ⟨q, o', by rw [get_put_ne _ (Ne.symm e)]; exact hq, by rw [upd_ne _ _ e]; exact hqc⟩
    · rintro (hE | ⟨q, o', hq, hqc⟩)
      · exact ⟨(h.cov c).2 (.inl hE), fun h2 => h.out k _ hg c (hsub2 c h2) hE⟩
      by_cases e : q = k
      · subst e
        rw [upd_same] at hqc
        refine ⟨(h.cov c).2 (.inr ⟨q, _, hg, ?_⟩), fun h2 => ?_⟩
        · rcases hqc with e | hc | hc
          · exact (hG c).2 (.inl e)
          · exact (hG c).2 (.inr ((hG1 c).2 (.inl hc)))
          · exact (hG c).2 (.inr ((hG1 c).2 (.inr ((hG2 c).2 (.inr hc)))))
        · rcases hqc with e | hc | hc
          · exact hnb (e ▸ (hG1 c).2 (.inr ((hG2 c).2 (.inl h2))))
          · exact hd1 c hc ((hG2 c).2 (.inl h2))
          · exact hd2 c h2 hc
      · rw [get_put_ne _ (Ne.symm e)] at hq
        rw [upd_ne _ _ e] at hqc
        exact ⟨(h.cov c).2 (.inr ⟨q, o', hq, hqc⟩), fun h2 => h.dj q k o' _ hq hg e c hqc (hsub2 c h2)⟩
  · obtain ⟨⟨p1, hp1⟩, s1⟩ := sub q o' hq
    exact fun c hc hE => h.out q p1 hp1 c (s1 c hc) hE

/-- What append takes of the slice that it goes on with. -/
theorem takeK_sound {R : Type} {K : Delta → Option R} {x : R} (h : ObsA w E FA F β obs Gk) (hF : ∀ b, F b → FA b) {r : Ref} {wh : Bool} {l : List τ.den} {loc : Option (Nat × Nat)} (hat : atLoc w β obs r = some (.arr τ l, loc)) (hk : takeK obs r wh K = some x) :
    ∃ d F2 G Gk2, K d = some x ∧ (∀ (R' : Type) (K' : Delta → Option R') (obs' : List (Nat × Ob)), get r.root obs' = get r.root obs → takeK obs' r wh K' = K' d) ∧ Took w E β FA F obs FA F2 G (applyD d obs) Gk2 ∧ ArrAt w τ.size (LR w FA τ) l loc G ∧
      (∀ q ∈ keysOf d, q = r.root ∧ get q obs ≠ none) := by
  unfold takeK at hk
  split at hk
  · rename_i hp
    split at hk
    · rename_i o0 hg
      have hat' : some (o0, β r.root) = some (Ob.arr τ l, loc) := by
        unfold atLoc at hat
        rw [hg, hp] at hat
        exact hat
      injection hat' with e; injection e with e1 e2; subst e1; subst e2
      refine ⟨_, _, _, _, hk, fun R' K' obs' e => ?_, took_del h hF hg, h.rel _ _ hg, fun q hq => ?_⟩
      · unfold takeK
        simp only [hp, e, hg]
      · simp [keysOf] at hq
        subst hq
        exact ⟨rfl, by rw [hg]; exact fun e => (by cases e)⟩
    · cases hk
  · rename_i j hp
    split at hk
    · rename_i t fs hg
      unfold atLoc at hat
      rw [hg, hp] at hat
      have hat' : way w (.box t fs) (β r.root) [(0, j)] = some (.arr τ l, loc) := hat
      cases hb : β r.root with
      | none => rw [hb] at hat'; cases hat'
      | some bo =>
        obtain ⟨b, off⟩ := bo
        rw [hb] at hat'
        obtain ⟨v, o1, u, hv, ho, hc, _, hw⟩ := way_step hat'
        have hw' : some (o1, locOfV v u) = some (Ob.arr τ l, loc) := hw
        injection hw' with e; injection e with e1 e2; subst e1; subst e2
        obtain ⟨b', u', G2, Gk2, hb', hc', hlf, htook⟩ := took_undef h hg (show fs[j]? = some v from hv)
        rw [hb] at hb'; injection hb' with e; injection e with e1 e2; subst e1; subst e2
        simp only [ix, Nat.zero_add] at hc
        rw [hc] at hc'; injection hc' with hc'; subst hc'
        refine ⟨_, _, _, _, hk, fun R' K' obs' e => ?_, htook, ?_, fun q hq => ?_⟩
        · unfold takeK
          simp only [hp, e, hg]
        · cases v with
          | ow τ' l' =>
            injection ho with ho; injection ho with e1 e2; subst e1
            have e2 := eq_of_heq e2; subst e2
            obtain ⟨u2, hu2, _, ha⟩ := hlf
            injection hu2 with hu2; subst hu2
            exact ha
          | bx => cases ho
          | _ => cases ho
        · simp [keysOf] at hq
          subst hq
          exact ⟨rfl, by rw [hg]; exact fun e => (by cases e)⟩
    · cases hk
  · cases hk
end
end Go.Lf

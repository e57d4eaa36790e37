import Derived.Test.YtgfhdajbgkpgkaaLfTake
set_option linter.unusedVariables false
/-! Lf: leaves laid to rest. -/
namespace Go.Lf

theorem setAt_get {j q : Nat} {vs fs : List V} (h : j + vs.length ≤ fs.length) : (setAt j vs fs)[q]? = if q < j then fs[q]? else if q < j + vs.length then vs[q - j]? else fs[q]? := by
  unfold setAt
  rw [List.getElem?_append, List.getElem?_append]
  simp only [List.length_append, List.length_take]
  have hm : min j fs.length = j := by omega
  rw [hm]
  by_cases c1 : q < j
  · rw [if_pos (by omega), if_pos c1, List.getElem?_take, if_pos c1, if_pos c1]
  · by_cases c2 : q < j + vs.length
    · rw [if_pos c2, if_neg c1, if_neg c1, if_pos c2]
    · rw [if_neg c2, if_neg c1, if_neg c2, List.getElem?_drop]
      congr 1
      omega

section
variable {w : World} {E : Bs} {β : Nat → Option (Nat × Nat)} {FA F FA1 F1 G : Bs} {obs obs1 : List (Nat × Ob)} {Gk Gk1 : Nat → Bs}

theorem keep_share {k j : Nat} {t : Option Ty} {fs : List V} {τ : Ty} {l : List τ.den} (hg : get k obs = some (.box t fs)) (hj : j < fs.length) (r : Ref) :
    RefKeep w β obs w β (put k (.box t (setAt j [.sl τ l] fs)) obs) r := by
  intro o' loc hl
  by_cases e : k = r.root
  · subst e
    have hl' : way w (.box t (setAt j [.sl τ l] fs)) (β r.root) r.path = some (o', loc) := by
      unfold atLoc at hl
      rw [get_put] at hl
      exact hl
    have goal : ∀ p, way w (.box t (setAt j [.sl τ l] fs)) (β r.root) p = some (o', loc) → ∃ o, way w (.box t fs) (β r.root) p = some (o, loc) ∧ o.like o' := by
      intro p hp
      cases p with
      | nil =>
        injection hp with hp; injection hp with h1 h2; subst h1; subst h2
        exact ⟨_, rfl, trivial⟩
      | cons ij p =>
        obtain ⟨i1, j1⟩ := ij
        refine ⟨o', ?_, Ob.like.refl o'⟩
        cases hb : β r.root with
        | none => rw [hb] at hp; cases hp
        | some bo =>
          obtain ⟨b, off⟩ := bo
          rw [hb] at hp
          simp only [way, leafAt, ix] at hp ⊢
          rw [setAt_get (vs := [V.sl τ l]) (show j + 1 ≤ fs.length from hj)] at hp
          by_cases c1 : j1 < j
          · rw [if_pos c1] at hp; exact hp
          · rw [if_neg c1] at hp
            by_cases c2 : j1 < j + 1
            · have : j1 - j = 0 := by omega
              have c3 : j1 < j + [V.sl τ l].length := by simpa using c2
              rw [if_pos c3, this] at hp
              simp at hp
            · have c3 : ¬ j1 < j + [V.sl τ l].length := by simpa using c2
              rw [if_neg c3] at hp; exact hp
    obtain ⟨o, ho, hlike⟩ := goal r.path hl'
    refine ⟨o, ?_, hlike, fun _ _ _ row hr => ⟨row, hr, rfl⟩⟩
    unfold atLoc
    rw [hg]
    exact ho
  · have : atLoc w β obs r = some (o', loc) := by
      unfold atLoc at hl ⊢
      rw [get_put_ne _ e] at hl
      exact hl
    exact ⟨o', this, Ob.like.refl o', fun _ _ _ row hr => ⟨row, hr, rfl⟩⟩

theorem Hd.same {sz n : Nat} {loc : Option (Nat × Nat)} {u : Value} {l : Nat} (h : Hd w sz loc 0 n u) (hn : n = l) : Hd w sz loc 0 l u := hn ▸ h

/-- Leaf by leaf. -/
theorem restK_sound {R : Type} {K : V → Delta → Option R} {r : R} (h : ObsA w E FA F β obs Gk) (hF : ∀ b, F b → FA b) {v : V} {u : Value} (hv : VRl w β obs FA v u) (hk : restK obs v K = some r) :
    ∃ v' d FA1 F1 G Gk1, K v' d = some r ∧ (∀ (R' : Type) (K' : V → Delta → Option R') (obs' : List (Nat × Ob)), (∀ q ∈ keysOf d, get q obs' = get q obs) → restK obs' v K' = K' v' d) ∧
      Took w E β FA F obs FA1 F1 G (applyD d obs) Gk1 ∧ LfR w FA1 v' u G ∧ v' ≠ .undef ∧ ∀ q ∈ keysOf d, get q obs ≠ none := by
  have plain : ∀ (v' : V), K v' [] = some r → (∀ (R' : Type) (K' : V → Delta → Option R') (obs' : List (Nat × Ob)), restK obs' v K' = K' v' []) → LfR w FA v' u (fun _ => False) → v' ≠ .undef →
      ∃ v' d FA1 F1 G Gk1, K v' d = some r ∧ (∀ (R' : Type) (K' : V → Delta → Option R') (obs' : List (Nat × Ob)), (∀ q ∈ keysOf d, get q obs' = get q obs) → restK obs' v K' = K' v' d) ∧
      Took w E β FA F obs FA1 F1 G (applyD d obs) Gk1 ∧ LfR w FA1 v' u G ∧ v' ≠ .undef ∧ ∀ q ∈ keysOf d, get q obs ≠ none :=
    fun v' h1 h2 h3 hnu => ⟨v', [], FA, F, fun _ => False, Gk, h1, fun R' K' obs' _ => h2 R' K' obs', Took.refl h, h3, hnu, fun q hq => by cases hq⟩
  unfold restK at hk
  split at hk
  · exact plain _ hk (fun _ _ _ => rfl) ⟨hv, fun _ h => h⟩ nofun
  · exact plain _ hk (fun _ _ _ => rfl) ⟨hv, fun _ h => h⟩ nofun
  · exact plain _ hk (fun _ _ _ => rfl) ⟨hv, fun _ h => h⟩ nofun
  · exact plain _ hk (fun _ _ _ => rfl) ⟨hv, fun _ h => h⟩ nofun
  · rename_i τ l
    obtain ⟨G, hl⟩ := hv
    exact plain _ hk (fun _ _ _ => rfl) ⟨fun _ h => h, hl.2⟩ nofun
  · -- an array that is owned by a slot
    rename_i k n
    split at hk
    · rename_i τ l hg
      obtain ⟨ad, cap, hu, hall⟩ := hv
      have hat : atLoc w β obs ⟨k, []⟩ = some (.arr τ l, β k) := by simp [atLoc, hg, way]
      obtain ⟨τ', l', e, hh, _, hw⟩ := hall _ _ hat
      injection e with e1 e2; subst e1
      have e2 := eq_of_heq e2; subst e2
      have hn := (hw rfl).2
      have hrel := h.rel k _ hg
      have hrel' : ArrAt w τ.size (LR w FA τ) l (β k) (Gk k) := hrel
      have hst : ∀ (R' : Type) (K' : V → Delta → Option R') (obs' : List (Nat × Ob)), (∀ q ∈ keysOf [(k, (none : Option Ob))], get q obs' = get q obs) → restK obs' (.hs ⟨k, []⟩ 0 n true) K' = K' (.ow τ l) [(k, none)] := by
        intro R' K' obs' hq
        unfold restK
        simp only [hq k (by simp [keysOf]), hg]
      have hex : ∀ q ∈ keysOf [(k, (none : Option Ob))], get q obs ≠ none := by
        intro q hq
        simp [keysOf] at hq
        subst hq
        rw [hg]; exact fun e => by cases e
      have htook := took_del h hF hg
      obtain ⟨ad', cap', hu', hd⟩ := id hh
      rw [hu] at hu'; injection hu' with e1 e2 e3; subst e1; subst e3
      have empty : n = 0 ∧ cap = 0 → ∃ v' d FA1 F1 G Gk1, K v' d = some r ∧ (∀ (R' : Type) (K' : V → Delta → Option R') (obs' : List (Nat × Ob)), (∀ q ∈ keysOf d, get q obs' = get q obs) → restK obs' (.hs ⟨k, []⟩ 0 n true) K' = K' v' d) ∧
          Took w E β FA F obs FA1 F1 G (applyD d obs) Gk1 ∧ LfR w FA1 v' u G ∧ v' ≠ .undef ∧ ∀ q ∈ keysOf d, get q obs ≠ none := by
        rintro ⟨h0, hc⟩
        refine ⟨_, _, _, _, fun _ => False, Gk, hk, hst, htook.drop (fun b hb => hb.elim), ?_, nofun, hex⟩
        have hlu : locOf u = none := by rw [hu, hc]; cases ad <;> rfl
        have hl0 : l = [] := List.eq_nil_of_length_eq_zero (by omega)
        refine ⟨u, rfl, ⟨ad, cap, by rw [hu, hn], .inl ⟨by omega, hc⟩⟩, ?_⟩
        rw [hlu]
        exact ⟨hl0, fun _ h => h⟩
      rcases hd with hd | ⟨b, c, row, hloc, hrow, had, hnc, hsz⟩
      · exact empty hd
      · by_cases hc : cap = 0
        · exact empty ⟨by omega, hc⟩
        · have hlu : locOf u = β k := by
            rw [hu, had, hloc]
            simp [locOf, hc]
          refine ⟨_, _, _, _, _, _, hk, hst, htook, ?_, nofun, hex⟩
          refine ⟨u, rfl, ?_, ?_⟩
          · rw [hlu]; exact hh.same hn
          · rw [hlu]; exact hrel'
    · cases hk
  · -- an array inside a block, that is shared from now on
    rename_i k j n
    split at hk
    · rename_i t fs hg
      split at hk
      · rename_i τ l hj
        cases hp : τ.plain with
        | false => rw [hp] at hk; cases hk
        | true =>
          rw [hp] at hk
          simp only [cond] at hk
          obtain ⟨ad, cap, hu, hall⟩ := hv
          obtain ⟨b, row, G', hloc, hrow, hls, hnb, hG⟩ := h.rel k _ hg
          have hjl : j < fs.length := (List.getElem?_eq_some_iff.1 hj).1
          have hlen := hls.length
          have hls0 := hls
          rw [list_split3 fs j 1] at hls
          obtain ⟨c1, c23, G1, G23, hc, h1, h23, hd1, hG1⟩ := hls.split
          obtain ⟨c2, c3, G2, G3, hc', h2, h3, hd2, hG2⟩ := h23.split
          have ej : (fs.drop j).take 1 = [.ow τ l] := by
            rw [List.drop_eq_getElem_cons hjl]
            have := (List.getElem?_eq_some_iff.1 hj).2
            simp [this]
          rw [ej] at h2
          obtain ⟨u2, hu2, hlf⟩ := LsR.one_inv h2
          subst hu2
          obtain ⟨u3, hu3, hh3, ha3⟩ := id hlf
          injection hu3 with hu3; subst hu3
          have l1 : c1.length = j := by rw [h1.length, List.length_take]; omega
          have hrj : row[j]? = some u2 := by
            have : row.toList[j]? = some u2 := by rw [hc, hc', List.getElem?_append_right (by omega), l1, Nat.sub_self]; rfl
            simpa using this
          have hat : atLoc w β obs ⟨k, [(0, j)]⟩ = some (.arr τ l, locOf u2) := by
            unfold atLoc
            simp only [hg, hloc]
            have hcell : w.cell? ⟨b, 0 + ix (.box t fs) 0 j, none⟩ = some u2 := by
              simp only [ix, Nat.zero_add]
              exact cell_of_row hrow.s hrj
            rw [way_cons (v := .ow τ l) (u := u2) (o1 := .arr τ l) (show leafAt (.box t fs) 0 j = some (.ow τ l) from hj) hcell rfl hlf]
            rfl
          obtain ⟨τ', l', e, hh, _, hw⟩ := hall _ _ hat
          injection e with e1 e2; subst e1
          have e2 := eq_of_heq e2; subst e2
          have hn := (hw rfl).2
          have hsub2 : ∀ q, G2 q → Gk k q := fun q hq => (hG q).2 (.inr ((hG1 q).2 (.inr ((hG2 q).2 (.inl hq)))))
          have hF1 : ∀ q, (fun q => FA q ∧ ¬ G2 q) q → FA q := fun q hq => hq.1
          have hsh : LR w (fun q => FA q ∧ ¬ G2 q) (.sl τ) l [u2] (fun _ => False) := by
            have := share (off := 0) (n := l.length) ha3 hh3 hp (by omega) _ hF1 (fun q hq hf => hf.2 hq)
            simpa using this
          have hsh2 : LR w (fun q => FA q ∧ ¬ G2 q) (.sl τ) l [u] (fun _ => False) := by
            have := share (off := 0) (n := l.length) ha3 (hh.same hn) hp (by omega) _ hF1 (fun q hq hf => hf.2 hq)
            simpa using this
          have hnew : LsR w (fun q => FA q ∧ ¬ G2 q) (setAt j [.sl τ l] fs) row.toList (fun q => G1 q ∨ G3 q) := by
            rw [hc, hc']
            have hA : LsR w (fun q => FA q ∧ ¬ G2 q) ([.sl τ l] ++ fs.drop (j + 1)) ([u2] ++ c3) (fun q => False ∨ G3 q) := LsR.append (LsR.one hsh) (h3.sub hF1) (fun _ h => h.elim)
            have hB := LsR.append (h1.sub hF1) hA (fun q hq hq' => hq'.elim id fun h => hd1 q hq ((hG2 q).2 (.inr h)))
            have hE : setAt j [.sl τ l] fs = fs.take j ++ ([.sl τ l] ++ fs.drop (j + 1)) := by unfold setAt; rw [List.append_assoc]; rfl
            rw [hE]
            exact hB.iff fun q => ⟨fun h => h.imp id .inr, fun h => h.imp id fun h => h.elim False.elim id⟩
          have sub : ∀ q o', get q (put k (.box t (setAt j [.sl τ l] fs)) obs) = some o' → (∃ o, get q obs = some o) ∧ ∀ c, (if q = k then (fun c => c = b ∨ (G1 c ∨ G3 c)) else Gk q) c → Gk q c := by
            intro q o' hq
            by_cases e : q = k
            · subst e
              refine ⟨⟨_, hg⟩, fun c hc => ?_⟩
              rw [if_pos rfl] at hc
              rcases hc with e | hc | hc
              · exact (hG c).2 (.inl e)
              · exact (hG c).2 (.inr ((hG1 c).2 (.inl hc)))
              · exact (hG c).2 (.inr ((hG1 c).2 (.inr ((hG2 c).2 (.inr hc)))))
            · rw [get_put_ne _ (Ne.symm e)] at hq
              exact ⟨⟨_, hq⟩, fun c hc => by rw [if_neg e] at hc; exact hc⟩
          refine ⟨.sl τ l, _, fun q => FA q ∧ ¬ G2 q, fun q => F q ∧ ¬ G2 q, fun _ => False, fun q => if q = k then (fun c => c = b ∨ (G1 c ∨ G3 c)) else Gk q, hk, fun R' K' obs' hq => ?_, ⟨⟨fun q o' hq => ?_, fun q q' o1 o2 h1 h2 hne => ?_, fun c => ?_, fun q o' hq => ?_, h.elt⟩, fun c hc => hc.1, fun c hc hn => ?_, fun c hc => hc.1, fun c hc => hc.elim, fun c hc => hc.elim, fun r => keep_share hg hjl r⟩, hsh2, nofun, fun q hq => ?_⟩
          · unfold restK
            simp only [hq k (by simp [keysOf]), hg, hj, hp, cond]
          · have hq' : get q (put k (.box t (setAt j [.sl τ l] fs)) obs) = some o' := hq
            by_cases e : q = k
            · subst e
              rw [get_put] at hq'
              injection hq' with hq'; subst hq'
              simp only [if_true]
              exact ⟨b, row, _, hloc, hrow, hnew, fun h => hnb (h.elim (fun h => (hG1 b).2 (.inl h)) fun h => (hG1 b).2 (.inr ((hG2 b).2 (.inr h)))), fun n => Iff.rfl⟩
            · rw [get_put_ne _ (Ne.symm e)] at hq'
              simp only [if_neg e]
              exact (h.rel q o' hq').keep (Stay.less' hF1)
          · obtain ⟨⟨p1, hp1⟩, s1⟩ := sub q o1 h1
            obtain ⟨⟨p2, hp2⟩, s2⟩ := sub q' o2 h2
            exact fun c hc hc' => h.dj q q' p1 p2 hp1 hp2 hne c (s1 c hc) (s2 c hc')
          · constructor
            · rintro ⟨hf, hn2⟩
              rcases (h.cov c).1 hf with hE | ⟨q, o', hq, hqc⟩
              · exact .inl hE
              by_cases e : q = k
              · subst e
                refine .inr ⟨q, _, get_put _ _ _, ?_⟩
                rw [if_pos rfl]
                rcases (hG c).1 hqc with e | hc
                · exact .inl e
                · rcases (hG1 c).1 hc with hc | hc
                  · exact .inr (.inl hc)
                  · rcases (hG2 c).1 hc with hc | hc
                    · exact absurd hc hn2
                    · exact .inr (.inr hc)
              · exact .inr ⟨q, o', by show get q (put k _ obs) = _; rw [get_put_ne _ (Ne.symm e)]; exact hq, by rw [if_neg e]; exact hqc⟩
            · rintro (hE | ⟨q, o', hq, hqc⟩)
              · exact ⟨(h.cov c).2 (.inl hE), fun h2 => h.out k _ hg c (hsub2 c h2) hE⟩
              have hq' : get q (put k (.box t (setAt j [.sl τ l] fs)) obs) = some o' := hq
              by_cases e : q = k
              · subst e
                rw [if_pos rfl] at hqc
                refine ⟨(h.cov c).2 (.inr ⟨q, _, hg, ?_⟩), fun h2 => ?_⟩
                · rcases hqc with e | hc | hc
                  · exact (hG c).2 (.inl e)
                  · exact (hG c).2 (.inr ((hG1 c).2 (.inl hc)))
                  · exact (hG c).2 (.inr ((hG1 c).2 (.inr ((hG2 c).2 (.inr hc)))))
                · rcases hqc with e | hc | hc
                  · exact hnb (e ▸ (hG1 c).2 (.inr ((hG2 c).2 (.inl h2))))
                  · exact hd1 c hc ((hG2 c).2 (.inl h2))
                  · exact hd2 c h2 hc
              · rw [get_put_ne _ (Ne.symm e)] at hq'
                rw [if_neg e] at hqc
                exact ⟨(h.cov c).2 (.inr ⟨q, o', hq', hqc⟩), fun h2 => h.dj q k o' _ hq' hg e c hqc (hsub2 c h2)⟩
          · obtain ⟨⟨p1, hp1⟩, s1⟩ := sub q o' hq
            exact fun c hc hE => h.out q p1 hp1 c (s1 c hc) hE
          · have h2 : G2 c := Classical.byContradiction fun hc' => hn ⟨hc, hc'⟩
            exact ⟨(h.cov c).2 (.inr ⟨k, _, hg, hsub2 c h2⟩), fun hf => hf.2 h2, id⟩
          · simp [keysOf] at hq
            subst hq
            rw [hg]; exact fun e => by cases e
      · cases hk
    · cases hk
  · -- a block that is owned by a slot
    rename_i k
    split at hk
    · rename_i τ fs hg
      split at hk
      · rename_i x hx
        obtain ⟨ad, hu, hall⟩ := hv
        have hat : atLoc w β obs ⟨k, []⟩ = some (.box (some τ) fs, β k) := by simp [atLoc, hg, way]
        obtain ⟨b', off', hloc', had⟩ := hall _ _ hat
        obtain ⟨b, row, G', hloc, hrow, hls, hnb, hG⟩ := h.rel k _ hg
        rw [hloc] at hloc'; injection hloc' with e; injection e with e1 e2; subst e1; subst e2
        obtain ⟨G1, hs1, H⟩ := ofAll_sound hx hls
        have htook := (took_del h hF hg).drop (G' := fun n => n = b ∨ G1 n) (fun n hn => (hG n).2 (hn.imp id (hs1 n)))
        refine ⟨_, _, _, _, _, _, hk, fun R' K' obs' hq => ?_, htook, ?_, nofun, fun q hq => ?_⟩
        · unfold restK
          simp only [hq k (by simp [keysOf]), hg, hx]
        · refine ⟨b, row, G1, by rw [hu, had]; rfl, hrow, H _ (fun n hn => hn.1) (fun n hn h1 hf => ?_), fun hb => hnb (hs1 b hb), fun n => Iff.rfl⟩
          rcases hf.2 ((hG n).2 (.inr hn)) with e | h2
          · exact hnb (e ▸ hn)
          · exact h1 h2
        · simp [keysOf] at hq
          subst hq
          rw [hg]; exact fun e => by cases e
      · cases hk
    · cases hk
  · cases hk

theorem Took.stay (h : Took w E β FA F obs FA1 F1 G obs1 Gk1) (H : Bs) : Stay w FA w FA1 H := Stay.less' h.sub

theorem keys_exist {d d' : Delta} (h : ∀ q ∈ keysOf d, get q obs ≠ none) (h' : ∀ q ∈ keysOf d', get q (applyD d obs) ≠ none) : ∀ q ∈ keysOf (d ++ d'), get q obs ≠ none := by
  intro q hq
  by_cases e : q ∈ keysOf d
  · exact h q e
  · rw [keysOf_append] at hq
    rcases List.mem_append.1 hq with hq | hq
    · exact absurd hq e
    · have := h' q hq
      rw [get_applyD d obs e] at this
      exact this

/-- Leaves, one behind the other. -/
theorem restsK_sound {R : Type} : ∀ (vs : List V) {K : List V → Delta → Option R} {r : R} {FA F : Bs} {obs : List (Nat × Ob)} {Gk : Nat → Bs} {us : List Value}, ObsA w E FA F β obs Gk → (∀ b, F b → FA b) → All2 (VRl w β obs FA) vs us → restsK vs obs K = some r →
    ∃ vs' d FA1 F1 G Gk1, K vs' d = some r ∧ (∀ (R' : Type) (K' : List V → Delta → Option R') (obs' : List (Nat × Ob)), (∀ q ∈ keysOf d, get q obs' = get q obs) → restsK vs obs' K' = K' vs' d) ∧
      Took w E β FA F obs FA1 F1 G (applyD d obs) Gk1 ∧ LsR w FA1 vs' us G ∧ (∀ v ∈ vs', v ≠ .undef) ∧ ∀ q ∈ keysOf d, get q obs ≠ none
  | [], K, r, FA, F, obs, Gk, us, h, hF, hv, hk => by
    cases hv
    exact ⟨[], [], FA, F, fun _ => False, Gk, hk, fun _ _ _ _ => rfl, Took.refl h, .nil fun _ h => h, fun q hq => (by cases hq), fun q hq => (by cases hq)⟩
  | v :: vs, K, r, FA, F, obs, Gk, us, h, hF, hv, hk => by
    cases hv with
    | cons hu hus =>
      rename_i u us
      unfold restsK at hk
      obtain ⟨v', d, FA1, F1, G, Gk1, hk1, hst, htook, hlf, hnu, hex⟩ := restK_sound h hF hu hk
      have hF1 : ∀ b, F1 b → FA1 b := fun b hb => Classical.byContradiction fun hn => (htook.lost b (hF b (htook.less b hb)) hn).2.1 hb
      have hus1 := hus.imp fun x y _ hxy => VRl.keep hxy (htook.stay _) fun r _ => htook.keep r
      obtain ⟨vs', d', FA2, F2, G', Gk2, hk2, hst2, htook2, hls, hnu2, hex2⟩ := restsK_sound vs htook.ob hF1 hus1 hk1
      refine ⟨v' :: vs', d ++ d', FA2, F2, _, Gk2, hk2, fun R' K' obs' hq => ?_, ?_, .cons (hlf.sub htook2.sub) hls (htook.djG htook2) fun n => Iff.rfl, fun z hz => ?_, keys_exist hex hex2⟩
      · unfold restsK
        rw [hst _ _ obs' fun q hq' => hq q (by rw [keysOf_append]; exact List.mem_append.2 (.inl hq'))]
        exact hst2 _ _ _ fun q hq' => get_applyD_congr d _ _ (hq q (by rw [keysOf_append]; exact List.mem_append.2 (.inr hq')))
      · rw [applyD_append]
        exact htook.trans htook2
      · rcases List.mem_cons.1 hz with rfl | hz
        · exact hnu
        · exact hnu2 z hz
end
end Go.Lf

import Derived.Test.YtgfhdajbgkpgkaaLfPatt
set_option linter.unusedVariables false
/-! Lf: a state that matches a pattern. -/
namespace Go.Lf

/-- A state that a pattern tells, wherever its objects are numbered from. -/
def PS (C : Ctx) (p : Patt) (x : p.den) (w : World) (E : Bs) (a : Act) (F : Bs) : Prop :=
  okS p.roots.length p.slots = true ∧ ∀ base, ∃ β Gk, FR C w E β (p.build base x).tm (p.build base x).ob a F Gk

/-- What is owned beside the matched objects. -/
def Ein (E : Bs) (obs : List (Nat × Ob)) (Gk : Nat → Bs) (m : RMap) : Bs := fun b => E b ∨ ∃ q o, get q obs = some o ∧ q ∉ mRoots m ∧ Gk q b

theorem PS.forget {C : Ctx} {p : Patt} {x : p.den} {w : World} {E E' : Bs} {a : Act} {F : Bs} (h : PS C p x w E' a F) (hE : ∀ b, E b → E' b) : ∃ F1 : Bs, (∀ b, F1 b → F b) ∧ PS C p x w E a F1 := by
  refine ⟨fun b => E b ∨ (F b ∧ ¬ E' b), ?_, h.1, fun base => ?_⟩
  · obtain ⟨β, Gk, hf⟩ := h.2 0
    exact fun b hb => hb.elim (fun hb => (hf.ob.cov b).2 (.inl (hE b hb))) fun hb => hb.1
  · obtain ⟨β, Gk, hf⟩ := h.2 base
    have hsub : ∀ b, (E b ∨ (F b ∧ ¬ E' b)) → F b := fun b hb => hb.elim (fun hb => (hf.ob.cov b).2 (.inl (hE b hb))) fun hb => hb.1
    refine ⟨β, Gk, fun t v hv => ?_, ⟨fun q o hq => (hf.ob.rel q o hq).keep (Stay.less' hsub), hf.ob.dj, fun b => ?_, fun q o hq b hb hE' => hf.ob.out q o hq b hb (hE b hE'), fun b hb => hf.ob.elt b (hE b hb)⟩, hf.nt⟩
    · obtain ⟨u, hu, hvr⟩ := hf.tm t v hv
      exact ⟨u, hu, hvr.keep (Stay.less' hsub) fun r _ => RefKeep.refl w β _ r⟩
    · constructor
      · rintro (hb | ⟨hb, hn⟩)
        · exact .inl hb
        · exact (hf.ob.cov b).1 hb |>.elim (fun h => absurd h hn) .inr
      · rintro (hb | ⟨q, o, hq, hb⟩)
        · exact .inl hb
        · exact .inr ⟨(hf.ob.cov b).2 (.inr ⟨q, o, hq, hb⟩), hf.ob.out q o hq b hb⟩

theorem Step.narrow {ds : Nat → Prop} {w w' : World} {E E' F F1 F' : Bs} {a a' : Act} (h : Step ds w E' F1 a w' F' a') (hE : ∀ b, E b → E' b) (hF : ∀ b, F1 b → F b) : Step ds w E F a w' F' a' :=
  ⟨h.apart, ⟨h.stay.size, fun _ h => h.elim, fun b hb => h.stay.out b fun h' => hb (hF b h'), fun b hb => (h.stay.less b hb).imp (hF b) id⟩, fun b hb => h.keepE b (hE b hb), h.same, h.defers⟩

/-- Fewer blocks are owned behind it. -/
theorem Step.less {ds : Nat → Prop} {w w' : World} {E F F' F1 : Bs} {a a' : Act} (h : Step ds w E F a w' F' a') (hF : ∀ b, F1 b → F' b) : Step ds w E F a w' F1 a' :=
  ⟨h.apart, ⟨h.stay.size, fun _ h => h.elim, h.stay.out, fun b hb => h.stay.less b (hF b hb)⟩, h.keepE, h.same, h.defers⟩

section
variable {C : Ctx} {w : World} {E : Bs} {β : Nat → Option (Nat × Nat)} {S : St} {a : Act} {F : Bs} {Gk : Nat → Bs}

theorem mtch_ok (h : FR C w E β S.tm S.ob a F Gk) {p : Patt} {x : p.den} {m : RMap} (hm : p.mtch S = some (x, m)) :
    ∃ F1 : Bs, (∀ b, F1 b → F b) ∧ PS C p x w (Ein E S.ob Gk m) a F1 := by
  unfold Patt.mtch at hm
  cases hok : okS p.roots.length p.slots with
  | false => rw [hok] at hm; cases hm
  | true =>
    rw [hok] at hm
    simp only [cond] at hm
    split at hm
    · rename_i xs m' hms
      cases hnd : nodup (mRoots m') with
      | false => rw [hnd] at hm; cases hm
      | true =>
        rw [hnd] at hm
        simp only at hm
        split at hm
        · rename_i ys hmr
          injection hm with hm; injection hm with e1 e2; subst e1; subst e2
          have hnd' := nodup_ok hnd
          have hroot := matchR_spec hmr
          -- where each root lies
          let loc : Nat → Option (Nat × Nat) := fun i => match get i m' with | some (some k) => β k | _ => none
          have hex : ∀ i, ∃ G : Bs, ∀ o, rootAt p.roots ys i = some o → (∀ b, G b → ∃ k ob, get i m' = some (some k) ∧ get k S.ob = some ob ∧ Gk k b) ∧
              ∀ F', (∀ b, F' b → F b) → (∀ k, get i m' = some (some k) → ∀ b, Gk k b → ¬ G b → ¬ F' b) → ObR w F' o (loc i) G := by
            intro i
            cases hr : rootAt p.roots ys i with
            | none => exact ⟨fun _ => False, fun o ho => by cases ho⟩
            | some o =>
              obtain ⟨k, rp, y, hk, hy, ho⟩ := hroot i o hr
              rw [Nat.zero_add] at hk
              subst ho
              cases k with
              | none =>
                cases rp with
                | box t ts => cases hy
                | arr τ =>
                  have hy' : some ([] : List τ.den) = some y := hy
                  injection hy' with hy'; subst hy'
                  refine ⟨fun _ => False, fun o ho => ?_⟩
                  injection ho with ho; subst ho
                  refine ⟨fun b hb => hb.elim, fun F' _ _ => ?_⟩
                  have : loc i = none := by show (match get i m' with | some (some k) => β k | _ => none) = none; rw [hk]
                  rw [this]
                  exact ⟨rfl, fun _ h => h⟩
              | some k =>
                have hloc : loc i = β k := by show (match get i m' with | some (some k) => β k | _ => none) = β k; rw [hk]
                cases hg : get k S.ob with
                | none => simp [RP.atK, hg] at hy
                | some ob =>
                  have hy2 : RP.ofOb rp (some ob) = some y := by simpa [RP.atK, hg] using hy
                  cases rp with
                  | box t ts =>
                    cases ob with
                    | arr => cases hy2
                    | box t' fs =>
                      have hy3 : tysOf ts fs = some y := hy2
                      obtain ⟨b, row, G', hl, hrow, hls, hnb, hG⟩ := h.ob.rel k _ hg
                      obtain ⟨G1, s1, H⟩ := tysOf_sound hy3 hls
                      refine ⟨fun n => n = b ∨ G1 n, fun o ho => ?_⟩
                      injection ho with ho; subst ho
                      refine ⟨fun n hn => ⟨k, _, hk, hg, (hG n).2 (hn.imp id (s1 n))⟩, fun F' hF hlost => ?_⟩
                      rw [hloc]
                      refine ⟨b, row, G1, hl, hrow, H F' hF (fun n hn h1 hf => hlost k hk n ((hG n).2 (.inr hn)) (fun h => h.elim (fun e => hnb (e ▸ hn)) h1) hf), fun hb => hnb (s1 b hb), fun n => Iff.rfl⟩
                  | arr τ =>
                    cases ob with
                    | box => cases hy2
                    | arr τ' l =>
                      have hy3 : (if h : Ty.beq τ' τ = true then some (castL h l) else none) = some y := hy2
                      split at hy3
                      · rename_i hb
                        have := Ty.beq_eq hb
                        subst this
                        injection hy3 with hy3; subst hy3
                        refine ⟨Gk k, fun o ho => ?_⟩
                        injection ho with ho; subst ho
                        refine ⟨fun n hn => ⟨k, _, hk, hg, hn⟩, fun F' hF _ => ?_⟩
                        rw [hloc]
                        exact (h.ob.rel k _ hg).keep (Stay.less' hF)
                      · cases hy3
          obtain ⟨f, hf⟩ := Classical.axiomOfChoice hex
          let F1 : Bs := fun b => Ein E S.ob Gk m' b ∨ ∃ i o, rootAt p.roots ys i = some o ∧ f i b
          have hEF : ∀ b, Ein E S.ob Gk m' b → F b := fun b hb => by
            rcases hb with hb | ⟨q, o, hq, _, hb⟩
            · exact (h.ob.cov b).2 (.inl hb)
            · exact (h.ob.cov b).2 (.inr ⟨q, o, hq, hb⟩)
          have hF1 : ∀ b, F1 b → F b := fun b hb => by
            rcases hb with hb | ⟨i, o, hr, hb⟩
            · exact hEF b hb
            · obtain ⟨k, ob, _, hg, hkb⟩ := (hf i o hr).1 b hb
              exact (h.ob.cov b).2 (.inr ⟨k, ob, hg, hkb⟩)
          -- the footprints of different roots, and of those and the rest
          have hdj : ∀ i i' o o', rootAt p.roots ys i = some o → rootAt p.roots ys i' = some o' → i ≠ i' → Dj (f i) (f i') := by
            intro i i' o o' hr hr' hne b hb hb'
            obtain ⟨k, ob, hk, hg, hkb⟩ := (hf i o hr).1 b hb
            obtain ⟨k', ob', hk', hg', hkb'⟩ := (hf i' o' hr').1 b hb'
            by_cases e : k = k'
            · subst e; exact hne (mRoots_inj hnd' hk hk')
            · exact h.ob.dj k k' ob ob' hg hg' e b hkb hkb'
          have hdE : ∀ i o, rootAt p.roots ys i = some o → Dj (f i) (Ein E S.ob Gk m') := by
            intro i o hr b hb hb'
            obtain ⟨k, ob, hk, hg, hkb⟩ := (hf i o hr).1 b hb
            rcases hb' with hb' | ⟨q, oq, hq, hn, hqb⟩
            · exact h.ob.out k ob hg b hkb hb'
            · exact h.ob.dj k q ob oq hg hq (fun e => hn (e ▸ mRoots_mem hk)) b hkb hqb
          have hrel : ∀ i o, rootAt p.roots ys i = some o → ObR w F1 o (loc i) (f i) := by
            intro i o hr
            refine (hf i o hr).2 F1 hF1 fun k hk b hkb hn hb => ?_
            rcases hb with hb | ⟨i', o', hr', hb⟩
            · rcases hb with hb | ⟨q, oq, hq, hnq, hqb⟩
              · obtain ⟨k2, rp, y, hk2, hy, ho⟩ := hroot i o hr
                rw [Nat.zero_add, hk] at hk2
                injection hk2 with hk2; subst hk2
                cases hg : get k S.ob with
                | none => simp [RP.atK, hg] at hy
                | some ob => exact h.ob.out k ob hg b hkb hb
              · obtain ⟨k2, rp, y, hk2, hy, ho⟩ := hroot i o hr
                rw [Nat.zero_add, hk] at hk2
                injection hk2 with hk2; subst hk2
                cases hg : get k S.ob with
                | none => simp [RP.atK, hg] at hy
                | some ob => exact h.ob.dj k q ob oq hg hq (fun e => hnq (e ▸ mRoots_mem hk)) b hkb hqb
            · by_cases e : i = i'
              · subst e; exact hn hb
              · obtain ⟨k', ob', hk', hg', hkb'⟩ := (hf i' o' hr').1 b hb
                obtain ⟨k2, rp, y, hk2, hy, ho⟩ := hroot i o hr
                rw [Nat.zero_add, hk] at hk2
                injection hk2 with hk2; subst hk2
                cases hg : get k S.ob with
                | none => simp [RP.atK, hg] at hy
                | some ob => exact h.ob.dj k k' ob ob' hg hg' (fun e2 => e (mRoots_inj hnd' hk (e2 ▸ hk'))) b hkb hkb'
          refine ⟨F1, hF1, hok, fun base => ?_⟩
          refine ⟨fun q => if base ≤ q then loc (q - base) else none, fun q => if base ≤ q then f (q - base) else fun _ => False, ?_⟩
          have hgb : ∀ q o, get q (buildR base p.roots ys) = some o → base ≤ q ∧ rootAt p.roots ys (q - base) = some o := by
            intro q o hq
            rw [get_buildR] at hq
            split at hq
            · exact ⟨‹_›, hq⟩
            · cases hq
          refine ⟨fun t v hv => ?_, ⟨fun q o hq => ?_, fun q q' o o' hq hq' hne => ?_, fun b => ?_, fun q o hq => ?_, fun b hb => obs_lt h.ob.a b (hEF b hb)⟩, h.nt⟩
          · have hv' : get t (buildS p.roots ys base p.slots xs) = some v := hv
            have hslot := (matchS_spec (rs := p.roots) (ys := ys) (base := base) hok hms).2 t v hv'
            rcases hslot with ⟨τ, x, v0, hv, hg, hp, hx⟩ | ⟨i, k, hi, hv, hg, hk⟩ | ⟨i, hi, hv, hkn⟩
            · obtain ⟨u, hu, hvr⟩ := h.tm t v0 hg
              subst hv
              have hval := ofV_ok hp hx hvr
              exact ⟨u, hu, ValR.vr hp ⟨hval.1.sub hF1, hval.2⟩⟩
            · obtain ⟨u, hu, ad, had, hall⟩ := h.tm t _ hg
              subst hv
              refine ⟨u, hu, ad, had, fun o l hl => ?_⟩
              obtain ⟨o2, ho2⟩ := rootAt_some (ys := ys) hi
              have hloc : loc i = β k := by show (match get i m' with | some (some k) => β k | _ => none) = β k; rw [hk]
              unfold atLoc at hl
              rw [show get (⟨base + i, []⟩ : Ref).root (p.build base (xs, ys)).ob = some o2 from by
                show get (base + i) (buildR base p.roots ys) = _
                rw [get_buildR, if_pos (Nat.le_add_right _ _), Nat.add_sub_cancel_left]; exact ho2] at hl
              have hl' : some (o2, if base ≤ base + i then loc (base + i - base) else none) = some (o, l) := hl
              injection hl' with hl'; injection hl' with e1 e2; subst e1; subst e2
              rw [if_pos (Nat.le_add_right _ _), Nat.add_sub_cancel_left, hloc]
              obtain ⟨k2, rp, y, hk2, hy, ho⟩ := hroot i o2 ho2
              rw [Nat.zero_add, hk] at hk2
              injection hk2 with hk2; subst hk2
              cases hgk : get k S.ob with
              | none => simp [RP.atK, hgk] at hy
              | some ob =>
                obtain ⟨b, off, hb, hadr⟩ := hall ob (β k) (by simp [atLoc, hgk, way])
                refine ⟨b, off, hb, ?_⟩
                rw [hadr]
                cases ob <;> cases o2 <;> simp [ix]
            · obtain ⟨o2, ho2⟩ := rootAt_some (ys := ys) hi
              have hat : ∀ β' : Nat → Option (Nat × Nat), β' (base + i) = loc i → atLoc w β' (p.build base (xs, ys)).ob ⟨base + i, []⟩ = some (o2, loc i) := by
                intro β' hβ
                unfold atLoc
                rw [show get (⟨base + i, []⟩ : Ref).root (p.build base (xs, ys)).ob = some o2 from by
                  show get (base + i) (buildR base p.roots ys) = _
                  rw [get_buildR, if_pos (Nat.le_add_right _ _), Nat.add_sub_cancel_left]; exact ho2]
                show some (o2, β' (base + i)) = _
                rw [hβ]
              have hβ : (fun q => if base ≤ q then loc (q - base) else none) (base + i) = loc i := by
                show (if base ≤ base + i then loc (base + i - base) else none) = _
                rw [if_pos (Nat.le_add_right _ _), Nat.add_sub_cancel_left]
              obtain ⟨k2, rp, y, hk2, hy, ho⟩ := hroot i o2 ho2
              rw [Nat.zero_add] at hk2
              rcases hkn with ⟨k, n, hg, hk⟩ | ⟨hg, hk⟩
              · obtain ⟨u, hu, ad, cap, had, hall⟩ := h.tm t _ hg
                rw [hk] at hk2
                injection hk2 with hk2; subst hk2
                have hloc : loc i = β k := by show (match get i m' with | some (some k) => β k | _ => none) = β k; rw [hk]
                cases hgk : get k S.ob with
                | none => simp [RP.atK, hgk] at hy
                | some ob =>
                  obtain ⟨τ, l, e, hh, hn, hw⟩ := hall ob (β k) (by simp [atLoc, hgk, way])
                  subst e
                  have hy2 : RP.ofOb rp (some (.arr τ l)) = some y := by simpa [RP.atK, hgk] using hy
                  cases rp with
                  | box t ts => cases hy2
                  | arr τ' =>
                    have hy3 : (if h : Ty.beq τ τ' = true then some (castL h l) else none) = some y := hy2
                    split at hy3
                    · rename_i hb
                      have := Ty.beq_eq hb
                      subst this
                      injection hy3 with hy3; subst hy3
                      subst ho
                      obtain ⟨_, hnl⟩ := hw rfl
                      have hrl : rootLen p.roots ys i = l.length := rootLen_arr ho2
                      subst hv
                      refine ⟨u, hu, ad, cap, by rw [hrl, had, hnl], fun o lo hl => ?_⟩
                      rw [hat _ hβ] at hl
                      injection hl with hl; injection hl with e1 e2; subst e1; subst e2
                      exact ⟨τ, l, rfl, by rw [hloc, hrl, ← hnl]; exact hh, by rw [hrl]; omega, fun _ => ⟨rfl, hrl⟩⟩
                    · cases hy3
              · obtain ⟨u, hu, ad, had⟩ := h.tm t _ hg
                rw [hk] at hk2
                injection hk2 with hk2; subst hk2
                have hloc : loc i = none := by show (match get i m' with | some (some k) => β k | _ => none) = none; rw [hk]
                cases rp with
                | box t ts => cases hy
                | arr τ =>
                  have hy' : some ([] : List τ.den) = some y := hy
                  injection hy' with hy'; subst hy'
                  subst ho
                  have hrl : rootLen p.roots ys i = 0 := rootLen_arr (τ := τ) (xs := []) ho2
                  subst hv
                  refine ⟨u, hu, ad, 0, by rw [hrl]; exact had, fun o lo hl => ?_⟩
                  rw [hat _ hβ] at hl
                  injection hl with hl; injection hl with e1 e2; subst e1; subst e2
                  exact ⟨τ, [], rfl, ⟨ad, 0, by rw [hrl]; exact had, .inl ⟨hrl, rfl⟩⟩, by rw [hrl]; simp, fun _ => ⟨rfl, hrl⟩⟩
          · obtain ⟨h1, h2⟩ := hgb q o hq
            simp only [if_pos h1]
            exact hrel _ o h2
          · obtain ⟨h1, h2⟩ := hgb q o hq
            obtain ⟨h3, h4⟩ := hgb q' o' hq'
            simp only [if_pos h1, if_pos h3]
            exact hdj _ _ o o' h2 h4 (by omega)
          · constructor
            · rintro (hb | ⟨i, o, hr, hb⟩)
              · exact .inl hb
              · refine .inr ⟨base + i, o, ?_, ?_⟩
                · show get (base + i) (buildR base p.roots ys) = _
                  rw [get_buildR, if_pos (Nat.le_add_right _ _), Nat.add_sub_cancel_left]; exact hr
                · simp only [if_pos (Nat.le_add_right base i), Nat.add_sub_cancel_left]; exact hb
            · rintro (hb | ⟨q, o, hq, hb⟩)
              · exact .inl hb
              · obtain ⟨h1, h2⟩ := hgb q o hq
                simp only [if_pos h1] at hb
                exact .inr ⟨_, o, h2, hb⟩
          · obtain ⟨h1, h2⟩ := hgb q o hq
            simp only [if_pos h1]
            exact hdE _ o h2
        · cases hm
    · cases hm
end
end Go.Lf

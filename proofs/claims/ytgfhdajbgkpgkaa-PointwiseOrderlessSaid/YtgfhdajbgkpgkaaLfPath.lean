import Derived.Test.YtgfhdajbgkpgkaaLfWrite
set_option linter.unusedVariables false
/-! Lf: ways through objects. -/
namespace Go.Lf

theorem leafK_eq {R : Type} {o : Ob} {i j : Nat} {v : V} (h : leafAt o i j = some v) (K : V → Option R) : o.leafK i j K = K v := by
  cases o with
  | box t fs =>
    have h' : fs[j]? = some v := h
    show (match fs[j]? with | some v => K v | none => none) = K v
    rw [h']
  | arr τ l =>
    have h' : ((l[i]?).bind fun x => (τ.leaves x)[j]?) = some v := h
    show ((l[i]?).bind fun x => match (τ.leaves x)[j]? with | some v => K v | none => none) = K v
    cases hx : l[i]? with
    | none => rw [hx] at h'; cases h'
    | some x =>
      rw [hx] at h'
      have h2 : (τ.leaves x)[j]? = some v := h'
      show (match (τ.leaves x)[j]? with | some v => K v | none => none) = K v
      rw [h2]

theorem leafK_some {R : Type} {o : Ob} {i j : Nat} {K : V → Option R} {r : R} (h : o.leafK i j K = some r) : ∃ v, leafAt o i j = some v ∧ K v = some r := by
  cases hv : leafAt o i j with
  | some v => exact ⟨v, rfl, by rw [← leafK_eq hv K]; exact h⟩
  | none =>
    exfalso
    cases o with
    | box t fs =>
      have h' : fs[j]? = none := hv
      have h2 : (match fs[j]? with | some v => K v | none => none) = some r := h
      rw [h'] at h2; cases h2
    | arr τ l =>
      have h' : ((l[i]?).bind fun x => (τ.leaves x)[j]?) = none := hv
      have h2 : ((l[i]?).bind fun x => match (τ.leaves x)[j]? with | some v => K v | none => none) = some r := h
      cases hx : l[i]? with
      | none => rw [hx] at h2; cases h2
      | some x =>
        rw [hx] at h' h2
        have h3 : (τ.leaves x)[j]? = none := h'
        have h4 : (match (τ.leaves x)[j]? with | some v => K v | none => none) = some r := h2
        rw [h3] at h4; cases h4

/-- The object behind an owned leaf. -/
def obOf : V → Option Ob
  | .ow τ l => some (.arr τ l)
  | .bx τ x => some (.box (some τ) (τ.leaves x))
  | _ => none

def locOfV : V → Value → Option (Nat × Nat)
  | .ow _ _, u => locOf u
  | .bx _ _, .pointer (some a) => some (a.block, 0)
  | _, _ => none

theorem goK_cons {R : Type} {i j : Nat} {p : List (Nat × Nat)} {o : Ob} {K : Ob → Option R} :
    o.goK ((i, j) :: p) K = o.leafK i j fun v => match obOf v with | some o1 => o1.goK p K | none => none := by
  show (o.leafK i j fun
    | .ow τ l => Ob.goK p (.arr τ l) K
    | .bx τ x => Ob.goK p (.box (some τ) (τ.leaves x)) K
    | _ => none) = _
  congr 1
  funext v
  cases v <;> rfl

theorem updK_cons {R : Type} {i j : Nat} {p : List (Nat × Nat)} {o : Ob} {Fn : Ob → (Ob → Option R) → Option R} {K : Ob → Option R} :
    Ob.updK ((i, j) :: p) o Fn K = o.leafK i j fun v => match obOf v with
      | some o1 => Ob.updK p o1 Fn fun o' => match o'.rest v with
        | some v' => o.writeK i j [v'] K
        | none => none
      | none => none := by
  show (o.leafK i j fun v =>
    match v with
    | .ow τ l => Ob.updK p (.arr τ l) Fn fun o' => match o'.rest v with
      | some v' => o.writeK i j [v'] K
      | none => none
    | .bx τ x => Ob.updK p (.box (some τ) (τ.leaves x)) Fn fun o' => match o'.rest v with
      | some v' => o.writeK i j [v'] K
      | none => none
    | _ => none) = _
  congr 1
  funext v
  cases v <;> rfl

theorem ob_of_leaf {w : World} {F : Bs} {v : V} {u : Value} {G : Bs} {o : Ob} (h : LfR w F v u G) (ho : obOf v = some o) : ObR w F o (locOfV v u) G := by
  cases v with
  | ow τ l =>
    injection ho with ho; subst ho
    obtain ⟨u', hu, hh, ha⟩ := h
    injection hu with hu; subst hu
    exact ha
  | bx τ x =>
    injection ho with ho; subst ho
    obtain ⟨b, row, G', hu, hr, hl, hb, hG⟩ := h
    injection hu with hu; subst hu
    exact ⟨b, row, G', rfl, hr, LR.leaves τ x _ _ hl, hb, hG⟩
  | _ => cases ho

theorem rest_leaf {w w' : World} {F F' : Bs} {v v' : V} {u : Value} {G G' : Bs} {o o' : Ob} (h : LfR w F v u G) (ho : obOf v = some o) (hlike : o.like o')
    (hsz : ∀ b off, locOfV v u = some (b, off) → ∀ row, Row w b row → ∃ row', Row w' b row' ∧ row'.size = row.size)
    (hr : o'.rest v = some v') (h' : Lets F' G' (fun F'' H => ObR w' F'' o' (locOfV v u) H)) : Lets F' G' (fun F'' H => LfR w' F'' v' u H) := by
  cases v with
  | ow τ l =>
    injection ho with ho; subst ho
    cases o' with
    | box _ _ => exact hlike.elim
    | arr τ' l' =>
      obtain ⟨rfl, hlen⟩ := hlike
      have hr' : some (V.ow τ l') = some v' := hr
      injection hr' with hr'; subst hr'
      obtain ⟨u', hu, hh, _⟩ := h
      injection hu with hu; subst hu
      refine h'.imp fun F'' H _ _ hob => ⟨u, rfl, ?_, hob⟩
      rw [← hlen]
      exact hh.keep' hsz
  | bx τ x =>
    injection ho with ho; subst ho
    cases o' with
    | arr _ _ => exact hlike.elim
    | box t fs =>
      have hr' : (match τ.ofAll fs with | some x => some (V.bx τ x) | none => none) = some v' := hr
      split at hr'
      · rename_i y hy
        injection hr' with hr'; subst hr'
        obtain ⟨b, row, G0, hu, _⟩ := h
        injection hu with hu; subst hu
        refine h'.bind fun F'' H _ _ hob => ?_
        obtain ⟨b', row', G1, hloc, hrow, hls, hb, hG⟩ := hob
        injection hloc with hloc; injection hloc with hloc _; subst hloc
        have this : Lets F'' G1 (fun F3 H => LR w' F3 τ y row'.toList H) := ofAll_sound hy hls
        have hd : Dj G1 (fun n => n = b) := fun n hn e => hb (e ▸ hn)
        refine (this.beside (Ψ := fun F3 H => LfR w' F3 (.bx τ y) (.pointer (some ⟨b, 0, none⟩)) H) hd ?_).iff ?_
        · intro F3 H3 _ hs3 hl
          exact ⟨b, row', H3, rfl, hrow, hl, fun h => hb (hs3 b h), fun n => Or.comm⟩
        · exact fun n => (hG n).trans Or.comm
      · cases hr'
  | _ => cases ho

theorem way_cons {w : World} {o : Ob} {b off i j : Nat} {p : List (Nat × Nat)} {v : V} {u : Value} {o1 : Ob} {F G : _} (hv : leafAt o i j = some v) (hu : w.cell? ⟨b, off + ix o i j, none⟩ = some u) (ho : obOf v = some o1) (hl : LfR w F v u G) :
    way w o (some (b, off)) ((i, j) :: p) = way w o1 (locOfV v u) p := by
  simp only [way, hv, hu]
  cases v with
  | ow τ l => injection ho with ho; subst ho; rfl
  | bx τ x =>
    injection ho with ho; subst ho
    obtain ⟨b', row, G', hu', _⟩ := hl
    injection hu' with hu'; subst hu'
    rfl
  | _ => cases ho

theorem spliced_same {row : Array Value} {a n : Nat} (h : a + n ≤ row.size) : Spliced row row a (seg row a n) := by
  have hl : (seg row a n).length = n := seg_length h
  refine ⟨by rw [hl]; exact h, ?_⟩
  rw [hl]
  unfold seg
  rw [List.append_assoc]
  exact list_split3 row.toList a n

/-- An object inside an object: how it is found, and written. -/
theorem upd_path {w : World} {F : Bs} : ∀ (p : List (Nat × Nat)) {o0 : Ob} {loc0 : Option (Nat × Nat)} {G0 : Bs} {o1 : Ob}, ObR w F o0 loc0 G0 → o0.goK p some = some o1 →
    ∃ (loc1 : Option (Nat × Nat)) (G1 : Bs), way w o0 loc0 p = some (o1, loc1) ∧ ObR w F o1 loc1 G1 ∧ (∀ n, G1 n → G0 n) ∧ (∀ (R : Type) (K : Ob → Option R), o0.goK p K = K o1) ∧
      (∀ (R : Type) (Fn : Ob → (Ob → Option R) → Option R) (K : Ob → Option R), Ob.updK p o0 Fn K = Fn o1 fun o' => Ob.updK p o0 (fun _ K' => K' o') K) ∧
      ∀ (o1' : Ob) (R : Type) (K : Ob → Option R) (r : R), o1.like o1' → Ob.updK p o0 (fun _ K' => K' o1') K = some r →
        ∃ o0', K o0' = some r ∧ o0.like o0' ∧ (∀ (R' : Type) (K' : Ob → Option R'), Ob.updK p o0 (fun _ K' => K' o1') K' = K' o0') ∧
        ∀ (w' : World) (F' G1' : Bs), Lets F' G1' (fun F'' H => ObR w' F'' o1' loc1 H) → Dj G1' (fun n => G0 n ∧ ¬ G1 n) →
          (∀ b row, Row w b row → G0 b → ∃ row', Row w' b row' ∧ row'.size = row.size) → Stay w F w' F' (fun n => G0 n ∧ ¬ G1 n) →
          Lets F' (fun n => G1' n ∨ (G0 n ∧ ¬ G1 n)) (fun F'' H => ObR w' F'' o0' loc0 H)
  | [], o0, loc0, G0, o1, h, hg => by
    have hg' : some o0 = some o1 := hg
    injection hg' with hg'; subst hg'
    refine ⟨loc0, G0, rfl, h, fun _ h => h, fun _ _ => rfl, fun _ _ _ => rfl, fun o1' R K r hlike hK => ⟨o1', hK, hlike, fun _ _ => rfl, fun w' F' G1' hl _ _ _ => hl.iff fun n => ?_⟩⟩
    exact ⟨fun h => h.elim id fun h => absurd h.1 h.2, .inl⟩
  | (i, j) :: p, o0, loc0, G0, o1, h, hg => by
    rw [goK_cons] at hg
    obtain ⟨v, hv, hg⟩ := leafK_some hg
    cases hob : obOf v with
    | none => rw [hob] at hg; cases hg
    | some os =>
      rw [hob] at hg
      have hg' : os.goK p some = some o1 := hg
      obtain ⟨b, off, row, Gm, Gr, old, hloc, hrow, hfit, hold, hG, hd, hmb, hrb, hleaf, hwr⟩ := write_ob h (fits_of_leaf hv)
      have hov := hleaf v hv rfl
      subst hov
      obtain ⟨u, hseg, hlf⟩ := LsR.one_inv hold
      have hcell : w.cell? ⟨b, off + ix o0 i j, none⟩ = some u := by
        refine cell_of_row hrow.s ?_
        have : (seg row (off + ix o0 i j) 1)[0]? = some u := by rw [hseg]; rfl
        simpa using row_of_seg this
      have hsub := ob_of_leaf hlf hob
      obtain ⟨loc1, G1, hway, hob1, hs1, hgo, hupd, hclose⟩ := upd_path p hsub hg'
      subst hloc
      have hwc : way w o0 (some (b, off)) ((i, j) :: p) = some (o1, loc1) := by rw [way_cons hcell (hv := hv) hob hlf]; exact hway
      refine ⟨loc1, G1, hwc, hob1, fun n hn => (hG n).2 (.inr (.inl (hs1 n hn))), fun R K => ?_, fun R Fn K => ?_, fun o1' R K r hlike hK => ?_⟩
      · rw [goK_cons, leafK_eq hv]
        simp only [hob]
        exact hgo R K
      · rw [updK_cons, leafK_eq hv]
        simp only [hob]
        rw [hupd]
        congr 1
        funext o'
        rw [updK_cons, leafK_eq hv]
        simp only [hob]
      · rw [updK_cons, leafK_eq hv] at hK
        simp only [hob] at hK
        obtain ⟨os', hK2, hlike2, hst2, hcl2⟩ := hclose o1' R _ r hlike hK
        cases hre : os'.rest v with
        | none => rw [hre] at hK2; cases hK2
        | some v' =>
          rw [hre] at hK2
          have hK3 : o0.writeK i j [v'] K = some r := hK2
          obtain ⟨o0', hK4, hlike4, hst4, hcl4⟩ := hwr [v'] rfl R K r hK3
          refine ⟨o0', hK4, hlike4, fun R' K' => ?_, fun w' F' G1' hl hdj hsz hstay => ?_⟩
          · rw [updK_cons, leafK_eq hv]
            simp only [hob]
            rw [hst2]
            simp only [hre]
            exact hst4 R' K'
          · -- the object behind the leaf
            have out : ∀ n, (Gm n ∧ ¬ G1 n) → G0 n ∧ ¬ G1 n := fun n h => ⟨(hG n).2 (.inr (.inl h.1)), h.2⟩
            have hA := hcl2 w' F' G1' hl (fun n hn h => hdj n hn (out n h)) (fun b' row' hr' hg' => hsz b' row' hr' ((hG b').2 (.inr (.inl hg')))) (hstay.mono out)
            have hB := rest_leaf hlf hob hlike2 (fun b' off' hl' row' hr' => ?_) hre hA
            · have hb1 : ¬ G1 b := fun h => hmb (hs1 b h)
              have hrow' : Row w' b row := hrow.keep (hstay.own b ⟨(hG b).2 (.inl rfl), hb1⟩)
              have hC := hcl4 w' F' [u] row (fun n => G1' n ∨ (Gm n ∧ ¬ G1 n)) hrow' (by rw [← hseg]; exact spliced_same hfit) rfl (hB.imp fun F'' H _ _ h => LsR.one h) ?_ ?_
              · refine hC.iff fun n => ?_
                constructor
                · rintro (h | ⟨h, h1⟩)
                  · exact .inl (.inl h)
                  · rcases (hG n).1 h with h | h | h
                    · exact .inr (.inl h)
                    · exact .inl (.inr ⟨h, h1⟩)
                    · exact .inr (.inr h)
                · rintro ((h | h) | (h | h))
                  · exact .inl h
                  · exact .inr (out n h)
                  · exact .inr ⟨(hG n).2 (.inl h), h ▸ hb1⟩
                  · exact .inr ⟨(hG n).2 (.inr (.inr h)), fun h1 => hd n (hs1 n h1) h⟩
              · rintro n (h | h) (h' | h')
                · exact hdj n h ⟨(hG n).2 (.inl h'), h' ▸ hb1⟩
                · exact hdj n h ⟨(hG n).2 (.inr (.inr h')), fun h1 => hd n (hs1 n h1) h'⟩
                · exact hmb (h' ▸ h.1)
                · exact hd n h.1 h'
              · exact ⟨hstay.size, fun c hc _ => hstay.own c ⟨(hG c).2 (.inr (.inr hc)), fun h1 => hd c (hs1 c h1) hc⟩, hstay.out, hstay.less⟩
            · -- the head's block is one of the leaf's own
              have hbm : Gm b' := by
                cases hobv : os with
                | box t fs =>
                  rw [hobv] at hsub
                  obtain ⟨b2, row2, G2, hl2, _, _, _, hG2⟩ := hsub
                  rw [hl'] at hl2
                  injection hl2 with hl2; injection hl2 with hl2 _; subst hl2
                  exact (hG2 b').2 (.inl rfl)
                | arr τ l =>
                  rw [hobv, hl'] at hsub
                  obtain ⟨row2, Gs, _, _, _, _, _, _, hG2⟩ := hsub
                  exact (hG2 b').2 (.inl rfl)
              exact hsz b' row' hr' ((hG b').2 (.inr (.inl hbm)))

end Go.Lf

import Derived.Test.YtgfhdajbgkpgkaaLfBuild
set_option linter.unusedVariables false
/-! Lf: append. -/
namespace Go.Lf

theorem subL_eq {α : Type} {l : List α} {off n : Nat} {wh : Bool} (h : wh = true → off = 0 ∧ n = l.length) : subL l off n wh = (l.drop off).take n := by
  unfold subL
  split
  · obtain ⟨_, h2⟩ := h rfl
    simp [h2]
  · simp
  · rfl

section
variable {w w' : World} {E : Bs} {β : Nat → Option (Nat × Nat)} {FA F F' FA1 F1 G : Bs} {obs obs1 : List (Nat × Ob)} {Gk Gk1 : Nat → Bs} {τ : Ty}

/-- A slice's head and the cells behind it. -/
def Cells (w : World) (u : Value) (n sz : Nat) (cs : List Value) : Prop :=
  ∃ ad cap, u = .slice ad n cap ∧ n ≤ cap ∧ cs.length = n * sz ∧ (n = 0 ∨ ∃ b o, ad = some ⟨b, o, none⟩ ∧ ∀ j v, cs[j]? = some v → w.cell? ⟨b, o + j, none⟩ = some v)

theorem LR.one {x : τ.den} {c : List Value} (h : LR w F τ x c G) : ∀ u ∈ c, u.oneCell' = true := by
  intro u hu
  obtain ⟨q, hq⟩ := List.getElem?_of_mem hu
  have hls := LR.leaves τ _ _ _ h
  have hql : q < (τ.leaves x).length := by rw [← hls.length]; exact (List.getElem?_eq_some_iff.1 hq).1
  obtain ⟨u2, G3, hu2, hlf⟩ := hls.to q (τ.leaves x)[q] (List.getElem?_eq_getElem hql)
  rw [hq] at hu2; injection hu2 with hu2; subst hu2
  refine oneCell_leaf hlf fun e => ?_
  obtain ⟨σ, hσ, z, hz, _⟩ := leaf_own τ x q _ (List.getElem?_eq_getElem hql)
  rw [e] at hz
  cases σ with
  | pair => exact (Ty.lty_leaf hσ).elim
  | unit => exact (Ty.lty_leaf hσ).elim
  | _ => injection hz with hz _; cases hz

theorem ElR.one {l : List τ.den} {cs : List Value} {G : Bs} (h : ElR w F τ l cs G) : ∀ u ∈ cs, u.oneCell' = true := by
  induction h with
  | nil => intro u hu; cases hu
  | cons h1 _ _ _ ih =>
    intro u hu
    rcases List.mem_append.1 hu with hu | hu
    · exact LR.one h1 u hu
    · exact ih u hu

/-- A stretch of an owned array, its cells and its elements. -/
theorem arr_part {l : List τ.den} {loc : Option (Nat × Nat)} {u : Value} {off n : Nat} (ha : ArrAt w τ.size (LR w F τ) l loc G) (hh : Hd w τ.size loc off n u) (hn : off + n ≤ l.length) :
    ∃ cs G', Cells w u n τ.size cs ∧ ElR w F τ ((l.drop off).take n) cs G' ∧ (∀ c, G' c → G c) ∧ ∀ b o, loc = some (b, o) → ¬ G' b ∧ ∀ row, Row w b row → cs = seg row (o + off * τ.size) (n * τ.size) := by
  obtain ⟨ad, cap, hu, hd⟩ := id hh
  cases loc with
  | none =>
    have hl := ha.1
    subst hl
    have h0 : n = 0 := by simp at hn; omega
    subst h0
    refine ⟨[], fun _ => False, ⟨ad, cap, hu, Nat.zero_le _, by simp, .inl rfl⟩, by simpa using ElR.nil fun _ h => h, fun _ h => h.elim, fun b o e => by cases e⟩
  | some bo =>
    obtain ⟨b, o⟩ := bo
    obtain ⟨row, G', hr, hs, hel, hb, hG⟩ := ha.els
    obtain ⟨Ga, ha1, hs1⟩ := hel.drop off
    obtain ⟨Gb, hb1, hs2⟩ := ha1.take n
    have hmul : (off + n) * τ.size ≤ l.length * τ.size := Nat.mul_le_mul_right _ hn
    rw [Nat.add_mul] at hmul
    have hseg : ((seg row o (l.length * τ.size)).drop (off * τ.size)).take (n * τ.size) = seg row (o + off * τ.size) (n * τ.size) := by
      unfold seg
      rw [List.drop_take, List.take_take, List.drop_drop]
      have : min (n * τ.size) (l.length * τ.size - off * τ.size) = n * τ.size := by omega
      rw [this]
    rw [hseg] at hb1
    have hsl : (seg row (o + off * τ.size) (n * τ.size)).length = n * τ.size := seg_length (by omega)
    refine ⟨_, Gb, ⟨ad, cap, hu, ?_, hsl, ?_⟩, hb1, fun c hc => (hG c).2 (.inr (hs1 c (hs2 c hc))), fun b' o' e => ?_⟩
    · rcases hd with ⟨h1, h2⟩ | ⟨_, _, _, _, _, _, h, _⟩ <;> omega
    · rcases hd with ⟨h1, h2⟩ | ⟨b', o', row', hl, hr', had, _, _⟩
      · exact .inl h1
      · injection hl with hl; injection hl with e1 e2; subst e1; subst e2
        exact .inr ⟨b, o + off * τ.size, had, fun j v hv => cell_of_row hr.s (row_of_seg hv)⟩
    · injection e with e; injection e with e1 e2; subst e1; subst e2
      refine ⟨fun h => hb (hs1 b (hs2 b h)), fun row' hr' => ?_⟩
      rw [hr.eq hr']

/-- Elements that are only read. -/
theorem sl_part {l : List τ.den} {u : Value} (h : LR w F (.sl τ) l [u] G) : ∃ cs, Cells w u l.length τ.size cs ∧ ElR w F τ l cs (fun _ => False) := by
  obtain ⟨_, ad, cap, hu, hd⟩ := h
  injection hu with hu
  rcases hd with hd | ⟨b, off, row, had, hF, hrow, hle, hel⟩
  · subst hd
    exact ⟨[], ⟨ad, _, hu, by simp, by simp, .inl rfl⟩, .nil fun _ h => h⟩
  · have hsl : (seg row off (l.length * τ.size)).length = l.length * τ.size := seg_length hle
    refine ⟨seg row off (l.length * τ.size), ⟨ad, _, hu, Nat.le_add_right _ _, hsl, .inr ⟨b, off, had, fun j v hv => cell_of_row hrow (row_of_seg hv)⟩⟩, ?_⟩
    have := ElR.of (Gs := fun _ _ => False) (l := l) (w := w) (F := F) (τ := τ) hsl (fun i x hi => ?_) (fun _ _ _ h => h) (fun _ _ _ _ h => h.elim)
    · exact this.iff fun n => ⟨fun h => h.elim, fun ⟨_, h⟩ => h.elim⟩
    · have hil := (List.getElem?_eq_some_iff.1 hi).1
      rw [seg_drop_take row (Nat.mul_le_mul_right _ hil)]
      obtain ⟨G', hE, hl⟩ := hel i x hi
      exact LR.iff τ x _ G' _ hl fun n => ⟨fun h => h.elim, fun h => hE n h⟩

theorem atRefA {R : Type} (hob : ObsA w E FA F β obs Gk) {r : Ref} {K : Ob → Option R} {x : R} (h : atRef obs r K = some x) :
    ∃ o loc G, atLoc w β obs r = some (o, loc) ∧ ObR w FA o loc G ∧ (∃ o0, get r.root obs = some o0 ∧ ∀ n, G n → Gk r.root n) ∧ K o = some x ∧
      ∀ (R' : Type) (K' : Ob → Option R') (obs' : List (Nat × Ob)), get r.root obs' = get r.root obs → atRef obs' r K' = K' o := by
  unfold atRef at h
  split at h
  · rename_i o0 hg
    obtain ⟨o1, hgo, hK⟩ := goK_some h
    obtain ⟨loc1, G1, hway, hob1, hs, hall, _⟩ := upd_path r.path (hob.rel _ _ hg) hgo
    refine ⟨o1, loc1, G1, ?_, hob1, ⟨o0, hg, hs⟩, hK, fun R' K' obs' e => ?_⟩
    · simp only [atLoc, hg]; exact hway
    · unfold atRef
      rw [e, hg]
      exact hall R' K'
  · cases h

/-- A part of an owned array that a slot leads to. -/
theorem hs_part {q : Ref} {off n : Nat} {wh : Bool} {u : Value} {l : List τ.den} {loc : Option (Nat × Nat)} (hv : VR w β obs FA (.hs q off n wh) u) (hat : atLoc w β obs q = some (.arr τ l, loc)) :
    Hd w τ.size loc off n u ∧ off + n ≤ l.length ∧ (wh = true → off = 0 ∧ n = l.length) := by
  obtain ⟨ad, cap, hu, hall⟩ := hv
  obtain ⟨τ', l', e, hh, hn, hw⟩ := hall _ _ hat
  injection e with e1 e2; subst e1
  have e2 := eq_of_heq e2; subst e2
  exact ⟨hh, hn, hw⟩

/-- What append puts behind. -/
theorem moreK_sound {R : Type} {K : List τ.den → Delta → List Nat → Option R} {r : R} (h : ObsA w E FA F β obs Gk) (hF : ∀ b, F b → FA b) {v : V} {u : Value} (hv : VR w β obs FA v u) (hk : moreK obs τ v K = some r) :
    ∃ l d rd FA1 F1 G Gk1 cs, K l d rd = some r ∧ (∀ (R' : Type) (K' : List τ.den → Delta → List Nat → Option R') (obs' : List (Nat × Ob)), (∀ q, q ∈ rd ∨ q ∈ keysOf d → get q obs' = get q obs) → moreK obs' τ v K' = K' l d rd) ∧
      Took w E β FA F obs FA1 F1 G (applyD d obs) Gk1 ∧ Cells w u l.length τ.size cs ∧ ElR w FA1 τ l cs G ∧ (∀ q ∈ keysOf d, get q obs ≠ none) ∧ ∀ q, q ∈ keysOf d → get q (applyD d obs) = none := by
  have plain : ∀ (l : List τ.den) (rd : List Nat) (cs : List Value), K l [] rd = some r → (∀ (R' : Type) (K' : List τ.den → Delta → List Nat → Option R') (obs' : List (Nat × Ob)), (∀ q, q ∈ rd → get q obs' = get q obs) → moreK obs' τ v K' = K' l [] rd) →
      Cells w u l.length τ.size cs → ElR w FA τ l cs (fun _ => False) →
      ∃ l d rd FA1 F1 G Gk1 cs, K l d rd = some r ∧ (∀ (R' : Type) (K' : List τ.den → Delta → List Nat → Option R') (obs' : List (Nat × Ob)), (∀ q, q ∈ rd ∨ q ∈ keysOf d → get q obs' = get q obs) → moreK obs' τ v K' = K' l d rd) ∧
      Took w E β FA F obs FA1 F1 G (applyD d obs) Gk1 ∧ Cells w u l.length τ.size cs ∧ ElR w FA1 τ l cs G ∧ (∀ q ∈ keysOf d, get q obs ≠ none) ∧ ∀ q, q ∈ keysOf d → get q (applyD d obs) = none :=
    fun l rd cs h1 h2 h3 h4 => ⟨l, [], rd, FA, F, fun _ => False, Gk, cs, h1, fun R' K' obs' hq => h2 R' K' obs' fun q hq' => hq q (.inl hq'), Took.refl h, h3, h4, fun q hq => (by cases hq), fun q hq => (by cases hq)⟩
  unfold moreK at hk
  split at hk
  · obtain ⟨ad, hu⟩ := hv
    exact plain [] [] [] hk (fun _ _ _ _ => rfl) ⟨ad, 0, hu, Nat.le_refl _, by simp, .inl rfl⟩ (.nil fun _ h => h)
  · rename_i k n
    split at hk
    · rename_i τ' l' hg
      split at hk
      · rename_i hb
        have e := Ty.beq_eq hb
        subst e
        rw [castL_self] at hk
        have hat : atLoc w β obs ⟨k, []⟩ = some (.arr τ' l', β k) := by simp [atLoc, hg, way]
        obtain ⟨hh, hn, hw⟩ := hs_part hv hat
        obtain ⟨_, hn2⟩ := hw rfl
        subst hn2
        obtain ⟨cs, G', hcs, hel, hsub, _⟩ := arr_part (h.rel k _ hg) hh hn
        have el : (l'.drop 0).take l'.length = l' := by simp
        rw [el] at hel
        cases hp : τ'.plain with
        | true =>
          rw [hp] at hk
          simp only at hk
          refine plain l' [k] cs hk (fun R' K' obs' hq => ?_) hcs (hel.iff fun n => ⟨fun h => h.elim, fun h => hel.plain hp n h⟩)
          unfold moreK
          simp only [hq k (by simp), hg, hb, dif_pos, hp, castL_self]
        | false =>
          rw [hp] at hk
          simp only at hk
          have htook := (took_del h hF hg).drop hsub
          refine ⟨l', [(k, none)], [k], _, _, G', Gk, cs, hk, fun R' K' obs' hq => ?_, htook, hcs, hel.keep ⟨Nat.le_refl _, fun _ _ => rfl, fun _ _ _ => rfl, fun b hb => .inl hb.1⟩, fun q hq => ?_, fun q hq => ?_⟩
          · unfold moreK
            simp only [hq k (.inl (by simp)), hg, hb, dif_pos, hp, castL_self]
          · simp [keysOf] at hq
            subst hq
            rw [hg]; exact fun e => by cases e
          · simp [keysOf] at hq
            subst hq; exact get_del _ _
      · cases hk
    · cases hk
  · rename_i hn1 hn2
    unfold readSl at hk
    split at hk
    · rename_i τ' l
      simp only at hk
      split at hk
      · rename_i hb
        have e := Ty.beq_eq hb
        subst e
        rw [castL_self] at hk
        cases hp : τ'.plain with
        | false => rw [hp] at hk; cases hk
        | true =>
          rw [hp] at hk
          simp only [cond] at hk
          obtain ⟨G, hl⟩ := hv
          obtain ⟨cs, hcs, hel⟩ := sl_part hl
          refine plain l [] cs hk (fun R' K' obs' hq => ?_) hcs hel
          unfold moreK readSl
          simp only [hb, dif_pos, hp, castL_self, cond]
      · cases hk
    · rename_i q off n wh
      obtain ⟨o1, loc, G, hat, hob1, ⟨o0, hg, hs⟩, hK, hst⟩ := atRefA h hk
      cases o1 with
      | box => cases hK
      | arr τ' l =>
        simp only at hK
        split at hK
        · rename_i hb
          have e := Ty.beq_eq hb
          subst e
          rw [castL_self] at hK
          cases hp : τ'.plain with
          | false => rw [hp] at hK; cases hK
          | true =>
            rw [hp] at hK
            simp only [cond] at hK
            obtain ⟨hh, hn, hw⟩ := hs_part hv hat
            obtain ⟨cs, G', hcs, hel, hsub, _⟩ := arr_part hob1 hh hn
            rw [subL_eq hw] at hK
            have hlen : ((l.drop off).take n).length = n := by rw [List.length_take, List.length_drop]; omega
            refine plain ((l.drop off).take n) [q.root] cs hK (fun R' K' obs' hq => ?_) (by rw [hlen]; exact hcs) (hel.iff fun n => ⟨fun h => h.elim, fun h => hel.plain hp n h⟩)
            unfold moreK
            split
            · rename_i e; cases e
            · rename_i k m e
              injection e with e1 e2 e3 e4; subst e1; subst e2; subst e3; subst e4
              exact absurd rfl (hn2 _ _)
            · unfold readSl
              simp only
              rw [hst R' _ obs' (hq _ (by simp))]
              simp only [hb, dif_pos, hp, castL_self, cond, subL_eq hw]
        · cases hK
    · cases hk
end
end Go.Lf

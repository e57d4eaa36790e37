import Derived.Test.YtgfhdajbgkpgkaaLfAppend3
set_option linter.unusedVariables false
/-! Lf: what is handed over to a call. -/
namespace Go.Lf

/-- Arguments by value, out of the objects: what becomes of these. -/
structure ArgOk (share : Bool) (w : World) (E : Bs) (β : Nat → Option (Nat × Nat)) (FA F : Bs) (obs : List (Nat × Ob)) (Gk : Nat → Bs) (d : Delta) (rd : List Nat) (FA1 F1 : Bs) : Prop where
  took : Took w E β FA F obs FA1 F1 (fun _ => False) (applyD d obs) Gk
  sub : ∀ q ∈ keysOf d, q ∈ rd
  ex : ∀ q ∈ rd, get q obs ≠ none
  gone : ∀ q ∈ keysOf d, get q (applyD d obs) = none
  free : ∀ q ∈ keysOf d, ∀ b, Gk q b → ¬ FA1 b
  all : share = true → ∀ q ∈ rd, q ∈ keysOf d

/-- No footprint of what is only read. -/
def Off (F' FA1 : Bs) (Gk : Nat → Bs) (d : Delta) (rd : List Nat) : Prop :=
  (∀ b, F' b → FA1 b) ∧ ∀ q ∈ rd, q ∉ keysOf d → ∀ b, Gk q b → ¬ F' b

section
variable {share : Bool} {w : World} {E : Bs} {β : Nat → Option (Nat × Nat)} {FA F FA1 F1 FA2 F2 F' : Bs} {obs : List (Nat × Ob)} {Gk : Nat → Bs} {d d' : Delta} {rd rd' : List Nat}

theorem ArgOk.refl (h : ObsA w E FA F β obs Gk) : ArgOk share w E β FA F obs Gk [] [] FA F :=
  ⟨Took.refl h, fun q hq => (by cases hq), fun q hq => (by cases hq), fun q hq => (by cases hq), fun q hq => (by cases hq), fun _ q hq => (by cases hq)⟩

theorem ArgOk.read (h : ObsA w E FA F β obs Gk) (hs : share = false) {k : Nat} (hk : get k obs ≠ none) : ArgOk share w E β FA F obs Gk [] [k] FA F :=
  ⟨Took.refl h, fun q hq => (by cases hq), fun q hq => by rw [List.mem_singleton.1 hq]; exact hk, fun q hq => (by cases hq), fun q hq => (by cases hq), fun e => by rw [hs] at e; cases e⟩

theorem ArgOk.trans (h : ArgOk share w E β FA F obs Gk d rd FA1 F1) (k : ArgOk share w E β FA1 F1 (applyD d obs) Gk d' rd' FA2 F2) : ArgOk share w E β FA F obs Gk (d ++ d') (rd ++ rd') FA2 F2 := by
  refine ⟨?_, fun q hq => ?_, fun q hq => ?_, fun q hq => ?_, fun q hq => ?_, fun e q hq => ?_⟩
  · rw [applyD_append]
    exact (h.took.trans k.took).iff fun b => ⟨fun h => h.elim, fun h => h.elim id id⟩
  · rw [keysOf_append] at hq
    exact List.mem_append.2 ((List.mem_append.1 hq).imp (h.sub q) (k.sub q))
  · rcases List.mem_append.1 hq with hq | hq
    · exact h.ex q hq
    · have := k.ex q hq
      by_cases e : q ∈ keysOf d
      · exact absurd (h.gone q e) this
      · rw [get_applyD d obs e] at this; exact this
  · rw [applyD_append]
    rw [keysOf_append] at hq
    by_cases e : q ∈ keysOf d'
    · exact k.gone q e
    · rw [get_applyD d' _ e]
      exact h.gone q ((List.mem_append.1 hq).resolve_right e)
  · rw [keysOf_append] at hq
    rcases List.mem_append.1 hq with hq | hq
    · exact fun b hb h2 => h.free q hq b hb (k.took.sub b h2)
    · exact k.free q hq
  · rw [keysOf_append]
    exact List.mem_append.2 ((List.mem_append.1 hq).imp (h.all e q) (k.all e q))

theorem Off.left (k : ArgOk share w E β FA1 F1 (applyD d obs) Gk d' rd' FA2 F2) (h : Off F' FA2 Gk (d ++ d') (rd ++ rd')) : Off F' FA1 Gk d rd := by
  refine ⟨fun b hb => k.took.sub b (h.1 b hb), fun q hq hn b hb hf => ?_⟩
  by_cases e : q ∈ keysOf d'
  · exact k.free q e b hb (h.1 b hf)
  · exact h.2 q (List.mem_append.2 (.inl hq)) (fun hq => by rw [keysOf_append] at hq; exact (List.mem_append.1 hq).elim hn e) b hb hf

theorem Off.right (h1 : ArgOk share w E β FA F obs Gk d rd FA1 F1) (k : ArgOk share w E β FA1 F1 (applyD d obs) Gk d' rd' FA2 F2) (h : Off F' FA2 Gk (d ++ d') (rd ++ rd')) : Off F' FA2 Gk d' rd' := by
  refine ⟨h.1, fun q hq hn b hb hf => ?_⟩
  have : q ∉ keysOf d := fun e => k.ex q hq (h1.gone q e)
  exact h.2 q (List.mem_append.2 (.inr hq)) (fun hq => by rw [keysOf_append] at hq; exact (List.mem_append.1 hq).elim this hn) b hb hf

/-- A leaf that is handed over by value. -/
theorem argLeaf_ok {R : Type} (h : ObsA w E FA F β obs Gk) (hF : ∀ b, F b → FA b) {v : V} {u : Value} (hv : VRl w β obs FA v u) {K : V → Delta → List Nat → Option R} {r : R} (hk : argLeafK obs share v K = some r) :
    ∃ v' d rd FA1 F1, K v' d rd = some r ∧ (∀ (R' : Type) (K' : V → Delta → List Nat → Option R') (obs' : List (Nat × Ob)), (∀ q ∈ rd, get q obs' = get q obs) → argLeafK obs' share v K' = K' v' d rd) ∧
      ArgOk share w E β FA F obs Gk d rd FA1 F1 ∧ ∀ F', Off F' FA1 Gk d rd → LfR w F' v' u (fun _ => False) := by
  have plain : ∀ (v' : V), K v' [] [] = some r → (∀ (R' : Type) (K' : V → Delta → List Nat → Option R') (obs' : List (Nat × Ob)), argLeafK obs' share v K' = K' v' [] []) → (∀ F' : Bs, (∀ b, F' b → FA b) → LfR w F' v' u (fun _ => False)) →
      ∃ v' d rd FA1 F1, K v' d rd = some r ∧ (∀ (R' : Type) (K' : V → Delta → List Nat → Option R') (obs' : List (Nat × Ob)), (∀ q ∈ rd, get q obs' = get q obs) → argLeafK obs' share v K' = K' v' d rd) ∧
      ArgOk share w E β FA F obs Gk d rd FA1 F1 ∧ ∀ F', Off F' FA1 Gk d rd → LfR w F' v' u (fun _ => False) :=
    fun v' h1 h2 h3 => ⟨v', [], [], FA, F, h1, fun R' K' obs' _ => h2 R' K' obs', ArgOk.refl h, fun F' hf => h3 F' hf.1⟩
  unfold argLeafK at hk
  split at hk
  · exact plain _ hk (fun _ _ _ => rfl) fun _ _ => ⟨hv, fun _ h => h⟩
  · exact plain _ hk (fun _ _ _ => rfl) fun _ _ => ⟨hv, fun _ h => h⟩
  · exact plain _ hk (fun _ _ _ => rfl) fun _ _ => ⟨hv, fun _ h => h⟩
  · rename_i τ l
    obtain ⟨G, hl⟩ := hv
    refine plain _ hk (fun _ _ _ => rfl) fun F' hf => ?_
    have : LR w F' (.sl τ) l [u] G := LR.sub hl hf
    exact ⟨fun _ h => h, this.2⟩
  · rename_i q off n wh
    unfold readSl at hk
    obtain ⟨o1, loc, G, hat, hob1, ⟨o0, hg, hs⟩, hK, hst⟩ := atRefA h hk
    cases o1 with
    | box => cases hK
    | arr τ l =>
      simp only at hK
      obtain ⟨hh, hn, hw⟩ := hs_part (FA := FA) hv hat
      cases hp : τ.plain with
      | false => rw [hp] at hK; cases hK
      | true =>
        rw [hp] at hK
        simp only [cond] at hK
        rw [subL_eq hw] at hK
        have hne : get q.root obs ≠ none := by rw [hg]; exact fun e => by cases e
        split at hK
        · refine ⟨_, [], [q.root], FA, F, hK, fun R' K' obs' hq => ?_, ArgOk.read h rfl hne, fun F' hf => ?_⟩
          · unfold argLeafK readSl
            simp only
            rw [hst R' _ obs' (hq _ (by simp))]
            simp only [hp, cond, subL_eq hw]
          · exact Go.Lf.share hob1 hh hp hn F' hf.1 fun b hb hb' => hf.2 q.root (by simp) (fun e => by cases e) b (hs b hb) hb'
        · rename_i hpath
          have htook := (took_del h hF hg).drop (G' := fun _ => False) fun _ h => h.elim
          refine ⟨_, [(q.root, none)], [q.root], _, _, hK, fun R' K' obs' hq => ?_, ⟨htook, fun c hc => hc, fun c hc => by rw [List.mem_singleton.1 hc]; exact hne, fun c hc => ?_, fun c hc => ?_, fun _ c hc => hc⟩, fun F' hf => ?_⟩
          · unfold argLeafK readSl
            simp only
            rw [hst R' _ obs' (hq _ (by simp))]
            simp only [hp, cond, subL_eq hw, hpath]
          · simp [keysOf] at hc
            subst hc
            exact get_del _ _
          · simp [keysOf] at hc
            subst hc
            exact fun b hb h2 => h2.2 hb
          · exact Go.Lf.share hob1 hh hp hn F' (fun b hb => (hf.1 b hb).1) fun b hb hb' => (hf.1 b hb').2 (hs b hb)
        · cases hK
  · cases hk

theorem argLeaves_ok {R : Type} : ∀ (vs : List V) {FA F : Bs} {obs : List (Nat × Ob)} {us : List Value} {K : List V → Delta → List Nat → Option R} {r : R}, ObsA w E FA F β obs Gk → (∀ b, F b → FA b) → All2 (VRl w β obs FA) vs us → argLeavesK share vs obs K = some r →
    ∃ vs' d rd FA1 F1, K vs' d rd = some r ∧ (∀ (R' : Type) (K' : List V → Delta → List Nat → Option R') (obs' : List (Nat × Ob)), (∀ q ∈ rd, get q obs' = get q obs) → argLeavesK share vs obs' K' = K' vs' d rd) ∧
      ArgOk share w E β FA F obs Gk d rd FA1 F1 ∧ ∀ F', Off F' FA1 Gk d rd → LsR w F' vs' us (fun _ => False)
  | [], FA, F, obs, us, K, r, h, hF, hv, hk => by
    cases hv
    exact ⟨[], [], [], FA, F, hk, fun _ _ _ _ => rfl, ArgOk.refl h, fun _ _ => .nil fun _ h => h⟩
  | v :: vs, FA, F, obs, us, K, r, h, hF, hv, hk => by
    cases hv with
    | cons hu hus =>
      rename_i u us
      unfold argLeavesK at hk
      obtain ⟨v', d, rd, FA1, F1, hk1, hst, hok, hlf⟩ := argLeaf_ok h hF hu hk
      have hF1 : ∀ b, F1 b → FA1 b := fun b hb => Classical.byContradiction fun hn => (hok.took.lost b (hF b (hok.took.less b hb)) hn).2.1 hb
      have hus1 := hus.imp fun x y _ hxy => VRl.keep hxy (hok.took.stay _) fun r _ => hok.took.keep r
      obtain ⟨vs', d', rd', FA2, F2, hk2, hst2, hok2, hls⟩ := argLeaves_ok vs hok.took.ob hF1 hus1 hk1
      refine ⟨v' :: vs', d ++ d', rd ++ rd', FA2, F2, hk2, fun R' K' obs' hq => ?_, hok.trans hok2, fun F' hf => ?_⟩
      · unfold argLeavesK
        rw [hst _ _ obs' fun q hq' => hq q (List.mem_append.2 (.inl hq'))]
        exact hst2 _ _ _ fun q hq' => get_applyD_congr d _ _ (hq q (List.mem_append.2 (.inr hq')))
      · exact .cons (hlf F' (hf.left hok2)) (hls F' (hf.right hok hok2)) (fun _ h => h.elim) fun n => ⟨fun h => h.elim, fun h => h.elim id id⟩
end

/-- A value of a code's type. -/
def ValR (w : World) (F : Bs) (τ : Ty) (x : τ.den) (u : Value) (G : Bs) : Prop :=
  LR w F τ x u.cells.toList G ∧ ((∃ us, u = .agg us) ↔ τ.isA = true)

/-- Arguments as a function takes them. -/
def ArgsR (w : World) (F : Bs) : (ps : List PT) → Args ps → List Value → Bs → Prop
  | [], _, us, G => us = [] ∧ Emp G
  | .imm τ :: ps, x, us, G => ∃ u us', us = u :: us' ∧ τ.plain = true ∧ ValR w F τ x.1 u (fun _ => False) ∧ ArgsR w F ps x.2 us' G
  | .bor τ _ :: ps, x, us, G => ∃ u us' G1 G2, us = u :: us' ∧ LR w F (.bx τ) x.1 [u] G1 ∧ ArgsR w F ps x.2 us' G2 ∧ Dj G1 G2 ∧ ∀ n, G n ↔ G1 n ∨ G2 n

/-- What comes back into borrowed blocks. -/
def BackR (w : World) (F : Bs) : (ps : List PT) → Upds ps → List Value → Bs → Prop
  | [], _, us, G => us = [] ∧ Emp G
  | .imm _ :: ps, y, us, G => ∃ u us', us = u :: us' ∧ BackR w F ps y us' G
  | .bor τ true :: ps, y, us, G => ∃ u us' G1 G2, us = u :: us' ∧ LR w F (.bx τ) y.1 [u] G1 ∧ BackR w F ps y.2 us' G2 ∧ Dj G1 G2 ∧ ∀ n, G n ↔ G1 n ∨ G2 n
  | .bor _ false :: _, _, _, _ => False

def ResR (w : World) (F : Bs) : (rs : List Ty) → Tys rs → List Value → Bs → Prop
  | [], _, us, G => us = [] ∧ Emp G
  | τ :: rs, y, us, G => ∃ u us' G1 G2, us = u :: us' ∧ ValR w F τ y.1 u G1 ∧ ResR w F rs y.2 us' G2 ∧ Dj G1 G2 ∧ ∀ n, G n ↔ G1 n ∨ G2 n

def pack (us : List Value) : Value := if h : us.toArray.size = 1 then us.toArray[0] else .tuple us.toArray

/-- A function does what its lifted form says. -/
structure FSound (P : Program) (S : FSem) : Prop where
  entry : ∃ fn, P.funcs[S.id]? = some fn ∧ (fn.name == "runtime.NumGoroutine") = false ∧ fn.body.isNone = false
  calls : ∀ (k : Nat) (x : Args S.ps) (y : Tys S.rs × Upds S.ps), S.f k x = some y → ∀ (w : World) (E F G : Bs) (us : List Value), ArgsR w F S.ps x us G → (∀ b, F b ↔ E b ∨ G b) → Dj G E → (∀ b, E b → b < w.heap.size) →
    Calls P S.id us.toArray w fun e w' => ∃ rs F' G1 G2, e = .returned (pack rs) ∧ ResR w' F' S.rs y.1 rs G1 ∧ BackR w' F' S.ps y.2 us G2 ∧ Dj G1 G2 ∧ Dj G1 E ∧ Dj G2 E ∧ (∀ b, F' b ↔ E b ∨ G1 b ∨ G2 b) ∧
      Apart w w' ∧ Stay w F w' F' (fun _ => False) ∧ ∀ b, E b → w'.heap[b]? = w.heap[b]?

section
variable {share : Bool} {w : World} {E : Bs} {β : Nat → Option (Nat × Nat)} {FA F FA1 F1 FA2 F2 F' : Bs} {obs : List (Nat × Ob)} {Gk : Nat → Bs} {d d' : Delta} {rd rd' : List Nat}

theorem arg_fields {R : Type} {v : V} {u : Value} {K : List V → Delta → List Nat → Option R} {r : R} (hv : VR w β obs F v u) (h : argLeavesK share v.fields obs K = some r) : All2 (VRl w β obs F) v.fields u.cells.toList := by
  cases v with
  | agg fs =>
    obtain ⟨us, hu, hall⟩ := hv
    subst hu
    exact hall
  | undef => cases h
  | tup => cases h
  | fn => cases h
  | ow => cases h
  | bx => cases h
  | _ => exact fields_rel hv rfl

theorem agg_iff {v : V} {u : Value} (hv : VR w β obs F v u) (hu : v ≠ .undef) : (∃ us, u = .agg us) ↔ v.isAgg = true := by
  cases v with
  | agg fs => obtain ⟨us, hu, _⟩ := hv; exact ⟨fun _ => rfl, fun _ => ⟨us, hu⟩⟩
  | undef => exact absurd rfl hu
  | int => have e := int_of_VR hv; subst e; exact ⟨fun ⟨_, h⟩ => (by cases h), fun h => (by cases h)⟩
  | bool => have e := bool_of_VR hv; subst e; exact ⟨fun ⟨_, h⟩ => (by cases h), fun h => (by cases h)⟩
  | nilp => have e : u = .pointer none := hv; subst e; exact ⟨fun ⟨_, h⟩ => (by cases h), fun h => (by cases h)⟩
  | nils => obtain ⟨ad, e⟩ := hv; subst e; exact ⟨fun ⟨_, h⟩ => (by cases h), fun h => (by cases h)⟩
  | sl τ l => obtain ⟨G, hE, ad, cap, e, hd⟩ := hv; injection e with e; subst e; exact ⟨fun ⟨_, h⟩ => (by cases h), fun h => (by cases h)⟩
  | ip τ x j => obtain ⟨b, off, row, G, e, h⟩ := hv; subst e; exact ⟨fun ⟨_, h⟩ => (by cases h), fun h => (by cases h)⟩
  | hs r off n wh => obtain ⟨ad, cap, e, h⟩ := hv; subst e; exact ⟨fun ⟨_, h⟩ => (by cases h), fun h => (by cases h)⟩
  | hp r i j => obtain ⟨ad, e, h⟩ := hv; subst e; exact ⟨fun ⟨_, h⟩ => (by cases h), fun h => (by cases h)⟩
  | tup => obtain ⟨us, e, _⟩ := hv; subst e; exact ⟨fun ⟨_, h⟩ => (by cases h), fun h => (by cases h)⟩
  | fn => obtain ⟨us, e, _⟩ := hv; subst e; exact ⟨fun ⟨_, h⟩ => (by cases h), fun h => (by cases h)⟩
  | ow => exact hv.elim
  | bx => exact hv.elim

theorem likeA_iff {τ : Ty} {v : V} {u : Value} (hl : likeA τ v = true) (hv : VR w β obs F v u) (hu : v ≠ .undef) : (∃ us, u = .agg us) ↔ τ.isA = true := by
  rw [agg_iff hv hu]
  unfold likeA at hl
  cases e : τ.isA with
  | true => rw [e] at hl; simp only at hl; simp [hl]
  | false => rw [e] at hl; simp only at hl; cases h : v.isAgg with
    | true => rw [h] at hl; cases hl
    | false => exact Iff.rfl

/-- The borrowed blocks among the arguments. -/
def Links (β : Nat → Option (Nat × Nat)) : List PT → List Value → List Nat → Prop
  | [], us, bs => us = [] ∧ bs = []
  | .imm _ :: ps, us, bs => ∃ u us', us = u :: us' ∧ Links β ps us' bs
  | .bor _ _ :: ps, us, bs => ∃ b us' k bs', us = .pointer (some ⟨b, 0, none⟩) :: us' ∧ bs = k :: bs' ∧ β k = some (b, 0) ∧ Links β ps us' bs'

theorem argsK_bor {R : Type} {τ : Ty} {rw' : Bool} {ps : List PT} {v : V} {vs : List V} {K : Args (.bor τ rw' :: ps) → List Nat → Delta → List Nat → Option R} {r : R} (h : argsK share (.bor τ rw' :: ps) (v :: vs) obs K = some r) :
    ∃ k2 t fs x, v = .hp ⟨k2, []⟩ 0 0 ∧ get k2 obs = some (.box t fs) ∧ τ.ofAll fs = some x ∧ argsK share ps vs obs (fun xs bs d' sn' => K (x, xs) (k2 :: bs) d' sn') = some r := by
  cases v with
  | hp q i j =>
    obtain ⟨k2, path⟩ := q
    cases path with
    | cons => cases i <;> cases j <;> cases h
    | nil =>
      cases i with
      | succ => cases j <;> cases h
      | zero =>
        cases j with
        | succ => cases h
        | zero =>
          have h' : (match get k2 obs with
            | some (.box _ fs) => match τ.ofAll fs with
              | some x => argsK share ps vs obs fun xs bs d' sn' => K (x, xs) (k2 :: bs) d' sn'
              | none => none
            | _ => none) = some r := h
          split at h'
          · rename_i t fs hg
            split at h'
            · rename_i x hx
              exact ⟨k2, t, fs, x, rfl, hg, hx, h'⟩
            · cases h'
          · cases h'
  | _ => cases h

theorem args_ok {R : Type} : ∀ (ps : List PT) {vs : List V} {FA F : Bs} {obs : List (Nat × Ob)} {us : List Value} {K : Args ps → List Nat → Delta → List Nat → Option R} {r : R}, ObsA w E FA F β obs Gk → (∀ b, F b → FA b) → All2 (VR w β obs FA) vs us → argsK share ps vs obs K = some r →
    ∃ xs bs d sn FA1 F1 G, K xs bs d sn = some r ∧ (∀ (R' : Type) (K' : Args ps → List Nat → Delta → List Nat → Option R') (obs' : List (Nat × Ob)), (∀ q ∈ sn, get q obs' = get q obs) → (∀ q ∈ bs, get q obs' = get q obs) → (∀ q ∈ sn, q ∉ bs) → argsK share ps vs obs' K' = K' xs bs d sn) ∧
      ArgOk share w E β FA F obs Gk d sn FA1 F1 ∧ Links β ps us bs ∧ (∀ b, G b → ∃ q ∈ bs, Gk q b) ∧ (∀ q ∈ bs, ∃ t fs, get q obs = some (.box t fs)) ∧
      ∀ F', Off F' FA1 Gk d sn → bs.Nodup → (∀ q ∈ sn, q ∉ bs) → (∀ q ∈ bs, ∀ b, Gk q b → F' b → G b) → ArgsR w F' ps xs us G
  | [], vs, FA, F, obs, us, K, r, h, hF, hv, hk => by
    cases hv with
    | cons => cases hk
    | nil => exact ⟨(), [], [], [], FA, F, fun _ => False, hk, fun _ _ _ _ _ _ => rfl, ArgOk.refl h, ⟨rfl, rfl⟩, fun _ h => h.elim, fun q hq => (by cases hq), fun F' _ _ _ _ => ⟨rfl, fun _ h => h⟩⟩
  | .imm τ :: ps, vs, FA, F, obs, us, K, r, h, hF, hv, hk => by
    cases hv with
    | nil => cases hk
    | cons hu hus =>
      rename_i v u vs us
      unfold argsK at hk
      cases hpl : τ.plain && likeA τ v with
      | false => rw [hpl] at hk; cases hk
      | true =>
        rw [hpl] at hk
        simp only [cond] at hk
        have hpl' := hpl
        rw [Bool.and_eq_true] at hpl'
        have hall := arg_fields hu hk
        have hnu : v ≠ .undef := by intro e; subst e; cases hk
        obtain ⟨fs, d, sn, FA1, F1, hk1, hst, hok, hls⟩ := argLeaves_ok _ h hF hall hk
        split at hk1
        · rename_i x hx
          have hF1 : ∀ b, F1 b → FA1 b := fun b hb => Classical.byContradiction fun hn => (hok.took.lost b (hF b (hok.took.less b hb)) hn).2.1 hb
          have hus1 := hus.imp fun x y _ hxy => VR.keep hxy (hok.took.stay _) fun r _ => hok.took.keep r
          obtain ⟨xs, bs, d', sn', FA2, F2, G, hk2, hst2, hok2, hlink, hG, hbox, hargs⟩ := args_ok ps hok.took.ob hF1 hus1 hk1
          have hex : ∀ q ∈ bs, q ∉ keysOf d := fun q hq e => by
            obtain ⟨t, fs, hb⟩ := hbox q hq
            rw [hok.gone q e] at hb; cases hb
          refine ⟨(x, xs), bs, d ++ d', sn ++ sn', FA2, F2, G, hk2, fun R' K' obs' hq hb hd => ?_, hok.trans hok2, ⟨u, us, rfl, hlink⟩, hG, fun q hq => ?_, fun F' hf hnd hd hbs => ?_⟩
          · unfold argsK
            rw [hpl]
            simp only [cond]
            rw [hst _ _ obs' fun q hq' => hq q (List.mem_append.2 (.inl hq'))]
            simp only [hx]
            exact hst2 _ _ _ (fun q hq' => get_applyD_congr d _ _ (hq q (List.mem_append.2 (.inr hq')))) (fun q hq' => get_applyD_congr d _ _ (hb q hq')) fun q hq' => hd q (List.mem_append.2 (.inr hq'))
          · obtain ⟨t, fs, hb⟩ := hbox q hq
            rw [get_applyD d obs (hex q hq)] at hb
            exact ⟨t, fs, hb⟩
          · refine ⟨u, us, rfl, hpl'.1, ⟨?_, likeA_iff hpl'.2 hu hnu⟩, hargs F' (hf.right hok hok2) hnd (fun q hq => hd q (List.mem_append.2 (.inr hq))) hbs⟩
            obtain ⟨G1, hs1, H⟩ := ofAll_sound hx (hls F' (hf.left hok2))
            exact LR.iff τ x _ G1 _ (H F' (fun _ h => h) fun _ h => h.elim) fun n => ⟨fun h => h.elim, hs1 n⟩
        · cases hk1
  | .bor τ rw' :: ps, vs, FA, F, obs, us, K, r, h, hF, hv, hk => by
    cases hv with
    | nil => cases hk
    | cons hu hus =>
      rename_i v u vs us
      obtain ⟨k2, t, fs, x, e2, hg, hx, hkk⟩ := argsK_bor hk
      subst e2
      obtain ⟨ad, hu', hall⟩ := hu
      have hat : atLoc w β obs ⟨k2, []⟩ = some (.box t fs, β k2) := by simp [atLoc, hg, way]
      obtain ⟨b', off', hloc', had⟩ := hall _ _ hat
      obtain ⟨b, row, G', hloc, hrow, hls, hnb, hG'⟩ := h.rel k2 _ hg
      rw [hloc] at hloc'; injection hloc' with e; injection e with e6 e7; subst e6; subst e7
      obtain ⟨xs, bs, d', sn', FA2, F2, G, hk2, hst2, hok2, hlink, hG, hbox, hargs⟩ := args_ok ps h hF hus hkk
      obtain ⟨G1, hs1, H⟩ := ofAll_sound hx hls
      have had' : ad = ⟨b, 0, none⟩ := by rw [had]; rfl
      subst had'
      refine ⟨(x, xs), k2 :: bs, d', sn', FA2, F2, fun n => (n = b ∨ G1 n) ∨ G n, hk2, fun R' K' obs' hq hb hd => ?_, hok2, ⟨b, us, k2, bs, by rw [hu'], rfl, hloc, hlink⟩, fun n hn => ?_, fun q hq => ?_, fun F' hf hnd hd hbs => ?_⟩
      · have e : argsK share (.bor τ rw' :: ps) (.hp ⟨k2, []⟩ 0 0 :: vs) obs' K' = (match get k2 obs' with
            | some (.box _ fs) => match τ.ofAll fs with
              | some x => argsK share ps vs obs' fun xs bs d' sn' => K' (x, xs) (k2 :: bs) d' sn'
              | none => none
            | _ => none) := rfl
        rw [e, hb k2 (by simp), hg]
        simp only [hx]
        exact hst2 _ _ _ hq (fun q hq' => hb q (List.mem_cons_of_mem _ hq')) fun q hq' hqb => hd q hq' (List.mem_cons_of_mem _ hqb)
      · rcases hn with hn | hn
        · exact ⟨k2, by simp, (hG' n).2 (hn.imp id (hs1 n))⟩
        · obtain ⟨q, hq, hqn⟩ := hG n hn
          exact ⟨q, List.mem_cons_of_mem _ hq, hqn⟩
      · rcases List.mem_cons.1 hq with e | hq
        · subst e; exact ⟨t, fs, hg⟩
        · exact hbox q hq
      · have hnd' := List.nodup_cons.1 hnd
        have hkd : ∀ q ∈ bs, Dj (Gk k2) (Gk q) := fun q hq => by
          obtain ⟨t', fs', hq'⟩ := hbox q hq
          exact h.dj k2 q _ _ hg hq' fun e => hnd'.1 (e ▸ hq)
        have hdd : Dj (fun n => n = b ∨ G1 n) G := fun n hn hn' => by
          obtain ⟨q, hq, hqn⟩ := hG n hn'
          exact hkd q hq n ((hG' n).2 (hn.imp id (hs1 n))) hqn
        have hsub : ∀ n, Gk k2 n → F' n → n = b ∨ G1 n := fun n hn hf' => by
          rcases hbs k2 (by simp) n hn hf' with h | h
          · exact h
          · obtain ⟨q, hq, hqn⟩ := hG n h
            exact absurd hqn (hkd q hq n hn)
        refine ⟨u, us, fun n => n = b ∨ G1 n, G, rfl, ⟨b, row, G1, by rw [hu'], hrow, H F' (fun n hn => hok2.took.sub n (hf.1 n hn)) (fun n hn h1 hf' => ?_), fun hb => hnb (hs1 b hb), fun n => Iff.rfl⟩, hargs F' hf hnd'.2 (fun q hq hqb => hd q hq (List.mem_cons_of_mem _ hqb)) (fun q hq n hn hf' => ?_), hdd, fun n => Iff.rfl⟩
        · rcases hsub n ((hG' n).2 (.inr hn)) hf' with e | h
          · exact hnb (e ▸ hn)
          · exact h1 h
        · rcases hbs q (List.mem_cons_of_mem _ hq) n hn hf' with h | h
          · exact absurd hn fun h' => hkd q hq n ((hG' n).2 (h.imp id (hs1 n))) h'
          · exact h
end
end Go.Lf

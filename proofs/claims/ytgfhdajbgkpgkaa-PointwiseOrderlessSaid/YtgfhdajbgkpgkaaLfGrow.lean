import Derived.Test.YtgfhdajbgkpgkaaLfRest
import Derived.Laws.MakeOwn
import Derived.Great.BuildSlice
set_option linter.unusedVariables false
/-! Lf: what comes new. -/
namespace Go.Lf

theorem cell_same {w w' : World} {b i : Nat} (h : w'.heap[b]? = w.heap[b]?) : w'.cell? ⟨b, i, none⟩ = w.cell? ⟨b, i, none⟩ := by
  unfold World.cell?
  rw [h]

/-- A way through an object that stays. -/
theorem way_stays {w w' : World} {F F' : Bs} : ∀ (p : List (Nat × Nat)) {o : Ob} {loc : Option (Nat × Nat)} {G : Bs}, ObR w F o loc G → Stay w F w' F' G → way w' o loc p = way w o loc p
  | [], o, loc, G, _, _ => rfl
  | (i, j) :: p, o, loc, G, h, hs => by
    cases loc with
    | none => rfl
    | some bo =>
      obtain ⟨b, off⟩ := bo
      cases hv : leafAt o i j with
      | none => simp only [way, hv]
      | some v =>
        obtain ⟨b', off', u, G1, hl, hb, hc, hlf, hsub, _⟩ := leaf_rel h hv
        injection hl with hl; injection hl with e1 e2; subst e1; subst e2
        have hc' : w'.cell? ⟨b, off + ix o i j, none⟩ = some u := (cell_same (hs.own b hb)).trans hc
        cases ho : obOf v with
        | none =>
          cases v <;> first | (simp only [way, hv, hc, hc']; done) | cases ho
        | some o1 =>
          rw [way_cons hv hc ho hlf, way_cons hv hc' ho (hlf.keep (hs.mono hsub))]
          exact way_stays p (ob_of_leaf hlf ho) (hs.mono hsub)

theorem way_ob {w : World} {F : Bs} : ∀ (p : List (Nat × Nat)) {o : Ob} {loc : Option (Nat × Nat)} {G : Bs} {o1 : Ob} {loc1 : Option (Nat × Nat)}, ObR w F o loc G → way w o loc p = some (o1, loc1) → ∃ G1 : Bs, ObR w F o1 loc1 G1 ∧ ∀ n, G1 n → G n
  | [], o, loc, G, o1, loc1, h, hw => by
    have hw' : some (o, loc) = some (o1, loc1) := hw
    injection hw' with hw'; injection hw' with e1 e2; subst e1; subst e2
    exact ⟨G, h, fun _ h => h⟩
  | (i, j) :: p, o, loc, G, o1, loc1, h, hw => by
    cases loc with
    | none => cases hw
    | some bo =>
      obtain ⟨b, off⟩ := bo
      cases hv : leafAt o i j with
      | none => simp [way, hv] at hw
      | some v =>
        obtain ⟨b', off', u, G1, hl, hb, hc, hlf, hsub, _⟩ := leaf_rel h hv
        injection hl with hl; injection hl with e1 e2; subst e1; subst e2
        cases ho : obOf v with
        | none => cases v <;> first | (simp [way, hv, hc] at hw; done) | cases ho
        | some os =>
          rw [way_cons hv hc ho hlf] at hw
          obtain ⟨G2, h2, s2⟩ := way_ob p (ob_of_leaf hlf ho) hw
          exact ⟨G2, h2, fun n hn => hsub n (s2 n hn)⟩

theorem ob_block {w : World} {F : Bs} {o : Ob} {b off : Nat} {G : Bs} (h : ObR w F o (some (b, off)) G) : G b := by
  cases o with
  | box t fs =>
    obtain ⟨b', row, G', hl, _, _, _, hG⟩ := h
    injection hl with hl; injection hl with e1 e2; subst e1
    exact (hG b).2 (.inl rfl)
  | arr τ l =>
    obtain ⟨row, Gs, _, _, _, _, _, _, hG⟩ := h
    exact (hG b).2 (.inl rfl)

section
variable {w w' : World} {E : Bs} {β β' : Nat → Option (Nat × Nat)} {FA F FA1 F1 G : Bs} {obs obs' : List (Nat × Ob)} {Gk Gk' : Nat → Bs}

theorem RefKeep.of_stay (h : ObsA w E FA F β obs Gk) {r : Ref} {FA' : Bs} (hβ : β' r.root = β r.root) (hg : get r.root obs' = get r.root obs) (hs : ∀ o, get r.root obs = some o → Stay w FA w' FA' (Gk r.root)) :
    RefKeep w β obs w' β' obs' r := by
  intro o' loc hl
  unfold atLoc at hl
  rw [hg] at hl
  cases ho : get r.root obs with
  | none => rw [ho] at hl; cases hl
  | some o0 =>
    rw [ho] at hl
    have hl' : way w' o0 (β' r.root) r.path = some (o', loc) := hl
    have hst := hs o0 ho
    rw [hβ, way_stays r.path (h.rel _ _ ho) hst] at hl'
    refine ⟨o', ?_, Ob.like.refl o', fun b off e row hr => ?_⟩
    · unfold atLoc; rw [ho]; exact hl'
    · obtain ⟨G1, h1, s1⟩ := way_ob r.path (h.rel _ _ ho) hl'
      subst e
      exact ⟨row, hr.keep (hst.own b (s1 b (ob_block h1))), rfl⟩

def upd {α : Type} (f : Nat → α) (k : Nat) (x : α) (q : Nat) : α := if q = k then x else f q

theorem upd_same {α : Type} (f : Nat → α) (k : Nat) (x : α) : upd f k x k = x := if_pos rfl
theorem upd_ne {α : Type} (f : Nat → α) {k q : Nat} (x : α) (h : q ≠ k) : upd f k x q = f q := if_neg h

theorem obs_lt (h : ObsA w E FA F β obs Gk) : ∀ b, F b → b < w.heap.size := by
  intro b hb
  rcases (h.cov b).1 hb with hE | ⟨k, o, hk, hkb⟩
  · exact h.elt b hE
  exact (h.rel k o hk).lt b hkb

theorem obs_add (h : ObsA w E FA F β obs Gk) {k : Nat} {ob : Ob} {loc : Option (Nat × Nat)} {G2 : Bs} (hk : get k obs = none) (hnew : ObR w' (fun b => F b ∨ G2 b) ob loc G2) (hdj : Dj G2 F)
    (hst : Stay w FA w' (fun b => F b ∨ G2 b) F) : ObsR w' E (fun b => F b ∨ G2 b) (upd β k loc) (put k ob obs) (upd Gk k G2) := by
  have old : ∀ q o', q ≠ k → get q (put k ob obs) = some o' → get q obs = some o' := fun q o' hq h => by rw [get_put_ne _ (Ne.symm hq)] at h; exact h
  have sub : ∀ q o', get q obs = some o' → ∀ b, Gk q b → F b := fun q o' hq b hb => (h.cov b).2 (.inr ⟨q, o', hq, hb⟩)
  refine ⟨fun q o' hq => ?_, fun q q' o1 o2 h1 h2 hne => ?_, fun b => ?_, fun q o' hq => ?_, fun b hb => Nat.lt_of_lt_of_le (h.elt b hb) hst.size⟩
  · by_cases e : q = k
    · subst e
      rw [get_put] at hq
      injection hq with hq; subst hq
      rw [upd_same, upd_same]
      exact hnew
    · rw [upd_ne _ _ e, upd_ne _ _ e]
      exact (h.rel q o' (old q o' e hq)).keep (hst.mono (sub q o' (old q o' e hq)))
  · by_cases e : q = k
    · subst e
      rw [upd_same, upd_ne _ _ (Ne.symm hne)]
      exact fun b hb hb' => hdj b hb (sub q' o2 (old q' o2 (Ne.symm hne) h2) b hb')
    · rw [upd_ne _ _ e]
      by_cases e' : q' = k
      · subst e'
        rw [upd_same]
        exact fun b hb hb' => hdj b hb' (sub q o1 (old q o1 e h1) b hb)
      · rw [upd_ne _ _ e']
        exact h.dj q q' o1 o2 (old q o1 e h1) (old q' o2 e' h2) hne
  · constructor
    · rintro (hb | hb)
      · rcases (h.cov b).1 hb with hE | ⟨q, o', hq, hqb⟩
        · exact .inl hE
        have e : q ≠ k := fun e => by rw [e, hk] at hq; cases hq
        exact .inr ⟨q, o', by rw [get_put_ne _ (Ne.symm e)]; exact hq, by rw [upd_ne _ _ e]; exact hqb⟩
      · exact .inr ⟨k, ob, get_put _ _ _, by rw [upd_same]; exact hb⟩
    · rintro (hE | ⟨q, o', hq, hqb⟩)
      · exact .inl ((h.cov b).2 (.inl hE))
      by_cases e : q = k
      · subst e
        rw [upd_same] at hqb
        exact .inr hqb
      · rw [upd_ne _ _ e] at hqb
        exact .inl (sub q o' (old q o' e hq) b hqb)
  · by_cases e : q = k
    · subst e
      rw [upd_same]
      exact fun b hb hE => hdj b hb ((h.cov b).2 (.inl hE))
    · rw [upd_ne _ _ e]
      exact h.out q o' (old q o' e hq)

/-- An operation that puts one new object behind what it took. -/
theorem good_new {P : Program} {o : Oper} {a : Act} {fresh k : Nat} {d : Delta} {v : V} {u : Value} {ob : Ob} {loc : Option (Nat × Nat)} {G2 : Bs} (hlt : ∀ b, F b → b < w.heap.size)
    (htook : Took w E β F F obs FA1 F1 G (applyD d obs) Gk) (hk : get k (applyD d obs) = none) (hkr : fresh ≤ k ∧ k < fresh + 4) (hrun : (execOp a.eval o).run P w = .ok (.value u) w') (hap : Apart w w')
    (hheap : ∀ c, c < w.heap.size → ¬ G c → w'.heap[c]? = w.heap[c]?) (hsize : w.heap.size ≤ w'.heap.size) (hnew : ObR w' (fun b => F1 b ∨ G2 b) ob loc G2) (hG2 : ∀ b, G2 b → G b ∨ w.heap.size ≤ b)
    (hv : VR w' (upd β k loc) (put k ob (applyD d obs)) (fun b => F1 b ∨ G2 b) v u) : Good P o a w E β obs F fresh v (d ++ [(k, some ob)]) [] := by
  have hF1 : ∀ b, F1 b → FA1 b := fun b hb => Classical.byContradiction fun hn => (htook.lost b (htook.less b hb) hn).2.1 hb
  have hGA : ∀ b, G b → FA1 b := fun b hb => Classical.byContradiction fun hn => (htook.lost b (htook.got b hb) hn).2.2 hb
  have hst : ∀ H : Bs, (∀ b, H b → F1 b) → Stay w FA1 w' (fun b => F1 b ∨ G2 b) H := fun H hH =>
    ⟨hsize, fun b hb => hheap b (hlt b (htook.less b (hH b hb))) fun hg => htook.dj b hg (hH b hb), fun b hb hs => hheap b hs fun hg => hb (hGA b hg), fun b hb => hb.elim (fun h => .inl (hF1 b h)) fun h => (hG2 b h).imp (hGA b) id⟩
  have hdj : Dj G2 F1 := by
    intro b hb h1
    rcases hG2 b hb with h | h
    · exact htook.dj b h h1
    · exact absurd (hlt b (htook.less b h1)) (Nat.not_lt.2 h)
  have hobs := obs_add htook.ob hk hnew hdj (hst F1 fun b hb => hb)
  intro next Q hnext
  unfold Oper.wp
  rw [hrun, Oper.upon_value]
  have e : applyD (d ++ [(k, some ob)]) obs = put k ob (applyD d obs) := by rw [applyD_append]; rfl
  refine hnext u w' (upd β k loc) _ (upd Gk k G2) (by rw [e]; exact hobs) (by rw [e]; exact hv) hap ?_ (fun b hE => hheap b (htook.ob.elt b hE) fun hg => htook.dj b hg ((htook.ob.cov b).2 (.inl hE))) fun r hr _ => ?_
  · refine ⟨hsize, fun b hb => hb.elim, fun b hb hs => hheap b hs fun hg => hb (htook.got b hg), fun b hb => ?_⟩
    rcases hb with h | h
    · exact .inl (htook.less b h)
    · exact (hG2 b h).imp (htook.got b) id
  · have hne : r.root ≠ k := fun e => hr (by unfold inR; rw [e]; exact hkr)
    rw [e]
    refine (htook.keep r).trans (RefKeep.of_stay htook.ob (upd_ne _ _ hne) (get_put_ne _ (Ne.symm hne) _) fun o ho => hst _ fun b hb => ?_)
    exact (htook.ob.cov b).2 (.inr ⟨r.root, o, ho, hb⟩)

theorem z0_leaf {w : World} {F : Bs} {v : V} {u : Value} (h : Z0 v u) : LfR w F v u (fun _ => False) := by
  cases v with
  | undef => exact fun _ h => h
  | int => exact ⟨h, fun _ h => h⟩
  | bool => exact ⟨h, fun _ h => h⟩
  | nilp => exact ⟨h, fun _ h => h⟩
  | nils => exact ⟨⟨none, h⟩, fun _ h => h⟩
  | _ => exact h.elim

theorem z0_ls {w : World} {F : Bs} {vs : List V} {us : List Value} (h : All2 Z0 vs us) : LsR w F vs us (fun _ => False) := by
  induction h with
  | nil => exact .nil fun _ h => h
  | cons h _ ih => exact .cons (G1 := fun _ => False) (G2 := fun _ => False) (z0_leaf h) ih (fun _ h => h.elim) (fun n => ⟨fun h => h.elim, fun h => h.elim id id⟩)

theorem alloc_apart (w : World) (ob : Obj) : Apart w (w.alloc ob) := ⟨rfl, rfl, rfl⟩

/-- What is asked of the numbers that new objects take. -/
def Free (obs : List (Nat × Ob)) (fresh : Nat) : Prop := ∀ j, fresh ≤ j → j < fresh + 4 → get j obs = none

theorem Free.behind {fresh : Nat} (h : Free obs fresh) {d : Delta} (hd : ∀ q ∈ keysOf d, get q obs ≠ none) {j : Nat} (h1 : fresh ≤ j) (h2 : j < fresh + 4) : get j (applyD d obs) = none := by
  have h0 := h j h1 h2
  rw [get_applyD d obs fun hq => hd j hq h0]
  exact h0

theorem Keys.snoc {fresh : Nat} {d : Delta} (hd : ∀ q ∈ keysOf d, get q obs ≠ none) (ob : Ob) : Keys obs fresh (d ++ [(fresh, some ob)]) [] := by
  refine ⟨fun q hq => ?_, fun _ h => (by cases h)⟩
  rw [keysOf_append] at hq
  rcases List.mem_append.1 hq with hq | hq
  · exact .inl (hd q hq)
  · simp [keysOf] at hq
    subst hq
    exact .inr ⟨Nat.le_refl _, by omega⟩

theorem Src.fresh {tm : List (Nat × V)} {fresh : Nat} {o : Oper} {rd : List Nat} {v : V} (h : ∀ r ∈ refsOf v, r = ⟨fresh, []⟩) : Src tm fresh o rd v := by
  intro r hr
  rw [h r hr]
  exact .inl ⟨⟨Nat.le_refl _, Nat.lt_add_of_pos_right (by decide)⟩, rfl⟩
end

section
variable {P : Program} {C : Ctx} {k : Nat} {tm : List (Nat × V)} {obs : List (Nat × Ob)} {fresh : Nat} {o : Oper} {a : Act} {w : World} {E : Bs} {β : Nat → Option (Nat × Nat)} {F : Bs} {Gk : Nat → Bs}

theorem hp_new {w' : World} {β' : Nat → Option (Nat × Nat)} {obs' : List (Nat × Ob)} {F' : Bs} {b fs : _} {t : Option Ty} (hg : get fresh obs' = some (.box t fs)) (hb : β' fresh = some (b, 0)) :
    VR w' β' obs' F' (.hp ⟨fresh, []⟩ 0 0) (.pointer (some ⟨b, 0, none⟩)) := by
  refine ⟨_, rfl, fun o1 loc hl => ?_⟩
  unfold atLoc at hl
  simp only [hg, hb, way] at hl
  injection hl with hl; injection hl with e1 e2; subst e1; subst e2
  exact ⟨b, 0, rfl, rfl⟩

theorem op_alloc {R : Type} {K : OpK R} {r : R} (hT : TisOk P C) (hf : FR C w E β tm obs a F Gk) (hfr : Free obs fresh) {e : TypeId} (ho : o.op = .alloc e) (h : opK C k tm obs fresh o K = some r) : OpOk P C k tm obs fresh o a w E β F := by
  unfold opK at h
  simp only [ho] at h
  split at h
  · rename_i i hi
    obtain ⟨z, inf, hinf, _, _, hz, hza, _⟩ := (hT e i hi).info
    refine ⟨.hp ⟨fresh, []⟩ 0 0, [] ++ [(fresh, some (.box (get e C.ety) i.zero))], [], [], fun tm' obs' ht _ R' K' => ?_, Src.fresh (fun r hr => by simpa [refsOf, refsOfA, refOf] using hr), Keys.snoc (fun q hq => by cases hq) _, ?_⟩
    · unfold opK; simp only [ho, hi]; rfl
    · have hrow := alloc_row w z.cells e
      refine good_new (obs_lt hf.ob.a) (Took.refl hf.ob.a) (hfr.behind (fun q hq => by cases hq) (Nat.le_refl _) (by omega)) ⟨Nat.le_refl _, by omega⟩ (w' := w.alloc (.cells z.cells e)) (u := .pointer (some ⟨w.heap.size, 0, none⟩)) (loc := some (w.heap.size, 0)) (G2 := fun b => b = w.heap.size) ?_ (alloc_apart w _) (fun c hc _ => alloc_old w _ hc) (by simp) ?_ (fun b hb => .inr (Nat.le_of_eq hb.symm)) ?_
      · simp [execOp, ho, Instr.alloc, zeroValue, typeInfo, hinf, hz, newVar, newRow]
      · exact ⟨w.heap.size, z.cells, fun _ => False, rfl, hrow, z0_ls hza, id, fun n => ⟨.inl, fun h => h.elim id False.elim⟩⟩
      · exact hp_new (get_put _ _ _) (upd_same _ _ _)
  · cases h
theorem rest_fields {R : Type} {v : V} {u : Value} {K : List V → Delta → Option R} {r : R} (hv : VR w β obs F v u) (h : restsK v.fields obs K = some r) : All2 (VRl w β obs F) v.fields u.cells.toList := by
  cases v with
  | agg fs =>
    obtain ⟨us, hu, hall⟩ := hv
    subst hu
    exact hall
  | undef => cases h
  | tup => cases h
  | fn => cases h
  | ow => cases h
  | bx => cases h
  | _ => exact fields_rel hv rfl

theorem op_box {R : Type} {K : OpK R} {r : R} (hf : FR C w E β tm obs a F Gk) (hfr : Free obs fresh) {e : TypeId} {x : Operand} (ho : o.op = .box e x) (h : opK C k tm obs fresh o K = some r) : OpOk P C k tm obs fresh o a w E β F := by
  have hx : x ∈ o.op.operands := by rw [ho]; simp [Op.operands]
  have rx := opnd_rel hf x
  unfold opK at h
  simp only [ho] at h
  have hall := rest_fields rx h
  obtain ⟨vs', d, FA1, F1, G, Gk1, _, hst, htook, hls, _, hex⟩ := restsK_sound _ hf.ob.a (fun _ h => h) hall h
  refine ⟨.hp ⟨fresh, []⟩ 0 0, d ++ [(fresh, some (.box (get e C.ety) vs'))], [], [], fun tm' obs' ht hd R' K' => ?_, Src.fresh (fun r hr => by simpa [refsOf, refsOfA, refOf] using hr), Keys.snoc hex _, ?_⟩
  · unfold opK; simp only [ho, ht x hx]
    exact hst R' _ obs' fun q hq => hd q (.inr (by rw [keysOf_append]; exact List.mem_append.2 (.inl hq)))
  · have hrow := alloc_row w (a.eval x).cells e
    have hlt := obs_lt hf.ob.a
    refine good_new hlt htook (hfr.behind hex (Nat.le_refl _) (by omega)) ⟨Nat.le_refl _, by omega⟩ (w' := w.alloc (.cells (a.eval x).cells e)) (u := .pointer (some ⟨w.heap.size, 0, none⟩)) (loc := some (w.heap.size, 0)) (G2 := fun b => b = w.heap.size ∨ G b) ?_ (alloc_apart w _) (fun c hc _ => alloc_old w _ hc) (by simp) ?_ (fun b hb => hb.elim (fun e => .inr (Nat.le_of_eq e.symm)) .inl) ?_
    · simp [execOp, ho, Instr.box, newVar, newRow]
    · refine ⟨w.heap.size, (a.eval x).cells, G, rfl, hrow, hls.keep ⟨by simp, fun b hb => alloc_old w _ (hls.lt b hb), fun b _ hb => alloc_old w _ hb, fun b hb => ?_⟩, fun hb => Nat.lt_irrefl _ (hls.lt _ hb), fun n => Iff.rfl⟩
      rcases hb with hb | hb | hb
      · exact .inl (Classical.byContradiction fun hn => (htook.lost b (htook.less b hb) hn).2.1 hb)
      · exact .inr (Nat.le_of_eq hb.symm)
      · exact .inl (Classical.byContradiction fun hn => (htook.lost b (htook.got b hb) hn).2.2 hb)
    · exact hp_new (get_put _ _ _) (upd_same _ _ _)

theorem elemOf_spec (hT : TisOk P C) {t e : TypeId} {bytes : Nat} {τ : Ty} {zero : List V} (h : elemOf C t = some (e, bytes, τ, zero)) :
    ∃ inf z, P.underlying t = some (.slice e) ∧ P.info? e = some inf ∧ inf.size = τ.size ∧ inf.bytes = bytes ∧ 0 < bytes ∧ inf.zero = some z ∧ All2 Z0 zero z.cells.toList ∧ zero.length = τ.size := by
  unfold elemOf at h
  have hk := kindOf_ok hT t
  split at h
  · rename_i e' he
    rw [he] at hk
    split at h
    · rename_i i τ' hi hτ
      cases hb : Nat.beq i.size τ'.size && Nat.blt 0 i.bytes with
      | false => rw [hb] at h; cases h
      | true =>
        rw [hb] at h
        injection h with h; injection h with e1 h; injection h with e2 h; injection h with e3 e4
        subst e1; subst e2; subst e3; subst e4
        rw [Bool.and_eq_true] at hb
        obtain ⟨z, inf, h1, h2, h3, h4, h5, h6⟩ := (hT _ i hi).info
        have hs := Nat.eq_of_beq_eq_true hb.1
        have hb2 : 0 < i.bytes := of_decide_eq_true (by simpa [Nat.blt_eq] using hb.2)
        exact ⟨inf, z, hk, h1, h2.trans hs, h3, hb2, h4, h5, h6.trans hs⟩
    · cases h
  · cases h

/-- An array of elements alike, of no footprint, at the head of a row. -/
theorem arr_same {w' : World} {F' : Bs} {τ : Ty} {z : τ.den} {b n : Nat} {row : Array Value} {cs : List Value} (hr : Row w' b row) (hs : n * τ.size ≤ row.size) (hz : LR w' F' τ z cs (fun _ => False))
    (hseg : ∀ i, i < n → seg row (i * τ.size) τ.size = cs) : ArrAt w' τ.size (LR w' F' τ) (List.replicate n z) (some (b, 0)) (fun c => c = b) := by
  refine ⟨row, fun _ _ => False, hr, by rw [List.length_replicate]; omega, fun i x hi => ?_, fun _ _ _ h => h, fun _ _ _ _ h => h.elim, fun _ h => h, fun c => ⟨.inl, fun h => h.elim id fun ⟨_, h⟩ => h.elim⟩⟩
  have hi' := List.getElem?_eq_some_iff.1 hi
  obtain ⟨hlt, he⟩ := hi'
  rw [List.length_replicate] at hlt
  rw [List.getElem_replicate] at he
  subst he
  rw [Nat.zero_add, hseg i hlt]
  exact hz

theorem madeCells_seg {z : Array Value} {n i s : Nat} (hz : z.size = s) (h : (i + 1) * s ≤ n) : seg (madeCells z n) (i * s) s = z.toList := by
  apply List.ext_getElem?
  intro q
  rw [seg_get]
  by_cases hq : q < s
  · rw [if_pos hq]
    have h1 : i * s + q < n := by rw [Nat.add_mul, Nat.one_mul] at h; omega
    have h2 : (i * s + q) % s = q := by rw [Nat.mul_comm, Nat.mul_add_mod, Nat.mod_eq_of_lt hq]
    simp only [madeCells, Array.getElem?_toList, Array.getElem?_map, Array.getElem?_range, h1, if_true, Option.map_some, hz, h2]
    rw [Array.getElem?_eq_getElem (by omega), getElem!_pos z q (by omega)]
  · rw [if_neg hq, List.getElem?_eq_none]
    rw [Array.length_toList]; omega

theorem hs_new {w' : World} {β' : Nat → Option (Nat × Nat)} {obs' : List (Nat × Ob)} {F' : Bs} {b n cap off : Nat} {row : Array Value} {τ : Ty} {l : List τ.den} (hg : get fresh obs' = some (.arr τ l)) (hb : β' fresh = some (b, off)) (hr : Row w' b row) (hn : n = l.length) (hc : n ≤ cap) (hs : off + cap * τ.size ≤ row.size) :
    VR w' β' obs' F' (.hs ⟨fresh, []⟩ 0 n true) (.slice (some ⟨b, off, none⟩) n cap) := by
  refine ⟨_, _, rfl, fun o1 loc hl => ?_⟩
  unfold atLoc at hl
  simp only [hg, hb, way] at hl
  injection hl with hl; injection hl with e1 e2; subst e1; subst e2
  exact ⟨τ, l, rfl, ⟨_, _, rfl, .inr ⟨b, off, row, rfl, hr, by simp, hc, by simpa using hs⟩⟩, by omega, fun _ => ⟨rfl, hn⟩⟩

theorem op_makeSlice {R : Type} {K : OpK R} {r : R} (hT : TisOk P C) (hf : FR C w E β tm obs a F Gk) (hfr : Free obs fresh) {t : TypeId} {x y : Operand} (ho : o.op = .makeSlice t x y) (h : opK C k tm obs fresh o K = some r) : OpOk P C k tm obs fresh o a w E β F := by
  have hx : x ∈ o.op.operands := by rw [ho]; simp [Op.operands]
  have hy : y ∈ o.op.operands := by rw [ho]; simp [Op.operands]
  have rx := opnd_rel hf x
  have ry := opnd_rel hf y
  unfold opK at h
  simp only [ho] at h
  split at h
  · rename_i e bytes τ zero kl l kc c he hbx hby
    rw [hbx] at rx; rw [hby] at ry
    have ex := int_of_VR rx
    have ey := int_of_VR ry
    obtain ⟨inf, z, hu, hi, hsz, hby2, hb0, hz, hza, hzl⟩ := elemOf_spec hT he
    split at h
    · rename_i z0 hz0
      split at h
      · rename_i hc
        have hb1 : c ≤ 140737488355328 := by
          have : c * 1 ≤ c * (bytes : Int) := Int.mul_le_mul_of_nonneg_left (by omega) (by omega)
          omega
        have hrun := run_make (P := P) w t e inf z hu hi hz kl kc l c hc.1 hc.2.1 (by rw [hby2, Int.mul_comm]; omega) (by omega)
        refine ⟨.hs ⟨fresh, []⟩ 0 l.toNat true, [] ++ [(fresh, some (.arr τ (List.replicate l.toNat z0)))], [], [], fun tm' obs' ht _ R' K' => ?_, Src.fresh (fun r hr => by simpa [refsOf, refsOfA, refOf] using hr), Keys.snoc (fun q hq => by cases hq) _, ?_⟩
        · unfold opK; simp only [ho, ht x hx, ht y hy, he, hbx, hby, hz0, hc, and_self, if_true]; rfl
        · have hrow := alloc_row w (madeCells z.cells (c.toNat * inf.size)) e
          have hlc : l.toNat ≤ c.toNat := by omega
          have hrs : (madeCells z.cells (c.toNat * inf.size)).size = c.toNat * τ.size := by rw [size_madeCells, hsz]
          have hzs : z.cells.size = τ.size := by have := hza.length; rw [Array.length_toList] at this; omega
          refine good_new (obs_lt hf.ob.a) (Took.refl hf.ob.a) (hfr.behind (fun q hq => by cases hq) (Nat.le_refl _) (by omega)) ⟨Nat.le_refl _, by omega⟩ (loc := some (w.heap.size, 0)) (G2 := fun b => b = w.heap.size) ?_ (alloc_apart w _) (fun c hc _ => alloc_old w _ hc) (by simp) ?_ (fun b hb => .inr (Nat.le_of_eq hb.symm)) ?_
            (w' := w.alloc (.cells (madeCells z.cells (c.toNat * inf.size)) e)) (u := .slice (some ⟨w.heap.size, 0, none⟩) l.toNat c.toNat)
          · simp [execOp, ho, ex, ey, hrun]
          · obtain ⟨G1, hs1, H⟩ := ofAll_sound hz0 (z0_ls (w := w.alloc (.cells (madeCells z.cells (c.toNat * inf.size)) e)) (F := fun b => F b ∨ b = w.heap.size) hza)
            have hlr := LR.iff τ z0 _ G1 (fun _ => False) (H _ (fun _ h => h) (fun _ h => h.elim)) (fun n => ⟨fun h => h.elim, hs1 n⟩)
            refine arr_same hrow ?_ hlr fun i hi => ?_
            · rw [hrs]; exact Nat.mul_le_mul_right _ hlc
            · refine madeCells_seg hzs ?_
              rw [hsz]; exact Nat.mul_le_mul_right _ (by omega)
          · exact hs_new (get_put _ _ _) (upd_same _ _ _) hrow (by simp) hlc (by rw [hrs]; omega)
      · cases h
    · cases h
  · cases h
end
end Go.Lf

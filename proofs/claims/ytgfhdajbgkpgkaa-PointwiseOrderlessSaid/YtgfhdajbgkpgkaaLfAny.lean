import Derived.Test.YtgfhdajbgkpgkaaLfRun
set_option linter.unusedVariables false
/-! Lf: operations in any order: what is written down of each. -/
namespace Go.Lf

/-- What an operation came to. -/
structure Rec where
  dst : Option Nat
  v : V
  d : Delta
  rd : List Nat
  iv : List (Ref × Bool)

def appF : Delta → Nat → Option Ob → Option Ob
  | [], _, o => o
  | (k, x) :: d, q, o => appF d q (if k = q then x else o)

theorem get_appF : ∀ (d : Delta) (obs : List (Nat × Ob)) (q : Nat), get q (applyD d obs) = appF d q (get q obs)
  | [], _, _ => rfl
  | (k, some o) :: d, obs, q => by
    show get q (applyD d (put k o obs)) = _
    rw [get_appF d]
    show _ = appF d q (if k = q then some o else get q obs)
    by_cases e : k = q
    · subst e; rw [get_put, if_pos rfl]
    · rw [get_put_ne _ e, if_neg e]
  | (k, none) :: d, obs, q => by
    show get q (applyD d (del k obs)) = _
    rw [get_appF d]
    show _ = appF d q (if k = q then none else get q obs)
    by_cases e : k = q
    · subst e; rw [get_del, if_pos rfl]
    · rw [get_del_ne e, if_neg e]

theorem appF_out {q : Nat} : ∀ {d : Delta} (o : Option Ob), q ∉ keysOf d → appF d q o = o
  | [], _, _ => rfl
  | (k, x) :: d, o, h => by
    have h1 : k ≠ q := fun e => h (by simp [keysOf, e])
    have h2 : q ∉ keysOf d := fun e => h (by simp [keysOf, e])
    unfold appF
    rw [if_neg h1, appF_out o h2]

def stepT (x : Rec) (T : Nat → Option V) (t : Nat) : Option V := if x.dst = some t then some x.v else (T t).map (dropV x.iv)
def stepO (x : Rec) (O : Nat → Option Ob) (q : Nat) : Option Ob := appF x.d q (O q)

def foldT (rc : Nat → Rec) (l : List Nat) (T : Nat → Option V) : Nat → Option V := l.foldl (fun T j => stepT (rc j) T) T
def foldO (rc : Nat → Rec) (l : List Nat) (O : Nat → Option Ob) : Nat → Option Ob := l.foldl (fun O j => stepO (rc j) O) O

theorem dropV_undef (iv : List (Ref × Bool)) : dropV iv .undef = .undef := by
  unfold dropV; cases leadsV iv .undef <;> rfl

theorem dropV_comm (iv iv' : List (Ref × Bool)) (v : V) : dropV iv (dropV iv' v) = dropV iv' (dropV iv v) := by
  unfold dropV
  cases h : leadsV iv v <;> cases h' : leadsV iv' v <;> simp [h, h'] <;> (try cases leadsV _ V.undef <;> rfl)

theorem dropV_keep {iv : List (Ref × Bool)} {v : V} (h : leadsV iv v = false) : dropV iv v = v := by unfold dropV; rw [h]; rfl

/-- Operations that may change places. -/
structure Indep (x y : Rec) : Prop where
  dst : ∀ d, x.dst = some d → y.dst ≠ some d
  keys : ∀ q ∈ keysOf x.d, q ∉ keysOf y.d
  xv : leadsV y.iv x.v = false
  yv : leadsV x.iv y.v = false

theorem stepT_comm {x y : Rec} (h : Indep x y) (T : Nat → Option V) : stepT x (stepT y T) = stepT y (stepT x T) := by
  funext t
  unfold stepT
  by_cases hx : x.dst = some t <;> by_cases hy : y.dst = some t
  · exact absurd hy (h.dst t hx)
  · rw [if_pos hx, if_neg hy, if_pos hx]; simp [dropV_keep h.xv]
  · rw [if_neg hx, if_pos hy, if_pos hy]; simp [dropV_keep h.yv]
  · rw [if_neg hx, if_neg hy, if_neg hy, if_neg hx]
    cases T t with
    | none => rfl
    | some v => simp [dropV_comm]

theorem stepO_comm {x y : Rec} (h : Indep x y) (O : Nat → Option Ob) : stepO x (stepO y O) = stepO y (stepO x O) := by
  funext q
  unfold stepO
  by_cases hx : q ∈ keysOf x.d
  · rw [appF_out (O q) (h.keys q hx), appF_out _ (h.keys q hx)]
  · rw [appF_out _ hx, appF_out (O q) hx]

theorem foldT_comm {rc : Nat → Rec} {i : Nat} : ∀ {B : List Nat} (T : Nat → Option V), (∀ j ∈ B, Indep (rc i) (rc j)) → foldT rc B (stepT (rc i) T) = stepT (rc i) (foldT rc B T)
  | [], _, _ => rfl
  | j :: B, T, h => by
    show foldT rc B (stepT (rc j) (stepT (rc i) T)) = stepT (rc i) (foldT rc B (stepT (rc j) T))
    rw [← stepT_comm (h j (by simp))]
    exact foldT_comm _ fun x hx => h x (by simp [hx])

theorem foldO_comm {rc : Nat → Rec} {i : Nat} : ∀ {B : List Nat} (O : Nat → Option Ob), (∀ j ∈ B, Indep (rc i) (rc j)) → foldO rc B (stepO (rc i) O) = stepO (rc i) (foldO rc B O)
  | [], _, _ => rfl
  | j :: B, O, h => by
    show foldO rc B (stepO (rc j) (stepO (rc i) O)) = stepO (rc i) (foldO rc B (stepO (rc j) O))
    rw [← stepO_comm (h j (by simp))]
    exact foldO_comm _ fun x hx => h x (by simp [hx])

theorem foldT_append (rc : Nat → Rec) (A B : List Nat) (T : Nat → Option V) : foldT rc (A ++ B) T = foldT rc B (foldT rc A T) := List.foldl_append
theorem foldO_append (rc : Nat → Rec) (A B : List Nat) (O : Nat → Option Ob) : foldO rc (A ++ B) O = foldO rc B (foldO rc A O) := List.foldl_append

/-- The same, or forgotten. -/
def Less (x y : Option V) : Prop := x = y ∨ x = some .undef

theorem less_map {x y : Option V} (h : Less x y) (iv : List (Ref × Bool)) : Less (x.map (dropV iv)) (y.map (dropV iv)) := by
  rcases h with h | h
  · exact .inl (by rw [h])
  · exact .inr (by rw [h]; simp [dropV_undef])

theorem less_drop {x y : Option V} (h : Less x y) (iv : List (Ref × Bool)) : Less (x.map (dropV iv)) y := by
  rcases h with h | h
  · subst h
    cases x with
    | none => exact .inl rfl
    | some v =>
      unfold dropV
      cases hl : leadsV iv v with
      | true => exact .inr (by simp [hl])
      | false => exact .inl (by simp [hl])
  · exact .inr (by rw [h]; simp [dropV_undef])

theorem foldT_sub {rc : Nat → Rec} {p : Nat → Bool} {t : Nat} : ∀ (L : List Nat) {T T' : Nat → Option V}, (∀ j ∈ L, p j = false → (rc j).dst ≠ some t) → Less (T t) (T' t) → Less (foldT rc L T t) (foldT rc (L.filter p) T' t)
  | [], _, _, _, h => h
  | j :: L, T, T', hd, h => by
    show Less (foldT rc L (stepT (rc j) T) t) _
    cases hp : p j with
    | true =>
      rw [List.filter_cons_of_pos hp]
      refine foldT_sub L (T := stepT (rc j) T) (T' := stepT (rc j) T') (fun x hx => hd x (by simp [hx])) ?_
      unfold stepT
      by_cases e : (rc j).dst = some t
      · rw [if_pos e, if_pos e]; exact .inl rfl
      · rw [if_neg e, if_neg e]; exact less_map h _
    | false =>
      rw [List.filter_cons_of_neg (by simp [hp])]
      refine foldT_sub L (T := stepT (rc j) T) (T' := T') (fun x hx => hd x (by simp [hx])) ?_
      unfold stepT
      rw [if_neg (hd j (by simp) hp)]
      exact less_drop h _

theorem foldO_sub {rc : Nat → Rec} {p : Nat → Bool} {q : Nat} : ∀ (L : List Nat) {O O' : Nat → Option Ob}, (∀ j ∈ L, p j = false → q ∉ keysOf (rc j).d) → O q = O' q → foldO rc L O q = foldO rc (L.filter p) O' q
  | [], _, _, _, h => h
  | j :: L, O, O', hd, h => by
    show foldO rc L (stepO (rc j) O) q = _
    cases hp : p j with
    | true =>
      rw [List.filter_cons_of_pos hp]
      refine foldO_sub L (O := stepO (rc j) O) (O' := stepO (rc j) O') (fun x hx => hd x (by simp [hx])) ?_
      unfold stepO
      rw [h]
    | false =>
      rw [List.filter_cons_of_neg (by simp [hp])]
      refine foldO_sub L (O := stepO (rc j) O) (O' := O') (fun x hx => hd x (by simp [hx])) ?_
      unfold stepO
      rw [appF_out _ (hd j (by simp) hp), h]

theorem foldT_up {rc : Nat → Rec} {t : Nat} {v : V} : ∀ (B : List Nat) {T : Nat → Option V}, (∀ j ∈ B, (rc j).dst ≠ some t ∧ leadsV (rc j).iv v = false) → T t = some v → foldT rc B T t = some v
  | [], _, _, h => h
  | j :: B, T, hb, h => by
    refine foldT_up B (T := stepT (rc j) T) (fun x hx => hb x (by simp [hx])) ?_
    unfold stepT
    rw [if_neg (hb j (by simp)).1, h]
    simp [dropV_keep (hb j (by simp)).2]

theorem foldO_up {rc : Nat → Rec} {q : Nat} : ∀ (B : List Nat) {O : Nat → Option Ob}, (∀ j ∈ B, q ∉ keysOf (rc j).d) → foldO rc B O q = O q
  | [], _, _ => rfl
  | j :: B, O, hb => by
    show foldO rc B (stepO (rc j) O) q = _
    rw [foldO_up B fun x hx => hb x (by simp [hx])]
    exact appF_out _ (hb j (by simp))

/-- Where a value comes from. -/
theorem foldT_from {rc : Nat → Rec} {t : Nat} : ∀ (L : List Nat) {T : Nat → Option V} {v : V}, foldT rc L T t = some v → ∀ r ∈ refsOf v, (∃ v', T t = some v' ∧ r ∈ refsOf v') ∨ ∃ j ∈ L, (rc j).dst = some t ∧ r ∈ refsOf (rc j).v
  | [], _, v, h, r, hr => .inl ⟨v, h, hr⟩
  | j :: L, T, v, h, r, hr => by
    rcases foldT_from L (T := stepT (rc j) T) h r hr with ⟨v', h', hr'⟩ | ⟨x, hx, h'⟩
    · unfold stepT at h'
      by_cases e : (rc j).dst = some t
      · rw [if_pos e] at h'
        injection h' with h'; subst h'
        exact .inr ⟨j, by simp, e, hr'⟩
      · rw [if_neg e] at h'
        cases hT : T t with
        | none => rw [hT] at h'; cases h'
        | some y =>
          rw [hT] at h'
          injection h' with h'; subst h'
          refine .inl ⟨y, rfl, ?_⟩
          unfold dropV at hr'
          cases hl : leadsV (rc j).iv y with
          | true => rw [hl] at hr'; cases hr'
          | false => rw [hl] at hr'; exact hr'
    · exact .inr ⟨x, by simp [hx], h'⟩

theorem foldO_from {rc : Nat → Rec} {q : Nat} : ∀ (L : List Nat) {O : Nat → Option Ob}, foldO rc L O q ≠ none → O q ≠ none ∨ ∃ j ∈ L, q ∈ keysOf (rc j).d
  | [], _, h => .inl h
  | j :: L, O, h => by
    rcases foldO_from L (O := stepO (rc j) O) h with h' | ⟨x, hx, h'⟩
    · by_cases e : q ∈ keysOf (rc j).d
      · exact .inr ⟨j, by simp, e⟩
      · unfold stepO at h'
        rw [appF_out _ e] at h'
        exact .inl h'
    · exact .inr ⟨x, by simp [hx], h'⟩

theorem foldT_congr {rc rc' : Nat → Rec} : ∀ (L : List Nat) (T : Nat → Option V), (∀ j ∈ L, rc j = rc' j) → foldT rc L T = foldT rc' L T
  | [], _, _ => rfl
  | j :: L, T, h => by
    show foldT rc L (stepT (rc j) T) = foldT rc' L (stepT (rc' j) T)
    rw [h j (by simp)]
    exact foldT_congr L _ fun x hx => h x (by simp [hx])

theorem foldO_congr {rc rc' : Nat → Rec} : ∀ (L : List Nat) (O : Nat → Option Ob), (∀ j ∈ L, rc j = rc' j) → foldO rc L O = foldO rc' L O
  | [], _, _ => rfl
  | j :: L, O, h => by
    show foldO rc L (stepO (rc j) O) = foldO rc' L (stepO (rc' j) O)
    rw [h j (by simp)]
    exact foldO_congr L _ fun x hx => h x (by simp [hx])

/-! ### The masks -/
theorem maskOf_spec {acc : List Nat} {j : Nat} : ∀ {l : List Edge}, (maskOf acc l).testBit j = true → ∃ e ∈ l, Region.binds .any e = true ∧ (j = e.on ∨ (acc.getD e.on 0).testBit j = true)
  | [], h => by simp [maskOf] at h
  | e :: l, h => by
    unfold maskOf at h
    cases hb : Region.binds .any e with
    | true =>
      rw [hb] at h
      simp only [cond, Nat.testBit_or, Bool.or_eq_true] at h
      rcases h with (h | h) | h
      · rw [Nat.testBit_two_pow] at h
        exact ⟨e, by simp, hb, .inl (by simpa using (of_decide_eq_true h).symm)⟩
      · exact ⟨e, by simp, hb, .inr h⟩
      · obtain ⟨e', he, h'⟩ := maskOf_spec h
        exact ⟨e', by simp [he], h'⟩
    | false =>
      rw [hb] at h
      obtain ⟨e', he, h'⟩ := maskOf_spec h
      exact ⟨e', by simp [he], h'⟩

theorem masksGo_spec : ∀ (l : List Oper) (acc : List Nat), (∀ i, i < acc.length → (masksGo acc l).getD i 0 = acc.getD i 0) ∧
    ∀ i o, l[i]? = some o → ∀ j, ((masksGo acc l).getD (acc.length + i) 0).testBit j = true → ∃ e ∈ o.after.toList, Region.binds .any e = true ∧ (j = e.on ∨ (e.on < acc.length + i ∧ ((masksGo acc l).getD e.on 0).testBit j = true))
  | [], acc => ⟨fun i _ => rfl, fun i o h => by simp at h⟩
  | o :: l, acc => by
    obtain ⟨h1, h2⟩ := masksGo_spec l (acc ++ [maskOf acc o.after.toList])
    have hk : ∀ i, i < acc.length → (masksGo acc (o :: l)).getD i 0 = acc.getD i 0 := fun i hi => by
      show (masksGo (acc ++ [maskOf acc o.after.toList]) l).getD i 0 = _
      rw [h1 i (by rw [List.length_append]; exact Nat.lt_add_right _ hi)]
      simp [List.getElem?_append_left hi]
    refine ⟨hk, fun i o' ho j hj => ?_⟩
    cases i with
    | zero =>
      simp at ho
      subst ho
      have e : (masksGo acc (o :: l)).getD (acc.length + 0) 0 = maskOf acc o.after.toList := by
        show (masksGo (acc ++ [maskOf acc o.after.toList]) l).getD acc.length 0 = _
        rw [h1 acc.length (by simp)]
        simp
      rw [e] at hj
      obtain ⟨e, he, hb, h⟩ := maskOf_spec hj
      refine ⟨e, he, hb, h.imp id fun h => ?_⟩
      have hlt : e.on < acc.length := by
        refine Classical.byContradiction fun hn => ?_
        rw [List.getD_eq_getElem?_getD, List.getElem?_eq_none (Nat.not_lt.1 hn)] at h
        simp at h
      exact ⟨hlt, by rw [hk _ hlt]; exact h⟩
    | succ i =>
      have := h2 i o' (by simpa using ho) j (by rw [List.length_append, List.length_singleton, Nat.add_assoc, Nat.add_comm 1 i]; exact hj)
      obtain ⟨e, he, hb, h⟩ := this
      refine ⟨e, he, hb, h.imp id fun ⟨h3, h4⟩ => ⟨by rw [List.length_append, List.length_singleton] at h3; omega, h4⟩⟩

theorem masks_spec {ops : Array Oper} {i : Nat} {o : Oper} (ho : ops[i]? = some o) {j : Nat} (h : ((masksOf ops).getD i 0).testBit j = true) :
    ∃ e ∈ o.after, Region.binds .any e = true ∧ (j = e.on ∨ (e.on < i ∧ ((masksOf ops).getD e.on 0).testBit j = true)) := by
  obtain ⟨e, he, h'⟩ := (masksGo_spec ops.toList []).2 i o (by simpa using ho) j (by simpa [masksOf] using h)
  exact ⟨e, by simpa using he, by simpa [masksOf] using h'⟩

/-- What is listed goes with what it waits for. -/
def Closed (ops : Array Oper) (listed : Array Bool) : Prop := ∀ j oj, ops[j]? = some oj → listed.getD j false = true → ∀ e ∈ oj.after, Region.binds .any e = true → listed.getD e.on false = true

theorem mask_closed {ops : Array Oper} {listed : Array Bool} (hs : listed.size = ops.size) (hc : Closed ops listed) : ∀ i, listed.getD i false = true → ∀ j, ((masksOf ops).getD i 0).testBit j = true → listed.getD j false = true := by
  intro i
  induction i using Nat.strongRecOn with
  | _ i ih =>
    intro hl j hj
    have hlt : i < ops.size := by
      rw [← hs]
      refine Classical.byContradiction fun hn => ?_
      rw [Array.getD_eq_getD_getElem?, Array.getElem?_eq_none (Nat.not_lt.1 hn)] at hl
      cases hl
    obtain ⟨e, he, hb, h⟩ := masks_spec (Array.getElem?_eq_getElem hlt) hj
    have hle := hc i _ (Array.getElem?_eq_getElem hlt) hl e he hb
    rcases h with h | ⟨h1, h2⟩
    · rw [h]; exact hle
    · exact ih e.on h1 hle j h2

theorem mask_ready {ops : Array Oper} {listed : Array Bool} (hs : listed.size = ops.size) (hc : Closed ops listed) {i : Nat} (hi : i ∈ Region.ready .any ops listed) : ∀ j, ((masksOf ops).getD i 0).testBit j = true → listed.getD j false = true := by
  intro j hj
  obtain ⟨_, o, ho, hall⟩ := mem_ready.1 hi
  obtain ⟨e, he, hb, h⟩ := masks_spec ho hj
  have hle := hall e he hb
  rcases h with h | ⟨h1, h2⟩
  · rw [h]; exact hle
  · exact mask_closed hs hc e.on hle j h2

theorem backEs_spec {i : Nat} : ∀ {l : List Edge}, backEs i l = true → ∀ e ∈ l, Region.binds .any e = true → e.on < i
  | [], _, e, he => by cases he
  | x :: l, h, e, he => by
    have h' : ((!Region.binds .any x || Nat.blt x.on i) && backEs i l) = true := h
    rw [Bool.and_eq_true] at h'
    rcases List.mem_cons.1 he with rfl | he
    · intro hb
      rw [hb] at h'
      simpa [Nat.blt_eq] using h'.1
    · exact backEs_spec h'.2 e he

theorem backOk_spec : ∀ {l : List Oper} {i : Nat}, backOk i l = true → ∀ p o, l[p]? = some o → ∀ e ∈ o.after, Region.binds .any e = true → e.on < i + p
  | [], _, _, p, o, ho => by simp at ho
  | x :: l, i, h, p, o, ho => by
    have h' : (backEs i x.after.toList && backOk (i + 1) l) = true := h
    rw [Bool.and_eq_true] at h'
    cases p with
    | zero =>
      simp at ho
      subst ho
      exact fun e he hb => backEs_spec h'.1 e (by simpa using he) hb
    | succ p =>
      intro e he hb
      have := backOk_spec h'.2 p o (by simpa using ho) e he hb
      omega

theorem slotsOk_spec {ops : Array Oper} (h : slotsOk ops (masksOf ops) = true) :
    (∀ i o, ops[i]? = some o → ∀ e ∈ o.after, Region.binds .any e = true → e.on < i) ∧
    ∀ i j oi oj, i < j → ops[i]? = some oi → ops[j]? = some oj → ((masksOf ops).getD j 0).testBit i = false → oi.apart ops oj = true := by
  unfold slotsOk at h
  rw [Bool.and_eq_true] at h
  refine ⟨fun i o ho e he hb => ?_, fun i j oi oj hij hi hj hm => ?_⟩
  · have := backOk_spec h.1 i o (by simpa using ho) e he hb
    omega
  · have hjl : j < ops.size := (Array.getElem?_eq_some_iff.1 hj).1
    have h2 := List.all_eq_true.1 h.2 j (List.mem_range.2 hjl)
    have h3 := List.all_eq_true.1 h2 i (List.mem_range.2 hij)
    rw [hm, hi, hj] at h3
    simpa using h3
end Go.Lf

import Derived.Test.YtmndobcnlakglaaLfP17d
/-! Lf: the order is sorted. -/
set_option linter.unusedVariables false
set_option maxRecDepth 100000
namespace Go.Lf.T
open Go Go.Lf

/-- Every node was the least one that was ready. -/
def Led (ss : List Stg) (out : List Int) : Prop := ∀ t, t < out.length → ∃ q, out[t]? = some ((1 + q : Nat) : Int) ∧ pk 1 (out.take t) ss 0 = some q

theorem Led.snoc {ss : List Stg} {out : List Int} {q : Nat} (h : Led ss out) (hq : pk 1 out ss 0 = some q) : Led ss (out ++ [((1 + q : Nat) : Int)]) := by
  intro t ht
  rw [List.length_append, List.length_singleton] at ht
  by_cases e : t = out.length
  · subst e
    exact ⟨q, by rw [List.getElem?_append_right (Nat.le_refl _), Nat.sub_self]; rfl, by rw [List.take_left']; exact hq; rfl⟩
  · obtain ⟨q', h1, h2⟩ := h t (by omega)
    exact ⟨q', by rw [List.getElem?_append_left (by omega)]; exact h1, by rw [List.take_append_of_le_length (by omega)]; exact h2⟩

theorem go_led {ss : List Stg} : ∀ (f : Nat) (out l : List Int), Led ss out → go 1 ss f out = some l → Led ss l
  | 0, out, l, hi, h => by injection h with h; subst h; exact hi
  | f + 1, out, l, hi, h => by
    have h' : (match pk 1 out ss 0 with | some q => go 1 ss f (out ++ [((1 + q : Nat) : Int)]) | none => none) = some l := h
    cases hq : pk 1 out ss 0 with
    | none => rw [hq] at h'; cases h'
    | some q =>
      rw [hq] at h'
      exact go_led f _ l (hi.snoc hq) h'

/-! ### Where a node stands -/
def pos (o : List Int) (x : Int) : Int := if x ∈ o then ((o.idxOf x + 1 : Nat) : Int) else 0

def atL (n : Nat) (o : List Int) : List Int := (List.range (n + 1)).map fun (j : Nat) => pos o (j : Int)

theorem atL_len (n : Nat) (o : List Int) : (atL n o).length = n + 1 := by simp [atL]

theorem atL_get {n : Nat} {o : List Int} {j : Nat} (h : j < n + 1) : (atL n o)[j]? = some (pos o j) := by
  unfold atL
  rw [List.getElem?_map, List.getElem?_range h]; rfl

theorem atL_nil (n : Nat) : List.replicate (n + 1) (0 : Int) = atL n [] := by
  apply List.ext_getElem?
  intro j
  by_cases hj : j < n + 1
  · rw [atL_get hj, List.getElem?_replicate, if_pos hj]; rfl
  · rw [List.getElem?_eq_none (by simp; omega), List.getElem?_eq_none (by rw [atL_len]; omega)]

theorem pos_snoc_self {o : List Int} {x : Int} (h : x ∉ o) : pos (o ++ [x]) x = ((o.length + 1 : Nat) : Int) := by
  unfold pos
  rw [if_pos (by simp), List.idxOf_append, if_neg h]
  simp

theorem pos_snoc_ne {o : List Int} {x y : Int} (h : y ≠ x) : pos (o ++ [x]) y = pos o y := by
  unfold pos
  by_cases hy : y ∈ o
  · rw [if_pos (by simp [hy]), if_pos hy, List.idxOf_append, if_pos hy]
  · rw [if_neg (by simp [hy, h]), if_neg hy]

theorem atL_set {n i : Nat} {o : List Int} (h : i < n + 1) (ho : (i : Int) ∉ o) : (atL n o).set i ((o.length + 1 : Nat) : Int) = atL n (o ++ [(i : Int)]) := by
  apply List.ext_getElem?
  intro j
  by_cases hj : j < n + 1
  · rw [atL_get hj, List.getElem?_set, atL_len]
    by_cases e : i = j
    · subst e; rw [if_pos rfl, if_pos hj, pos_snoc_self ho]
    · rw [if_neg e, atL_get hj, pos_snoc_ne (by omega)]
  · rw [List.getElem?_eq_none (by rw [List.length_set, atL_len]; omega), List.getElem?_eq_none (by rw [atL_len]; omega)]

theorem at_loop {R : Type} (k : Nat) (pl : List Pln) (ss : List Stg) (os : List Int) (pr : Int) (o : List Int) (e0 : Bool → Option R) (e1 : List Pln → List Stg → List Int → Int → List Int → List Int → Option R) (hi : Inv ss.length o) (hlen : o.length ≤ 1000) (hs : ss.length ≤ 1000) : ∀ (m i j : Nat), o.length - i = m → i ≤ o.length → m < j →
    F71.loop0 k j i pl ss os pr o (atL ss.length (o.take i)) e0 e1 = e1 pl ss os pr o (atL ss.length o) := by
  intro m
  induction m with
  | zero =>
    intro i j hm hil hj
    obtain ⟨j, rfl⟩ : ∃ j', j = j' + 1 := ⟨j - 1, by omega⟩
    rw [F71.loop0_s, decide_eq_false (by omega), cond_false, show i = o.length by omega, List.take_length]
  | succ m ih =>
    intro i j hm hil hj
    obtain ⟨j, rfl⟩ : ∃ j', j = j' + 1 := ⟨j - 1, by omega⟩
    have hlt : i < o.length := by omega
    obtain ⟨b1, b2⟩ := hi.rg _ (List.getElem_mem hlt)
    obtain ⟨x, hx⟩ : ∃ x : Nat, (x : Int) = o[i] := ⟨o[i].toNat, by omega⟩
    have htk : o.take (i + 1) = o.take i ++ [(x : Int)] := by rw [hx, List.take_append_getElem]
    have hno : (x : Int) ∉ o.take i := by
      have hnd := hi.nd.sublist (List.take_sublist (i + 1) o)
      rw [htk] at hnd
      obtain ⟨_, _, h3⟩ := List.nodup_append.1 hnd
      exact fun hm => h3 _ hm _ (List.mem_singleton.2 rfl) rfl
    have hlen2 : (o.take i).length = i := by rw [List.length_take]; omega
    have hp : pos (o.take i) (x : Int) = 0 := if_neg hno
    rw [F71.loop0_s, decide_eq_true (by omega), cond_true, if_pos (by omega), Int.toNat_natCast, List.getElem?_eq_getElem hlt, Option.bind_some, ← hx, decide_eq_false (by omega), cond_false, if_pos (by omega), Option.bind_some, decide_eq_false (by omega), cond_false, if_pos (by omega), Option.bind_some, if_pos (by rw [atL_len]; omega), Int.toNat_natCast, atL_get (by omega), Option.bind_some, hp]
    rw [show ((0 : Int) != 0) = false from rfl, cond_false, if_pos (by omega), Option.bind_some, if_pos (by rw [atL_len]; omega), Int.toNat_natCast, atL_get (by omega), Option.bind_some, w64_succ i (by omega)]
    have hset := atL_set (n := ss.length) (i := x) (o := o.take i) (by omega) hno
    rw [hlen2] at hset
    rw [hset, ← htk]
    exact ih (i + 1) j (by omega) (by omega) (by omega)

/-- How far the sources of a stage reach. -/
theorem src_loop {R : Type} (k n : Nat) (o l : List Int) (x : Nat) (e0 : Bool → Option R) (e1 : Int → List Int → Option R) (hn : n ≤ 1000) (hol : o.length ≤ 1000) (hx : x < n + 1) (hl : ∀ y ∈ l, 0 ≤ y ∧ y < ((1 + n : Nat) : Int) ∧ (0 < y → y ∈ o ∧ pos o y < pos o x)) (hlen : l.length ≤ 1000) :
    ∀ (m i j : Nat) (r : Nat), l.length - i = m → i ≤ l.length → m < j → (r : Int) < pos o x → (∀ y ∈ l.take i, 0 < y → pos o y ≤ r) →
    ∃ r' : Nat, F71.loop2 k j x r i (atL n o) l e0 e1 = e1 r' (atL n o) ∧ (r' : Int) < pos o x ∧ ∀ y ∈ l, 0 < y → pos o y ≤ r' := by
  intro m
  induction m with
  | zero =>
    intro i j r hm hil hj hr ht
    obtain ⟨j, rfl⟩ : ∃ j', j = j' + 1 := ⟨j - 1, by omega⟩
    refine ⟨r, ?_, hr, ?_⟩
    · rw [F71.loop2_s, decide_eq_false (by omega), cond_false]
    · rw [show i = l.length by omega, List.take_length] at ht; exact ht
  | succ m ih =>
    intro i j r hm hil hj hr ht
    obtain ⟨j, rfl⟩ : ∃ j', j = j' + 1 := ⟨j - 1, by omega⟩
    have hlt : i < l.length := by omega
    obtain ⟨b1, b2, b3⟩ := hl _ (List.getElem_mem hlt)
    have htk : l.take (i + 1) = l.take i ++ [l[i]] := by rw [List.take_append_getElem]
    rw [F71.loop2_s, decide_eq_true (by omega), cond_true, if_pos (by omega), Int.toNat_natCast, List.getElem?_eq_getElem hlt, Option.bind_some]
    by_cases h0 : l[i] > 0
    · obtain ⟨b4, b5⟩ := b3 h0
      obtain ⟨y, hy⟩ : ∃ y : Nat, (y : Int) = l[i] := ⟨l[i].toNat, by omega⟩
      rw [decide_eq_true h0, cond_true, if_pos (by omega), Option.bind_some, if_pos (by rw [atL_len]; omega), ← hy, Int.toNat_natCast, atL_get (by omega), Option.bind_some, if_pos (by rw [atL_len]; omega), Int.toNat_natCast, atL_get hx, Option.bind_some]
      rw [← hy] at b4 b5 h0
      rw [decide_eq_false (p := pos o (y : Int) ≥ pos o (x : Int)) (by omega), cond_false, if_pos (by omega), Option.bind_some, decide_eq_true (p := (y : Int) > 0) (by omega), cond_true, if_pos (by omega), Option.bind_some, if_pos (by rw [atL_len]; omega), Int.toNat_natCast, atL_get (by omega), Option.bind_some, w64_succ i (by omega)]
      have hpn : 0 ≤ pos o (y : Int) := by unfold pos; split <;> omega
      obtain ⟨r2, hr2⟩ : ∃ r2 : Nat, (r2 : Int) = mm true r (pos o y) ∧ (r : Int) ≤ r2 ∧ pos o y ≤ r2 ∧ (r2 : Int) < pos o x := by
        refine ⟨(mm true r (pos o y)).toNat, ?_⟩
        have e : mm true (r : Int) (pos o (y : Int)) = if (r : Int) < pos o y then pos o y else r := by
          unfold mm
          by_cases hh : (r : Int) < pos o y
          · simp [hh]
          · simp [hh]
        rw [e]
        by_cases hh : (r : Int) < pos o y
        · rw [if_pos hh]; omega
        · rw [if_neg hh]; omega
      obtain ⟨c1, c2, c3, c4⟩ := hr2
      rw [← c1]
      refine ih (i + 1) j r2 (by omega) (by omega) (by omega) c4 fun z hz hz0 => ?_
      rw [htk] at hz
      rcases List.mem_append.1 hz with hz | hz
      · have := ht z hz hz0; omega
      · rw [List.mem_singleton.1 hz, ← hy]; omega
    · rw [decide_eq_false h0, cond_false, if_pos (by omega), Option.bind_some, decide_eq_false h0, cond_false, w64_succ i (by omega)]
      refine ih (i + 1) j r (by omega) (by omega) (by omega) hr fun z hz hz0 => ?_
      rw [htk] at hz
      rcases List.mem_append.1 hz with hz | hz
      · exact ht z hz hz0
      · rw [List.mem_singleton.1 hz] at hz0; omega

theorem least_loop {R : Type} (k n : Nat) (o : List Int) (x t : Nat) (e0 : Bool → Option R) (e1 : List Int → List Int → Option R) (hol : o.length ≤ 1000) (hx : x < n + 1) (hp : pos o (x : Int) = ((t + 1 : Nat) : Int)) (htl : t < o.length) :
    ∀ (m i j : Nat), t - i = m → i ≤ t → m < j → (∀ u, i ≤ u → u < t → ∀ y, o[u]? = some y → y ≤ x) →
    F71.loop3 k j x i o (atL n o) e0 e1 = e1 o (atL n o) := by
  intro m
  induction m with
  | zero =>
    intro i j hm hit hj hy
    obtain ⟨j, rfl⟩ : ∃ j', j = j' + 1 := ⟨j - 1, by omega⟩
    rw [F71.loop3_s, if_pos (by rw [atL_len]; omega), Int.toNat_natCast, atL_get hx, Option.bind_some, hp, w64_id (by omega) (by omega), decide_eq_false (by omega), cond_false]
  | succ m ih =>
    intro i j hm hit hj hy
    obtain ⟨j, rfl⟩ : ∃ j', j = j' + 1 := ⟨j - 1, by omega⟩
    have hlt : i < o.length := by omega
    have := hy i (Nat.le_refl _) (by omega) _ (List.getElem?_eq_getElem hlt)
    rw [F71.loop3_s, if_pos (by rw [atL_len]; omega), Int.toNat_natCast, atL_get hx, Option.bind_some, hp, w64_id (by omega) (by omega), decide_eq_true (by omega), cond_true, decide_eq_true (by omega), cond_true, if_pos (by omega), Int.toNat_natCast, List.getElem?_eq_getElem hlt, Option.bind_some, decide_eq_false (by omega), cond_false, w64_succ i (by omega)]
    exact ih (i + 1) j (by omega) (by omega) (by omega) fun u h1 h2 => hy u (by omega) h2

theorem pos_at {o : List Int} {t : Nat} {x : Int} (hn : o.Nodup) (h : o[t]? = some x) : pos o x = ((t + 1 : Nat) : Int) := by
  obtain ⟨h1, h2⟩ := List.getElem?_eq_some_iff.1 h
  subst h2
  unfold pos
  rw [if_pos (List.getElem_mem h1), hn.idxOf_getElem]

theorem pos_le {o : List Int} {t : Nat} {x : Int} (hn : o.Nodup) (h : x ∈ o.take t) : 0 < pos o x ∧ pos o x ≤ (t : Int) := by
  obtain ⟨i, hi, hx⟩ := List.mem_iff_getElem.1 h
  rw [List.length_take] at hi
  rw [List.getElem_take] at hx
  rw [pos_at hn (t := i) (x := x) (by rw [List.getElem?_eq_getElem (by omega), hx])]
  omega

theorem mem_take_of_pos {o : List Int} {t : Nat} {x : Int} (hm : x ∈ o) (h : pos o x ≤ (t : Int)) : x ∈ o.take t := by
  unfold pos at h
  rw [if_pos hm] at h
  have hi : o.idxOf x < o.length := List.idxOf_lt_length_of_mem hm
  rw [List.mem_iff_getElem]
  exact ⟨o.idxOf x, by rw [List.length_take]; omega, by rw [List.getElem_take, List.getElem_idxOf]⟩

/-- What the law asks of one node. -/
theorem node_facts {ss : List Stg} {o : List Int} (hg : Good (1 + ss.length) ss) (hi : Inv ss.length o) (hl : o.length = ss.length) (hled : Led ss o) {x : Nat} (hx1 : 1 ≤ x) (hx2 : x ≤ ss.length) :
    ∃ t s, o[t]? = some (x : Int) ∧ ss[x - 1]? = some s ∧ (∀ y ∈ srcs s, 0 < y → y ∈ o.take t) ∧ ∀ u, u < t → (∀ y ∈ srcs s, 0 < y → y ∈ o.take u) → ∀ y, o[u]? = some y → y ≤ x := by
  have hm : (x : Int) ∈ o := all_in ss.length o hi.nd hi.rg (by omega) x (by omega) (by omega)
  obtain ⟨t, ht, hox⟩ := List.mem_iff_getElem.1 hm
  have hot : o[t]? = some (x : Int) := by rw [List.getElem?_eq_getElem ht, hox]
  have hsx : x - 1 < ss.length := by omega
  refine ⟨t, ss[x - 1], hot, List.getElem?_eq_getElem hsx, ?_, ?_⟩
  · obtain ⟨q, h1, h2⟩ := hled t ht
    rw [hot] at h1
    injection h1 with h1
    have hq : q = x - 1 := by omega
    subst hq
    obtain ⟨_, ⟨s, hs, hr⟩, _, _⟩ := pk_some h2
    rw [Nat.sub_zero, List.getElem?_eq_getElem hsx] at hs
    injection hs with hs
    rw [← hs] at hr
    intro y hy h0
    have h3 : has 1 (o.take t) y = true := List.all_eq_true.1 hr y hy
    unfold has at h3
    rw [decide_eq_false (by omega), Bool.false_or] at h3
    simpa using h3
  · intro u hu hall y hy
    obtain ⟨q, h1, h2⟩ := hled u (by omega)
    rw [hy] at h1
    injection h1 with h1
    refine Classical.byContradiction fun hlt => ?_
    obtain ⟨_, _, _, h5⟩ := pk_some h2
    rcases h5 (x - 1) ss[x - 1] (Nat.zero_le _) (by omega) (List.getElem?_eq_getElem hsx) with h6 | h6
    · rw [show 1 + (x - 1) = x by omega] at h6
      obtain ⟨_, h7⟩ := pos_le hi.nd h6
      rw [pos_at hi.nd hot] at h7
      omega
    · have h8 : rdy 1 (o.take u) ss[x - 1] = true := by
        refine List.all_eq_true.2 fun y hy => ?_
        have hy2 := hg _ (List.getElem_mem hsx) y hy
        unfold has
        by_cases h0 : y < ((1 : Nat) : Int)
        · rw [decide_eq_true h0]; rfl
        · rw [decide_eq_false h0, Bool.false_or]
          simpa using hall y hy (by omega)
      rw [h6] at h8; cases h8

theorem nodes_loop {R : Type} (k : Nat) (pl : List Pln) (ss : List Stg) (os : List Int) (pr : Int) (o : List Int) (e0 : Bool → Option R) (e1 : Unit → Option R) (hg : Good (1 + ss.length) ss) (hi : Inv ss.length o) (hl : o.length = ss.length) (hled : Led ss o) (hs : ss.length ≤ 900) (hk : 1001 ≤ k) :
    ∀ (m x j : Nat), ss.length + 1 - x = m → 1 ≤ x → x ≤ ss.length + 1 → m < j →
    F71.loop1 k j x pl ss os pr o (atL ss.length o) e0 e1 = e1 () := by
  intro m
  induction m with
  | zero =>
    intro x j hm hx hx2 hj
    obtain ⟨j, rfl⟩ : ∃ j', j = j' + 1 := ⟨j - 1, by omega⟩
    rw [F71.loop1_s, decide_eq_false (by rw [atL_len]; omega), cond_false]
  | succ m ih =>
    intro x j hm hx hx2 hj
    obtain ⟨j, rfl⟩ : ∃ j', j = j' + 1 := ⟨j - 1, by omega⟩
    obtain ⟨t, s, h1, h2, h3, h4⟩ := node_facts hg hi hl hled (x := x) hx (by omega)
    have hp := pos_at hi.nd h1
    have htl : t < o.length := (List.getElem?_eq_some_iff.1 h1).1
    have hsl := srcs_len s
    have hss := hg s (List.mem_of_getElem? h2)
    rw [F71.loop1_s, decide_eq_true (by rw [atL_len]; omega), cond_true, show w64 ((x : Int) - 1) = ((x - 1 : Nat) : Int) by rw [w64_id (by omega) (by omega)]; omega, if_pos (by omega), Int.toNat_natCast, h2, Option.bind_some, rsources_ok]
    simp only [Option.bind_some]
    obtain ⟨r, hr1, hr2, hr3⟩ := src_loop (R := R) k ss.length o (srcs s) x (fun (z21 : Bool) => (e0 z21)) (fun (z22 : Int) (z23 : List Int) => (F71.loop3 k k x z22 o z23 (fun (z24 : Bool) => (e0 z24)) (fun (z25 : List Int) (z26 : List Int) => (F71.loop1 k j (w64 ((x : Int) + 1)) pl ss os pr z25 z26 e0 e1)))) (by omega) (by omega) (by omega)
      (fun y hy => ⟨(hss y hy).1, (hss y hy).2, fun h0 => ⟨List.mem_of_mem_take (h3 y hy h0), by rw [hp]; have := pos_le hi.nd (h3 y hy h0); omega⟩⟩) (by omega) (srcs s).length 0 k 0 (by omega) (by omega) (by omega) (by rw [hp]; omega) (fun y hy => by rw [List.take_zero] at hy; cases hy)
    rw [show ((0 : Nat) : Int) = 0 from rfl] at hr1
    rw [hr1]
    rw [hp] at hr2
    rw [least_loop k ss.length o x t (fun (z24 : Bool) => (e0 z24)) (fun (z25 : List Int) (z26 : List Int) => (F71.loop1 k j (w64 ((x : Int) + 1)) pl ss os pr z25 z26 e0 e1)) (by omega) (by omega) hp htl (t - r) r k rfl (by omega) (by omega) (fun u hu1 hu2 y hy => h4 u hu2 (fun z hz hz0 => mem_take_of_pos (List.mem_of_mem_take (h3 z hz hz0)) (by have := hr3 z hz hz0; omega)) y hy)]
    rw [w64_succ x (by omega)]
    exact ih (x + 1) j (by omega) (by omega) (by omega) (by omega)

theorem sorted_pure (t : List Int) (size : Int) (ht : t.length ≤ 9223372036854775807) : F71 5000 t size = some ((true, ()), ()) := by
  obtain ⟨u, hu, u1, u2⟩ := mod_ok 5000 size 8 (by omega) (by omega)
  obtain ⟨n, hn⟩ : ∃ n : Nat, ((n : Int) = 1 + u) := ⟨(1 + u).toNat, by omega⟩
  obtain ⟨ss, t', hl, hs, hss⟩ := links_ok (k := 5000) (n := n) (t := (t, 0)) ⟨by omega, by show (0 : Int) ≤ (t.length : Int); omega, ht⟩ (by omega) (by omega)
  have hg := link_good hss
  rw [← hs] at hg
  unfold F71 F4
  simp only [Option.bind_some]
  rw [hu]
  simp only [Option.bind_some]
  rw [w64_id (by omega) (by omega), ← hn, hl]
  simp only [Option.bind_some]
  rw [order_ok hg (by omega) (by omega) (by omega)]
  simp only [Option.bind_some]
  cases hgo : go 1 ss ss.length [] with
  | none =>
    simp only [ans]
    rw [show ((7 : Int) != 0) = true from rfl, show (((([] : List Int).length : Nat) : Int) == 0) = true from rfl, sane17_ok]
    rfl
  | some o =>
    obtain ⟨hi, hol⟩ := go_inv _ _ _ (inv_nil _) hgo
    rw [List.length_nil, Nat.zero_add] at hol
    have hled : Led ss o := go_led _ _ _ (fun t ht => by cases ht) hgo
    simp only [ans]
    rw [show ((0 : Int) != 0) = false from rfl, cond_false, w64_succ _ (by omega), if_pos (by omega), Int.toNat_natCast, atL_nil]
    have h1 := at_loop (R := (Bool × Unit) × Unit) 5000 pl0 ss [0] 0 o (fun (z12 : Bool) => (some ((z12, ()), ()))) (fun (z13 : List Pln) (z14 : List Stg) (z15 : List Int) (z16 : Int) (z17 : List Int) (z18 : List Int) => (F71.loop1 5000 5000 1 z13 z14 z15 z16 z17 z18 (fun (z27 : Bool) => (some ((z27, ()), ()))) (fun (_ : Unit) => ((F67 5000).bind fun (y28 : (Bool × Unit) × (Unit)) => some ((y28.1.1, ()), ()))))) hi (by omega) (by omega) o.length 0 5000 (by omega) (by omega) (by omega)
    rw [show ((0 : Nat) : Int) = 0 from rfl, List.take_zero] at h1
    rw [h1]
    have h2 := nodes_loop (R := (Bool × Unit) × Unit) 5000 pl0 ss [0] 0 o (fun (z27 : Bool) => (some ((z27, ()), ()))) (fun (_ : Unit) => ((F67 5000).bind fun (y28 : (Bool × Unit) × (Unit)) => some ((y28.1.1, ()), ()))) hg hi hol hled (by omega) (by omega) ss.length 1 5000 (by omega) (by omega) (by omega) (by omega)
    rw [show ((1 : Nat) : Int) = 1 from rfl] at h2
    rw [h2, sane17_ok]
    rfl

end Go.Lf.T

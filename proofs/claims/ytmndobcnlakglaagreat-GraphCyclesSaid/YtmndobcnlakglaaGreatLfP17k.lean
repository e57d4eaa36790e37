import Derived.Test.YtmndobcnlakglaaGreatLfP17j
set_option linter.unusedVariables false
set_option maxRecDepth 100000
namespace Go.Lf.T
open Go Go.Lf
theorem ordr_len (pl : List Pln) (ss : List Stg) (os : List Int) (pr : Int) : (ordr pl ss os pr).1.length <= ss.length := by
 by_cases h0 : (ordr pl ss os pr).2 = 0
 ·rw [(q542 h0).2.2.1]; exact Nat.le_refl _
 ·have : (ordr pl ss os pr).1 = [] \/ (ordr pl ss os pr).2 = 0 := by
   clear h0
   unfold ordr
   cases ((pl.length : Int) == 0) with
   | true => exact .inl rfl
   | false =>
   cases ((ss.length : Int) == 0) with
   | true => exact .inl rfl
   | false =>
   cases decide (((pl.length + ss.length : Nat) : Int) > 16) with
   | true => exact .inl rfl
   | false =>
   cases ((os.length : Int) == 0) with
   | true => exact .inl rfl
   | false =>
   cases decide ((os.length : Int) > 16) with
   | true => exact .inl rfl
   | false =>
   cases decide (pr < 0) with
   | true => exact .inl rfl
   | false =>
   cases decide (pr >= 4) with
   | true => exact .inl rfl
   | false =>
   cases ss.all (inSt ((pl.length + ss.length : Nat) : Int)) with
   | false => exact .inl rfl
   | true =>
   cases os.all (inNd ((pl.length + ss.length : Nat) : Int)) with
   | false => exact .inl rfl
   | true =>
   simp only [y137, y145]
   cases hgo : go pl.length ss ss.length [] with
   | none => exact .inl rfl
   | some l => exact .inr rfl
  rw [this.resolve_right h0]; exact Nat.zero_le _
theorem q566 {ss : List Stg} {p : Nat} : ∀ (o : List Int) (out : List Sh), (shst ss p o out).1.length <= out.length
 | [], out => Nat.le_refl _
 | x :: o, out => by
  unfold shst
  split
  ·exact Nat.zero_le _
  ·rename_i s hs
   cases (q71 s (out.getD s.2.1.toNat (0, 0, 0)) (bOf s out)).2 != 0 with
   | true => exact Nat.zero_le _
   | false =>
    have := q566 (ss := ss) (p := p) o (out.set x.toNat (q71 s (out.getD s.2.1.toNat (0, 0, 0)) (bOf s out)).1)
    rw [List.length_set] at this
    exact this
theorem shps_len (pl : List Pln) (ss : List Stg) (os : List Int) (pr : Int) : (shps pl ss os pr).1.length <= pl.length + ss.length := by
 unfold shps
 cases (ordr pl ss os pr).2 != 0 with
 | true => exact Nat.zero_le _
 | false =>
  simp only [y137]
  cases shin pl 0 with
  | some i => exact Nat.zero_le _
  | none =>
   have := q566 (ss := ss) (p := pl.length) (ordr pl ss os pr).1 (pl.map shOf ++ List.replicate ss.length (0, 0, 0))
   rw [y148, List.length_map, List.length_replicate] at this
   exact this
theorem q735 {p : Nat} {ss : List Stg} {v f : Nat} (h : bstF p ss ss.length = some (v, f)) : v <= ss.length := by
 have := q360 (p := p) (ss := ss) ss.length
 rw [h] at this
 obtain ⟨_, h2, _⟩ := this
 rw [h2]; exact q345 _ _
theorem cycr_len (pl : List Pln) (ss : List Stg) (os : List Int) (pr : Int) : (cycr pl ss os pr).length <= ss.length + 1 := by
 unfold cycr
 cases (ordr pl ss os pr).2 != 7 with
 | true => exact Nat.zero_le _
 | false =>
  simp only [y137]
  cases hb : bstF pl.length ss ss.length with
  | none => exact Nat.zero_le _
  | some vf =>
   obtain ⟨v, f⟩ := vf
   have := q735 hb
   show (tr pl.length ss f (v - 1) _).length + 1 <= _
   rw [q586]; omega
theorem q516 {R : Type} (k : Nat) (l : List Sh) (e0 : Bool -> Option R) (e1 : Unit -> Option R) (hl : l.length <= 1000) : ∀ (n i j : Nat), l.length - i = n -> i <= l.length -> n < j ->
  F113.loop0 k j i l l e0 e1 = e1 () := by
 intro n
 induction n with
 | zero =>
  intro i j hn hi hj
  obtain ⟨j, rfl⟩ : ∃ j', j = j' + 1 := ⟨j - 1, by omega⟩
  rw [F113.loop0_s, y0 (by omega), y137]
 | succ n ih =>
  intro i j hn hi hj
  obtain ⟨j, rfl⟩ : ∃ j', j = j' + 1 := ⟨j - 1, by omega⟩
  have hlt : i < l.length := by omega
  rw [F113.loop0_s, y135 (by omega), y136, if_pos (by omega), y139, y140 hlt, y138, if_pos (by omega), y138, y170, y170, y170]
  simp only [Bool.and_true, y145, y137]
  rw [q22 i (by omega)]
  exact ih (i + 1) j (by omega) (by omega) (by omega)
theorem agreesG {k : Nat} (pl : List Pln) (ss : List Stg) (os : List Int) (pr : Int) (hp : pl.length <= 100) (hs : ss.length <= 100) (ho : os.length <= 100) (hk : 4097 <= k) :
  F113 k (pl, ss, os, pr) = some ((true, ()), ()) := by
 have l1 := ordr_len pl ss os pr
 have l2 := shps_len pl ss os pr
 have l3 := cycr_len pl ss os pr
 unfold F113 F109
 rw [q461 pl ss os pr hp hs ho (by omega), q527 pl ss os pr hp hs ho (by omega), shapesG pl ss os pr hp hs ho hk, rshapesG pl ss os pr hp hs ho hk]
 simp only [y138]
 rw [q702 k (by omega) (by omega)]
 simp only [y138, decide_true, y145, y137]
 rw [q66 rfl, q66 rfl, q66 rfl, q66 rfl]
 simp only [y137]
 rw [cycleG pl ss os pr hp hs ho hk, rcycleG pl ss os pr hp hs ho hk]
 simp only [y138]
 rw [q702 k (by omega) (by omega)]
 simp only [y138, decide_true, y145, y137]
 exact q516 k (shps pl ss os pr).1 (fun (z12 : Bool) => (some ((z12, ()), ()))) (fun (_ : Unit) => (some ((true, ()), ()))) (by omega) (shps pl ss os pr).1.length 0 k (by omega) (by omega) (by omega)
theorem chain {p : Nat} {ss : List Stg} {T : Nat} (hg : Good (p + ss.length) ss) : ∀ (left q : Nat), dist p ss T q = left + 1 -> q < ss.length -> ∀ i, i <= left ->
  ∃ r, (((p + q : Nat) : Int) :: tr p ss T left ((p + q : Nat) : Int))[i]? = some ((p + r : Nat) : Int) /\ r < ss.length /\ dist p ss T r = left + 1 - i /\ way' p ss i q r /\ (i < left -> ∃ r', (((p + q : Nat) : Int) :: tr p ss T left ((p + q : Nat) : Int))[i + 1]? = some ((p + r' : Nat) : Int) /\ edge p ss r r')
 | 0, q, h, hq, i, hi => by
  have : i = 0 := by omega
  subst this
  exact ⟨q, rfl, hq, by omega, rfl, fun h => absurd h (by omega)⟩
 | left + 1, q, h, hq, i, hi => by
  obtain ⟨s, h1, h2, h3⟩ := q537 hg h
  have htr : tr p ss T (left + 1) ((p + q : Nat) : Int) = ((p + s : Nat) : Int) :: tr p ss T left ((p + s : Nat) : Int) := by
   show nx p ss T (left + 1) (srcA p ss ((p + q : Nat) : Int)) (-1) :: tr p ss T left (nx p ss T (left + 1) (srcA p ss ((p + q : Nat) : Int)) (-1)) = _
   rw [h2]
  rw [htr]
  have hsl := (q291 hg h1).2
  cases i with
  | zero => exact ⟨q, rfl, hq, by omega, rfl, fun _ => ⟨s, rfl, h1⟩⟩
  | succ i =>
   obtain ⟨r, g1, g2, g3, g4, g5⟩ := chain hg left s h3 hsl i (by omega)
   refine ⟨r, by rw [List.getElem?_cons_succ]; exact g1, g2, by omega, ⟨s, h1, g4⟩, fun hlt => ?_⟩
   obtain ⟨r', g6, g7⟩ := g5 (by omega)
   exact ⟨r', by rw [List.getElem?_cons_succ]; exact g6, g7⟩
theorem cy_len {p : Nat} {ss : List Stg} {v f : Nat} (hv : v ≠ 0) : (cy p ss (some (v, f))).length = v := by
 show (tr p ss f (v - 1) _).length + 1 = v
 rw [q586]; omega
theorem cy_facts {p : Nat} {ss : List Stg} {v f : Nat} (hg : Good (p + ss.length) ss) (hb : bstF p ss ss.length = some (v, f)) {i : Nat} (hi : i < v) :
  ∃ r r', (cy p ss (some (v, f)))[i]? = some ((p + r : Nat) : Int) /\ (cy p ss (some (v, f)))[(i + 1) % v]? = some ((p + r' : Nat) : Int) /\ r < ss.length /\ edge p ss r r' /\ f <= r := by
 have hok := q360 (p := p) (ss := ss) ss.length
 rw [hb] at hok
 obtain ⟨a1, a2, a3, a4, a5⟩ := hok
 obtain ⟨v0, rfl⟩ : ∃ v0, v = v0 + 1 := ⟨v - 1, by omega⟩
 obtain ⟨r, g1, g2, g3, g4, g5⟩ := chain hg v0 f a2.symm a1 i (by omega)
 have hfr : f <= r := by
  refine y146 fun hlt => ?_
  have w1 : way' p ss (v0 + 1 - i) r f := by
   obtain ⟨d, hd⟩ : ∃ d, v0 + 1 - i = d + 1 := ⟨v0 - i, by omega⟩
   rw [hd]; exact q565 hg (by rw [g3, hd])
  have w2 := q90 w1 g4
  rw [show v0 + 1 - i + i = v0 + 1 by omega] at w2
  obtain ⟨h1, h2⟩ := q433 hg w2
  rcases a4 r (by omega) with h3 | h3
  ·exact h1 h3
  ·omega
 have hcy : cy p ss (some (v0 + 1, f)) = ((p + f : Nat) : Int) :: tr p ss f v0 ((p + f : Nat) : Int) := rfl
 rw [hcy]
 by_cases hl : i < v0
 ·obtain ⟨r', g6, g7⟩ := g5 hl
  exact ⟨r, r', g1, by rw [Nat.mod_eq_of_lt (by omega)]; exact g6, g2, g7, hfr⟩
 ·have e : i = v0 := by omega
  subst e
  rcases q273 hg (v := 0) (by rw [g3]; omega) with ⟨_, h1⟩ | ⟨h0, _⟩
  ·exact ⟨r, f, g1, by rw [Nat.mod_self]; rfl, g2, h1, hfr⟩
  ·exact absurd rfl h0
theorem len_ge : ∀ (n : Nat) (l : List Int), (∀ x : Int, 1 <= x -> x <= n -> x ∈ l) -> n <= l.length
 | 0, _, _ => Nat.zero_le _
 | n + 1, l, h => by
  have hm := h ((n + 1 : Nat) : Int) (by omega) (by omega)
  have h1 := len_ge n (l.erase ((n + 1 : Nat) : Int)) fun x hx1 hx2 => (List.mem_erase_of_ne (by omega)).2 (h x hx1 (by omega))
  rw [List.length_erase_of_mem hm] at h1
  have := List.length_pos_of_mem hm
  omega
theorem q585 {ss : List Stg} : ∀ (f : Nat) (out : List Int), Inv ss.length out -> out.length + f = ss.length -> go 1 ss f out = none -> ∃ out', out'.length < ss.length /\ pk 1 out' ss 0 = none
 | 0, out, hi, hl, h => by cases h
 | f + 1, out, hi, hl, h => by
  have h' : (match pk 1 out ss 0 with | some q => go 1 ss f (out ++ [((1 + q : Nat) : Int)]) | none => none) = none := h
  cases hq : pk 1 out ss 0 with
  | none => exact ⟨out, by omega, hq⟩
  | some q =>
   rw [hq] at h'
   exact q585 f _ (hi.snoc hq) (by rw [y148, y159]; omega) h'
theorem pigeon {n : Nat} {w : Nat -> Nat} (h : ∀ k, w k < n) : ∃ a b, a < b /\ w a = w b := by
 refine y146 fun hno => ?_
 have hl := q674 n ((List.range (n + 1)).map fun k => ((w k + 1 : Nat) : Int)) (by
  refine List.pairwise_map.2 ((List.pairwise_lt_range (n := n + 1)).imp fun {a b} (hab : a < b) (e : ((w a + 1 : Nat) : Int) = ((w b + 1 : Nat) : Int)) => hno ⟨a, b, hab, by omega⟩)) (fun x hx => by
  obtain ⟨k, _, rfl⟩ := List.mem_map.1 hx
  have := h k
  omega)
 rw [List.length_map, List.length_range] at hl
 omega
theorem q659 {ss : List Stg} (hg : Good (1 + ss.length) ss) (h : go 1 ss ss.length [] = none) : bstF 1 ss ss.length ≠ none := by
 obtain ⟨out, hl, hpk⟩ := q585 ss.length [] (q723 _) (by simp) h
 have nxt : ∀ i : Nat, i < ss.length -> ((1 + i : Nat) : Int) ∉ out -> ∃ s, edge 1 ss i s /\ ((1 + s : Nat) : Int) ∉ out := by
  intro i hi hno
  rcases q675 hpk i ss[i] (y140 hi) with h1 | h1
  ·rw [Nat.zero_add] at h1; exact absurd h1 hno
  ·have h1' : ¬ (rdy 1 out ss[i] = true) := by rw [h1]; exact Bool.false_ne_true
   unfold rdy at h1'
   rw [List.all_eq_true] at h1'
   obtain ⟨x, hx, hx2⟩ : ∃ x, x ∈ srcs ss[i] /\ has 1 out x = false := by
    refine y146 fun hn => h1' fun x hx => ?_
    cases hh : has 1 out x with
    | true => rfl
    | false => exact absurd ⟨x, hx, hh⟩ hn
   unfold has at hx2
   rw [Bool.or_eq_false_iff] at hx2
   have hx3 := of_decide_eq_false hx2.1
   refine ⟨(x - 1).toNat, ⟨ss[i], y140 hi, ?_⟩, ?_⟩
   ·rw [show ((1 + (x - 1).toNat : Nat) : Int) = x by omega]; exact hx
   ·rw [show ((1 + (x - 1).toNat : Nat) : Int) = x by omega]
    have := hx2.2
    simpa using this
 obtain ⟨i0, hi0, hno0⟩ : ∃ i, i < ss.length /\ ((1 + i : Nat) : Int) ∉ out := by
  refine y146 fun hn => ?_
  have := len_ge ss.length out fun x h1 h2 => y146 fun hx => hn ⟨(x - 1).toNat, by omega, by rw [show ((1 + (x - 1).toNat : Nat) : Int) = x by omega]; exact hx⟩
  omega
 let good : Nat -> Prop := fun i => i < ss.length /\ ((1 + i : Nat) : Int) ∉ out
 have step : ∀ i : {i // good i}, ∃ s : {i // good i}, edge 1 ss i.1 s.1 := fun i => by
  obtain ⟨s, h1, h2⟩ := nxt i.1 i.2.1 i.2.2
  exact ⟨⟨s, (q291 hg h1).2, h2⟩, h1⟩
 let w : Nat -> {i // good i} := fun k => Nat.rec ⟨i0, hi0, hno0⟩ (fun _ x => Classical.choose (step x)) k
 have hw : ∀ k, edge 1 ss (w k).1 (w (k + 1)).1 := fun k => Classical.choose_spec (step (w k))
 obtain ⟨a, b, hab, he⟩ := pigeon (n := ss.length) (w := fun k => (w k).1) fun k => (w k).2.1
 have hway : ∀ d, way' 1 ss d (w a).1 (w (a + d)).1 := by
  intro d
  induction d with
  | zero => rfl
  | succ d ih => exact q90 ih ⟨(w (a + d + 1)).1, hw (a + d), rfl⟩
 have h1 := hway (b - a)
 rw [show a + (b - a) = b by omega] at h1
 obtain ⟨d, hd⟩ : ∃ d, b - a = d + 1 := ⟨b - a - 1, by omega⟩
 rw [hd] at h1
 have he' : (w a).1 = (w b).1 := he
 rw [<- he'] at h1
 obtain ⟨h2, _⟩ := q433 hg h1
 intro hb
 have := q360 (p := 1) (ss := ss) ss.length
 rw [hb] at this
 exact h2 (this _ (w a).2.1)
theorem q631 {R : Type} (k : Nat) (x : Int) (l : List Int) (e0 : Bool -> Option R) (hl : l.length <= 1000) : ∀ (n i j : Nat) (b : Bool), l.length - i = n -> i <= l.length -> n < j ->
  F115.loop1 k j x b i l e0 = e0 (b || (l.drop i).any (· == x)) := by
 intro n
 induction n with
 | zero =>
  intro i j b hn hi hj
  obtain ⟨j, rfl⟩ : ∃ j', j = j' + 1 := ⟨j - 1, by omega⟩
  rw [F115.loop1_s, y0 (by omega), y137, show i = l.length by omega, y157, List.any_nil, Bool.or_false]
 | succ n ih =>
  intro i j b hn hi hj
  obtain ⟨j, rfl⟩ : ∃ j', j = j' + 1 := ⟨j - 1, by omega⟩
  have hlt : i < l.length := by omega
  rw [F115.loop1_s, y135 (by omega), y136, q22 i (by omega), y147 hlt, List.any_cons]
  cases b with
  | true => rw [y136, ih (i + 1) j true (by omega) (by omega) (by omega)]; rfl
  | false =>
   rw [y137, if_pos (by omega), y139, y140 hlt, y138, ih (i + 1) j _ (by omega) (by omega) (by omega)]; rfl
theorem q512 {R : Type} (k : Nat) (pl : List Pln) (ss : List Stg) (os : List Int) (pr : Int) (v f : Nat) (e0 : Bool -> Option R) (e1 : List Pln -> List Stg -> List Int -> Int -> Option R) (hg : Good (1 + ss.length) ss) (hs : ss.length <= 900) (hk : 1001 <= k) (hv : v ≠ 0) (hb : bstF 1 ss ss.length = some (v, f)) : ∀ (n i j : Nat), v - i = n -> i <= v -> n < j ->
  F115.loop0 k j i pl ss os pr (cy 1 ss (some (v, f))) e0 e1 = e1 pl ss os pr := by
 have hlen : (cy 1 ss (some (v, f))).length = v := cy_len hv
 have hvn := q735 hb
 intro n
 induction n with
 | zero =>
  intro i j hn hi hj
  obtain ⟨j, rfl⟩ : ∃ j', j = j' + 1 := ⟨j - 1, by omega⟩
  rw [F115.loop0_s, hlen, y0 (by omega), y137]
 | succ n ih =>
  intro i j hn hi hj
  obtain ⟨j, rfl⟩ : ∃ j', j = j' + 1 := ⟨j - 1, by omega⟩
  obtain ⟨r, r', h1, h2, h3, ⟨st, h4, h5⟩, h6⟩ := cy_facts hg hb (i := i) (by omega)
  have hsl := q115 st
  have h00 : (cy 1 ss (some (v, f)))[0]? = some ((1 + f : Nat) : Int) := rfl
  have hmod : (w64 ((i : Int) + 1)).tmod (v : Int) = (((i + 1) % v : Nat) : Int) := by
   rw [q22 i (by omega)]
   exact (Int.ofNat_tmod _ _).symm
  have hml : (i + 1) % v < v := Nat.mod_lt _ (by omega)
  rw [F115.loop0_s, hlen, y135 (by omega), y136, if_pos (by omega), y139, h1, y138, show w64 (((1 + r : Nat) : Int) - 1) = (r : Int) by rw [q28 (by omega) (by omega)]; omega, if_pos (by omega), y139, h4, y138, q143]
  simp only [y138]
  rw [if_neg (by omega), hmod, if_pos (by omega), y139, h2, y138]
  have hf := q631 (R := R) k ((1 + r' : Nat) : Int) (srcs st) (fun (z11 : Bool) => (bif !z11 then (e0 false) else (if 0 <= (i : Int) /\ (i : Int) < ((v : Nat) : Int) then if 0 <= (0 : Int) /\ (0 : Int) < ((v : Nat) : Int) then ((cy 1 ss (some (v, f)))[0]?).bind fun (x13 : Int) => bif decide (((1 + r : Nat) : Int) < x13) then (e0 false) else (F115.loop0 k j (w64 ((i : Int) + 1)) pl ss os pr (cy 1 ss (some (v, f))) e0 e1) else none else none))) (by omega) (srcs st).length 0 k false (by omega) (by omega) (by omega)
  rw [show ((0 : Nat) : Int) = 0 from rfl, y152] at hf
  have hany : (srcs st).any (· == ((1 + r' : Nat) : Int)) = true := List.any_eq_true.2 ⟨_, h5, y170 _⟩
  rw [hf, hany, Bool.false_or, y145, y137, if_pos (by omega), if_pos (by omega), h00, y138, y0 (by omega), y137, q22 i (by omega)]
  exact ih (i + 1) j (by omega) (by omega) (by omega)
theorem q656 {ss : List Stg} (hg : Good (1 + ss.length) ss) (h1 : 1 <= ss.length) (h2 : ss.length <= 15) : ordr pl0 ss [0] 0 = ans (go 1 ss ss.length []) := by
 have h := order_ok (k := 1001) hg h1 h2 (Nat.le_refl _)
 rw [q461 pl0 ss [0] 0 (by decide) (by omega) (by decide) (Nat.le_refl _)] at h
 injection h with h
 injection h with h _
 injection h with h3 h4
 injection h4 with h4 _
 exact Prod.ext h3 h4
theorem q544 (t : List Int) (size : Int) (ht : t.length <= 9223372036854775807) : F115 5000 t size = some ((true, ()), ()) := by
 obtain ⟨u, hu, u1, u2⟩ := mod_ok 5000 size 8 (by omega) (by omega)
 obtain ⟨n, hn⟩ : ∃ n : Nat, ((n : Int) = 1 + u) := ⟨(1 + u).toNat, by omega⟩
 obtain ⟨ss, t', hl, hs, hss⟩ := links_ok (k := 5000) (n := n) (t := (t, 0)) ⟨by omega, by show (0 : Int) <= (t.length : Int); omega, ht⟩ (by omega) (by omega)
 have hg := q649 hss
 rw [<- hs] at hg
 have hord := q656 hg (by omega) (by omega)
 unfold F115 F4
 simp only [y138]
 rw [hu]
 simp only [y138]
 rw [q28 (by omega) (by omega), <- hn, hl]
 simp only [y138]
 have h3 := agreesG (k := 5000) pl0 ss [0] 0 (by decide) (by omega) (by decide) (by omega)
 have h1 := q461 (k := 5000) pl0 ss [0] 0 (by decide) (by omega) (by decide) (by omega)
 have h2 := cycleG (k := 5000) pl0 ss [0] 0 (by decide) (by omega) (by decide) (by omega)
 have hcy : cycr pl0 ss [0] 0 = bif (ans (go 1 ss ss.length [])).2 != 7 then [] else cy 1 ss (bstF 1 ss ss.length) := by unfold cycr; rw [hord]; rfl
 rw [hord] at h1
 rw [hcy] at h2
 cases hgo : go 1 ss ss.length [] with
 | some o =>
  obtain ⟨hi, hol⟩ := go_inv _ _ _ (q723 _) hgo
  rw [List.length_nil, Nat.zero_add] at hol
  rw [hgo] at h1 h2
  have h1' : F16 5000 (pl0, ss, [0], 0) = some ((o, 0, ()), ()) := h1
  have h2' : F23 5000 (pl0, ss, [0], 0) = some (([], ()), ()) := h2
  rw [h1']
  simp only [y138]
  rw [h2']
  simp only [y138]
  rw [h3]
  simp only [y138, y145, y137]
  rw [show ((0 : Int) != 0) = false from rfl, y137, show (!(((0 : Int) == 7) == decide (((([] : List Int).length : Nat) : Int) > 0))) = false from rfl, y137]
  rw [show (5000 : Nat) = 4999 + 1 from rfl, F115.loop0_s, y0 (by simp), y137, y137, hol, y170, y136, q480]
  rfl
 | none =>
  have hc := q659 hg hgo
  rw [hgo] at h1 h2
  have h1' : F16 5000 (pl0, ss, [0], 0) = some (([], 7, ()), ()) := h1
  cases hb : bstF 1 ss ss.length with
  | none => exact absurd hb hc
  | some vf =>
   obtain ⟨v, f⟩ := vf
   have hok := q360 (p := 1) (ss := ss) ss.length
   rw [hb] at hok
   obtain ⟨_, _, hv, _, _⟩ := hok
   have hvn := q735 hb
   rw [hb] at h2
   have h2' : F23 5000 (pl0, ss, [0], 0) = some ((cy 1 ss (some (v, f)), ()), ()) := h2
   rw [h1']
   simp only [y138]
   rw [h2']
   simp only [y138]
   rw [h3]
   simp only [y138, y145, y137]
   rw [show ((7 : Int) != 0) = true from rfl, show ((7 : Int) != 7) = false from rfl, y136, y137, cy_len hv, y135 (p := ((v : Nat) : Int) > 0) (by omega), show (!(((7 : Int) == 7) == true)) = false from rfl, y137]
   have h := q512 (R := (Bool × Unit) × Unit) 5000 pl0 ss [0] 0 v f (fun (z14 : Bool) => (some ((z14, ()), ()))) (fun (z15 : List Pln) (z16 : List Stg) (z17 : List Int) (z18 : Int) => (bif true then ((F114 5000).bind fun (y19 : (Bool × Unit) × (Unit)) => some ((y19.1.1, ()), ())) else (bif (((([] : List Int).length : Nat) : Int) == (z16.length : Int)) then ((F114 5000).bind fun (y20 : (Bool × Unit) × (Unit)) => some ((y20.1.1, ()), ())) else (some ((false, ()), ()))))) hg (by omega) (by omega) hv hb v 0 5000 (by omega) (by omega) (by omega)
   rw [show ((0 : Nat) : Int) = 0 from rfl] at h
   refine Eq.trans h ?_
   rw [y136, q480]; rfl
end Go.Lf.T

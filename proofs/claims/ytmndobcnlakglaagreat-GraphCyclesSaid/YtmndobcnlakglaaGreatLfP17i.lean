import Derived.Test.YtmndobcnlakglaaGreatLfP17h
set_option linter.unusedVariables false
set_option maxRecDepth 100000
namespace Go.Lf.T
open Go Go.Lf
def stL (f : Nat -> Nat) (n : Nat) : List Int := (List.range n).map fun q => (f q : Int)
theorem q76 (f : Nat -> Nat) (n : Nat) : (stL f n).length = n := by simp [stL]
theorem q150 {f : Nat -> Nat} {n q : Nat} (h : q < n) : (stL f n)[q]? = some (f q : Int) := by
 unfold stL
 rw [List.getElem?_map, List.getElem?_range h]; rfl
theorem q419 {f g : Nat -> Nat} {n : Nat} (h : ∀ q, q < n -> f q = g q) : stL f n = stL g n := by
 apply List.ext_getElem?
 intro q
 by_cases hq : q < n
 ·rw [q150 hq, q150 hq, h q hq]
 ·rw [y158 (by rw [q76]; omega), y158 (by rw [q76]; omega)]
theorem stL_set {f g : Nat -> Nat} {n i : Nat} {v : Int} (hi : i < n) (hv : v = (g i : Int)) (h : ∀ q, q < n -> q ≠ i -> f q = g q) : (stL f n).set i v = stL g n := by
 apply List.ext_getElem?
 intro q
 by_cases hq : q < n
 ·rw [List.getElem?_set, q76, q150 hq]
  by_cases e : i = q
  ·subst e; rw [if_pos rfl, if_pos hi, hv, q150 hi]
  ·rw [if_neg e, q150 hq, h q hq (fun e' => e e'.symm)]
 ·rw [y158 (by rw [List.length_set, q76]; omega), y158 (by rw [q76]; omega)]
section
variable {p : Nat} {ss : List Stg} {T : Nat}
theorem mix_eq {L i q : Nat} (h0 : L ≠ 0) : mix p ss T L i q = L ↔ Dn p ss T L q = L := by
 unfold mix
 by_cases h : q < i
 ·rw [if_pos h]
  by_cases h1 : Dn p ss T L q = 0
  ·rw [q232 h1, h1]
   cases hit p ss T (Dn p ss T L) L q
   ·exact Iff.rfl
   ·exact ⟨fun e => by have : L + 1 = L := e; omega, fun e => absurd e.symm h0⟩
  ·rw [q167 h1]
 ·rw [if_neg h]
def hitx (p : Nat) (ss : List Stg) (T L : Nat) (x : Int) : Bool := decide ((p : Int) <= x) && (bif L == 0 then x == ((p + T : Nat) : Int) else Dn p ss T L (x - p).toNat == L)
theorem q396 {R : Type} (k j : Nat) (T L : Nat) (i kk : Int) (pl : List Pln) (ss : List Stg) (os : List Int) (pr : Int) (out l : List Int) (v : Int) (e0 : List Pln -> List Stg -> List Int -> Int -> List Int -> Option R) (hj : 0 < j) (hi : 0 <= i /\ i < out.length) (hv : out[i.toNat]? = some v) (hv0 : v ≠ 0) (hk : 0 <= kk) :
  F111.loop2 k j T ((L + 1 : Nat) : Int) i kk pl ss os pr out l e0 = e0 pl ss os pr out := by
 obtain ⟨j, rfl⟩ : ∃ j', j = j' + 1 := ⟨j - 1, by omega⟩
 rw [F111.loop2_s]
 cases decide (kk < ((l.length : Nat) : Int)) with
 | false => rfl
 | true => rw [y136, if_pos hi, hv, y138, y165.2 hv0]; rfl
theorem q730 {R : Type} (k : Nat) (pl : List Pln) (ss : List Stg) (os : List Int) (pr : Int) (T L i : Nat) (l : List Int) (e0 : List Pln -> List Stg -> List Int -> Int -> List Int -> Option R) (hp : pl.length + ss.length <= 900) (hl : ∀ x ∈ l, 0 <= x /\ x < ((pl.length + ss.length : Nat) : Int)) (hlen : l.length <= 100) (hi : i < ss.length) (hL : L <= 1000) (h0 : Dn pl.length ss T L i = 0) :
  ∀ (m kk j : Nat), l.length - kk = m -> kk <= l.length -> m + 1 < j ->
  F111.loop2 k j T ((L + 1 : Nat) : Int) i kk pl ss os pr (stL (mix pl.length ss T L i) ss.length) l e0 = e0 pl ss os pr (bif (l.drop kk).any (hitx pl.length ss T L) then (stL (mix pl.length ss T L i) ss.length).set i ((L + 1 : Nat) : Int) else stL (mix pl.length ss T L i) ss.length) := by
 intro m
 induction m with
 | zero =>
  intro kk j hm hkk hj
  obtain ⟨j, rfl⟩ : ∃ j', j = j' + 1 := ⟨j - 1, by omega⟩
  rw [F111.loop2_s, y0 (by omega), y137, show kk = l.length by omega, y157]; rfl
 | succ m ih =>
  intro kk j hm hkk hj
  obtain ⟨j, rfl⟩ : ∃ j', j = j' + 1 := ⟨j - 1, by omega⟩
  have hlt : kk < l.length := by omega
  obtain ⟨b1, b2⟩ := hl _ (y160 hlt)
  have hm0 : mix pl.length ss T L i i = 0 := by unfold mix; rw [if_neg (by omega), h0]
  have hset : F111.loop2 k j T ((L + 1 : Nat) : Int) i ((kk + 1 : Nat) : Int) pl ss os pr ((stL (mix pl.length ss T L i) ss.length).set i ((L + 1 : Nat) : Int)) l e0 = e0 pl ss os pr ((stL (mix pl.length ss T L i) ss.length).set i ((L + 1 : Nat) : Int)) :=
   q396 k j T L i _ pl ss os pr _ l ((L + 1 : Nat) : Int) e0 (by omega) (by rw [List.length_set, q76]; omega) (by rw [y139, List.getElem?_set, if_pos rfl, q76, if_pos hi]) (by omega) (by omega)
  rw [F111.loop2_s, y135 (by omega), y136, if_pos (by rw [q76]; omega), y139, q150 hi, y138, hm0, q281 (a := ((0 : Nat) : Int)) (b := 0) rfl, y136, if_pos (by omega), y139, y140 hlt, y138, q28 (n := l[kk] - (pl.length : Int)) (by omega) (by omega), y147 hlt, List.any_cons, q22 kk (by omega)]
  by_cases hx : (pl.length : Int) <= l[kk]
  ·rw [y135 (p := l[kk] - (pl.length : Int) >= 0) (by omega), y136]
   by_cases hL0 : L = 0
   ·subst hL0
    rw [show ((((0 + 1 : Nat) : Int)) == 1) = true from rfl, y136]
    have hh : hitx pl.length ss T 0 l[kk] = (l[kk] - (pl.length : Int) == (T : Int)) := by
     unfold hitx
     rw [y135 hx, Bool.true_and]
     show (l[kk] == ((pl.length + T : Nat) : Int)) = _
     rw [Bool.eq_iff_iff, beq_iff_eq, beq_iff_eq]; omega
    rw [hh]
    cases (l[kk] - (pl.length : Int) == (T : Int)) with
    | true => rw [y136, if_pos (by rw [q76]; omega), y138, hset]; rfl
    | false => rw [y137, y0 (by omega), y137, Bool.false_or]; exact ih (kk + 1) j (by omega) (by omega) (by omega)
   ·rw [y165.2 (by omega : ((L + 1 : Nat) : Int) ≠ 1), y137, y135 (p := ((L + 1 : Nat) : Int) > 1) (by omega), y136, if_pos (by rw [q76]; omega), q150 (by omega), y138, q28 (n := ((L + 1 : Nat) : Int) - 1) (by omega) (by omega)]
    have hh : hitx pl.length ss T L l[kk] = ((mix pl.length ss T L i (l[kk] - (pl.length : Int)).toNat : Int) == ((L + 1 : Nat) : Int) - 1) := by
     unfold hitx
     rw [y135 hx, Bool.true_and, y165.2 hL0, y137, Bool.eq_iff_iff, beq_iff_eq, beq_iff_eq]
     have := mix_eq (p := pl.length) (ss := ss) (T := T) (i := i) (q := (l[kk] - (pl.length : Int)).toNat) hL0
     rw [<- this]
     omega
    rw [hh]
    cases ((mix pl.length ss T L i (l[kk] - (pl.length : Int)).toNat : Int) == ((L + 1 : Nat) : Int) - 1) with
    | true => rw [y136, if_pos (by rw [q76]; omega), y138, hset]; rfl
    | false => rw [y137, Bool.false_or]; exact ih (kk + 1) j (by omega) (by omega) (by omega)
  ·have hh : hitx pl.length ss T L l[kk] = false := by unfold hitx; rw [y0 hx]; rfl
   rw [y0 (p := l[kk] - (pl.length : Int) >= 0) (by omega), y137, hh, Bool.false_or]
   exact ih (kk + 1) j (by omega) (by omega) (by omega)
theorem q686 {R : Type} (k : Nat) (pl : List Pln) (ss : List Stg) (os : List Int) (pr : Int) (T L : Nat) (e0 : List Pln -> List Stg -> List Int -> Int -> List Int -> Option R) (hg : Good (pl.length + ss.length) ss) (hp : pl.length + ss.length <= 900) (hL : L <= 1000) (hk : 1001 <= k) :
  ∀ (m i j : Nat), ss.length - i = m -> i <= ss.length -> m < j ->
  F111.loop1 k j T ((L + 1 : Nat) : Int) i pl ss os pr (stL (mix pl.length ss T L i) ss.length) e0 = e0 pl ss os pr (stL (Dn pl.length ss T (L + 1)) ss.length) := by
 intro m
 induction m with
 | zero =>
  intro i j hm hi hj
  obtain ⟨j, rfl⟩ : ∃ j', j = j' + 1 := ⟨j - 1, by omega⟩
  rw [F111.loop1_s, y0 (by rw [q76]; omega), y137, q419 (g := Dn pl.length ss T (L + 1)) fun q hq => by unfold mix; rw [if_pos (by omega)]]
 | succ m ih =>
  intro i j hm hi hj
  obtain ⟨j, rfl⟩ : ∃ j', j = j' + 1 := ⟨j - 1, by omega⟩
  have hlt : i < ss.length := by omega
  have hsl := q115 ss[i]
  have hss := hg _ (y160 hlt)
  have hhit : (srcs ss[i]).any (hitx pl.length ss T L) = hit pl.length ss T (Dn pl.length ss T L) L i := by
   unfold hit
   rw [y140 hlt]
   rfl
  rw [F111.loop1_s, y135 (by rw [q76]; omega), y136, if_pos (by omega), y139, y140 hlt, y138, q143]
  simp only [y138]
  rw [q22 i (by omega)]
  have next : stL (mix pl.length ss T L (i + 1)) ss.length = stL (mix pl.length ss T L (i + 1)) ss.length := rfl
  by_cases h0 : Dn pl.length ss T L i = 0
  ·have h := q730 (R := R) k pl ss os pr T L i (srcs ss[i]) (fun z3 z4 z5 z6 z7 => (F111.loop1 k j T ((L + 1 : Nat) : Int) ((i + 1 : Nat) : Int) z3 z4 z5 z6 z7 e0)) hp hss (by omega) hlt hL h0 (srcs ss[i]).length 0 k (by omega) (by omega) (by omega)
   rw [show ((0 : Nat) : Int) = 0 from rfl, y152] at h
   rw [h, hhit]
   have e : (bif hit pl.length ss T (Dn pl.length ss T L) L i then (stL (mix pl.length ss T L i) ss.length).set i ((L + 1 : Nat) : Int) else stL (mix pl.length ss T L i) ss.length) = stL (mix pl.length ss T L (i + 1)) ss.length := by
    have hne : ∀ q, q < ss.length -> q ≠ i -> mix pl.length ss T L i q = mix pl.length ss T L (i + 1) q := by
     intro q _ hq
     unfold mix
     by_cases h4 : q < i
     ·rw [if_pos h4, if_pos (by omega)]
     ·rw [if_neg h4, if_neg (by omega)]
    have hnew : Dn pl.length ss T (L + 1) i = bif hit pl.length ss T (Dn pl.length ss T L) L i then L + 1 else 0 := q232 h0
    cases hh : hit pl.length ss T (Dn pl.length ss T L) L i with
    | true =>
     rw [hh] at hnew
     exact stL_set hlt (by unfold mix; rw [if_pos (by omega), hnew]; rfl) hne
    | false =>
     rw [hh] at hnew
     refine q419 fun q hq => ?_
     by_cases e : q = i
     ·subst e; unfold mix; rw [if_neg (by omega), if_pos (by omega), h0, hnew]; rfl
     ·exact hne q hq e
   rw [e]
   exact ih (i + 1) j (by omega) (by omega) (by omega)
  ·have h := q396 (R := R) k k T L i 0 pl ss os pr (stL (mix pl.length ss T L i) ss.length) (srcs ss[i]) (Dn pl.length ss T L i) (fun z3 z4 z5 z6 z7 => (F111.loop1 k j T ((L + 1 : Nat) : Int) ((i + 1 : Nat) : Int) z3 z4 z5 z6 z7 e0)) (by omega) (by rw [q76]; omega) (by rw [y139, q150 hlt]; unfold mix; rw [if_neg (by omega)]) (by omega) (by omega)
   rw [h]
   have e : stL (mix pl.length ss T L i) ss.length = stL (mix pl.length ss T L (i + 1)) ss.length := by
    refine q419 fun q hq => ?_
    unfold mix
    by_cases e : q = i
    ·subst e; rw [if_neg (by omega), if_pos (by omega), q167 h0]
    ·by_cases h4 : q < i
     ·rw [if_pos h4, if_pos (by omega)]
     ·rw [if_neg h4, if_neg (by omega)]
   rw [e]
   exact ih (i + 1) j (by omega) (by omega) (by omega)
theorem q624 {R : Type} (k : Nat) (pl : List Pln) (ss : List Stg) (os : List Int) (pr : Int) (T : Nat) (e0 : List Int -> Option R) (hg : Good (pl.length + ss.length) ss) (hp : pl.length + ss.length <= 900) (hk : 1001 <= k) :
  ∀ (m L j : Nat), ss.length - L = m -> L <= ss.length -> m < j ->
  F111.loop0 k j T ((L + 1 : Nat) : Int) pl ss os pr (stL (Dn pl.length ss T L) ss.length) e0 = e0 (stL (dist pl.length ss T) ss.length) := by
 intro m
 induction m with
 | zero =>
  intro L j hm hL hj
  obtain ⟨j, rfl⟩ : ∃ j', j = j' + 1 := ⟨j - 1, by omega⟩
  rw [F111.loop0_s, y0 (by omega), y137, show L = ss.length by omega]; rfl
 | succ m ih =>
  intro L j hm hL hj
  obtain ⟨j, rfl⟩ : ∃ j', j = j' + 1 := ⟨j - 1, by omega⟩
  rw [F111.loop0_s, y135 (by omega), y136]
  have h := q686 (R := R) k pl ss os pr T L (fun z1 z2 z3 z4 z5 => (F111.loop0 k j T (w64 (((L + 1 : Nat) : Int) + 1)) z1 z2 z3 z4 z5 e0)) hg hp (by omega) hk ss.length 0 k (by omega) (by omega) (by omega)
  rw [show ((0 : Nat) : Int) = 0 from rfl, q419 (f := mix pl.length ss T L 0) (g := Dn pl.length ss T L) fun q hq => by unfold mix; rw [if_neg (by omega)]] at h
  rw [h, q22 (L + 1) (by omega)]
  exact ih (L + 1) j (by omega) (by omega) (by omega)
theorem q577 {k : Nat} (pl : List Pln) (ss : List Stg) (os : List Int) (pr : Int) (T : Nat) (hg : Good (pl.length + ss.length) ss) (hp : pl.length + ss.length <= 900) (hk : 1001 <= k) :
  F111 k (pl, ss, os, pr) T = some ((stL (dist pl.length ss T) ss.length, ()), ()) := by
 unfold F111
 rw [if_pos (by show 0 <= (ss.length : Int) /\ (ss.length : Int) <= ss.length /\ (ss.length : Int) * ((8 : Nat) : Int) <= 140737488355328; omega)]
 have e : List.replicate ((ss.length : Int).toNat) (0 : Int) = stL (Dn pl.length ss T 0) ss.length := by
  rw [y139]
  apply List.ext_getElem?
  intro q
  by_cases hq : q < ss.length
  ·rw [q150 hq, List.getElem?_replicate, if_pos hq]; rfl
  ·rw [y158 (by simp; omega), y158 (by rw [q76]; omega)]
 have h := q624 (R := (List Int × Unit) × Unit) k pl ss os pr T (fun z6 => (some ((z6, ()), ()))) hg hp hk ss.length 0 k (by omega) (by omega) (by omega)
 rw [<- e] at h
 exact h
end
end Go.Lf.T

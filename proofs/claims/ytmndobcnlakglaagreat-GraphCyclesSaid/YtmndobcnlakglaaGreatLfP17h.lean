import Derived.Test.YtmndobcnlakglaaGreatLfP17g
set_option linter.unusedVariables false
set_option maxRecDepth 100000
namespace Go.Lf.T
open Go Go.Lf
def hit (p : Nat) (ss : List Stg) (T : Nat) (f : Nat -> Nat) (L i : Nat) : Bool := match ss[i]? with
 | none => false
 | some st => (srcs st).any fun x => decide ((p : Int) <= x) && (bif L == 0 then x == ((p + T : Nat) : Int) else f (x - p).toNat == L)
def Dn (p : Nat) (ss : List Stg) (T : Nat) : Nat -> Nat -> Nat
 | 0, _ => 0
 | L + 1, i => bif Dn p ss T L i == 0 then (bif hit p ss T (Dn p ss T L) L i then L + 1 else 0) else Dn p ss T L i
section
variable {p : Nat} {ss : List Stg} {T : Nat}
theorem q167 {L i : Nat} (h : Dn p ss T L i ≠ 0) : Dn p ss T (L + 1) i = Dn p ss T L i := by
 show (bif Dn p ss T L i == 0 then _ else _) = _
 rw [y165.2 h]; rfl
theorem q232 {L i : Nat} (h : Dn p ss T L i = 0) : Dn p ss T (L + 1) i = bif hit p ss T (Dn p ss T L) L i then L + 1 else 0 := by
 show (bif Dn p ss T L i == 0 then _ else _) = _
 rw [h]; rfl
theorem q345 : ∀ (L i : Nat), Dn p ss T L i <= L
 | 0, _ => Nat.le_refl _
 | L + 1, i => by
  have := q345 L i
  by_cases h : Dn p ss T L i = 0
  ·rw [q232 h]; cases hit p ss T (Dn p ss T L) L i <;> simp
  ·rw [q167 h]; omega
theorem q522 {L i : Nat} (h : Dn p ss T L i ≠ 0) : ∀ k, Dn p ss T (L + k) i = Dn p ss T L i
 | 0 => rfl
 | k + 1 => by
  have := q522 h k
  rw [show L + (k + 1) = L + k + 1 by omega, q167 (by rw [this]; exact h), this]
theorem q560 : ∀ {L i v : Nat}, Dn p ss T L i = v -> v ≠ 0 -> Dn p ss T v i = v /\ Dn p ss T (v - 1) i = 0 /\ hit p ss T (Dn p ss T (v - 1)) (v - 1) i = true
 | 0, i, v, h, hv => absurd h.symm hv
 | L + 1, i, v, h, hv => by
  by_cases h0 : Dn p ss T L i = 0
  ·rw [q232 h0] at h
   cases hh : hit p ss T (Dn p ss T L) L i with
   | false => rw [hh] at h; exact absurd h.symm hv
   | true =>
    rw [hh] at h
    have h' : L + 1 = v := h
    subst h'
    exact ⟨by rw [q232 h0, hh]; rfl, h0, hh⟩
  ·rw [q167 h0] at h
   exact q560 h hv
theorem Dn_at {L v i : Nat} (hv : v ≠ 0) (hl : v <= L) : Dn p ss T L i = v ↔ Dn p ss T v i = v := by
 constructor
 ·intro h; exact (q560 h hv).1
 ·intro h
  obtain ⟨k, rfl⟩ := Nat.exists_eq_add_of_le hl
  rw [q522 (by rw [h]; exact hv), h]
def stab (p : Nat) (ss : List Stg) (T L : Nat) : Prop := ∀ i, i < ss.length -> Dn p ss T (L + 1) i = Dn p ss T L i
theorem q481 (hg : Good (p + ss.length) ss) {L : Nat} (h : ∀ i, i < ss.length -> Dn p ss T (L + 1) i ≠ L + 1) : stab p ss T (L + 1) := by
 intro i hi
 by_cases h0 : Dn p ss T (L + 1) i = 0
 ·rw [q232 h0, h0]
  cases hh : hit p ss T (Dn p ss T (L + 1)) (L + 1) i with
  | false => rfl
  | true =>
   unfold hit at hh
   rw [y140 hi] at hh
   obtain ⟨x, hx, hx2⟩ := List.any_eq_true.1 hh
   rw [y144] at hx2
   have h1 := of_decide_eq_true hx2.1
   have h2 : Dn p ss T (L + 1) (x - p).toNat = L + 1 := by simpa using hx2.2
   have := hg _ (y160 hi) x hx
   exact absurd h2 (h _ (by omega))
 ·rw [q167 h0]
theorem q406 (hg : Good (p + ss.length) ss) {L : Nat} (h : stab p ss T L) : ∀ i, i < ss.length -> Dn p ss T (L + 1) i ≠ L + 1 := by
 intro i hi e
 rw [h i hi] at e
 have := q345 (p := p) (ss := ss) (T := T) L i
 omega
theorem q218 (hg : Good (p + ss.length) ss) {L : Nat} (h : stab p ss T L) : ∀ k i, i < ss.length -> Dn p ss T (L + k) i = Dn p ss T L i := by
 have hs : ∀ k, stab p ss T (L + k) := by
  intro k
  induction k with
  | zero => exact h
  | succ k ih => exact q481 hg (q406 hg ih)
 intro k
 induction k with
 | zero => intro i _; rfl
 | succ k ih => intro i hi; rw [show L + (k + 1) = L + k + 1 by omega, hs k i hi, ih i hi]
def cnt (f : Nat -> Nat) : Nat -> Nat
 | 0 => 0
 | n + 1 => cnt f n + if f n = 0 then 0 else 1
theorem cnt_le (f : Nat -> Nat) : ∀ n, cnt f n <= n
 | 0 => Nat.le_refl _
 | n + 1 => by have := cnt_le f n; unfold cnt; split <;> omega
theorem q557 {f g : Nat -> Nat} : ∀ n, (∀ i, i < n -> f i ≠ 0 -> g i ≠ 0) -> cnt f n <= cnt g n
 | 0, _ => Nat.le_refl _
 | n + 1, h => by
  have := q557 n fun i hi => h i (by omega)
  have h2 := h n (by omega)
  unfold cnt
  by_cases h3 : f n = 0
  ·rw [if_pos h3]; omega
  ·rw [if_neg h3, if_neg (h2 h3)]; omega
theorem cnt_lt {f g : Nat -> Nat} : ∀ n, (∀ i, i < n -> f i ≠ 0 -> g i ≠ 0) -> (∃ i, i < n /\ f i = 0 /\ g i ≠ 0) -> cnt f n < cnt g n
 | 0, _, h => by obtain ⟨i, hi, _⟩ := h; omega
 | n + 1, h, hx => by
  obtain ⟨i, hi, h1, h2⟩ := hx
  by_cases e : i = n
  ·subst e
   have := q557 i fun q hq => h q (by omega)
   unfold cnt
   rw [if_pos h1, if_neg h2]; omega
  ·have := cnt_lt n (fun q hq => h q (by omega)) ⟨i, by omega, h1, h2⟩
   have h3 := h n (by omega)
   unfold cnt
   by_cases h4 : f n = 0
   ·rw [if_pos h4]; omega
   ·rw [if_neg h4, if_neg (h3 h4)]; omega
theorem stab_n (hg : Good (p + ss.length) ss) : ∃ L, L <= ss.length /\ stab p ss T L := by
 refine y146 fun hno => ?_
 have hno' : ∀ L, L <= ss.length -> ¬ stab p ss T L := fun L hl hs => hno ⟨L, hl, hs⟩
 have : ∀ L, L <= ss.length + 1 -> L <= cnt (Dn p ss T L) ss.length := by
  intro L
  induction L with
  | zero => intro _; exact Nat.zero_le _
  | succ L ih =>
   intro hl
   have h1 := ih (by omega)
   have h2 : ∃ i, i < ss.length /\ Dn p ss T L i = 0 /\ Dn p ss T (L + 1) i ≠ 0 := by
    refine y146 fun hn => hno' L (by omega) fun i hi => ?_
    by_cases h0 : Dn p ss T L i = 0
    ·rw [h0]; exact y146 fun h1 => hn ⟨i, hi, h0, h1⟩
    ·exact q167 h0
   have h3 := cnt_lt ss.length (f := Dn p ss T L) (g := Dn p ss T (L + 1)) (fun i _ h => by rw [q167 h]; exact h) h2
   omega
 have h1 := this (ss.length + 1) (Nat.le_refl _)
 have h2 := cnt_le (Dn p ss T (ss.length + 1)) ss.length
 omega
def dist (p : Nat) (ss : List Stg) (T i : Nat) : Nat := Dn p ss T ss.length i
theorem q733 (hg : Good (p + ss.length) ss) {L : Nat} (h : stab p ss T L) : ∀ i, i < ss.length -> Dn p ss T L i = dist p ss T i := by
 intro i hi
 obtain ⟨L0, hl0, hs0⟩ := stab_n (T := T) hg
 have h1 : dist p ss T i = Dn p ss T L0 i := by
  unfold dist
  obtain ⟨k, hk⟩ := Nat.exists_eq_add_of_le hl0
  rw [hk]; exact q218 hg hs0 k i hi
 rw [h1]
 rcases Nat.le_total L L0 with h2 | h2
 ·obtain ⟨k, rfl⟩ := Nat.exists_eq_add_of_le h2
  exact (q218 hg h k i hi).symm
 ·obtain ⟨k, rfl⟩ := Nat.exists_eq_add_of_le h2
  exact q218 hg hs0 k i hi
theorem q465 (hg : Good (p + ss.length) ss) : stab p ss T ss.length := by
 obtain ⟨L0, hl0, hs0⟩ := stab_n (T := T) hg
 intro i hi
 obtain ⟨k, hk⟩ := Nat.exists_eq_add_of_le hl0
 rw [hk, show L0 + k + 1 = L0 + (k + 1) by omega, q218 hg hs0 _ i hi, q218 hg hs0 _ i hi]
theorem q504 {x y v : Int} : ∀ (m : List (Int × Int)), mhas x (mset y v m) = (x == y || mhas x m)
 | [] => by simp [mset, mhas]
 | (k, w) :: m => by
  unfold mset
  cases h : y == k with
  | true =>
   have := eq_of_beq h
   subst this
   simp only [y136, mhas]
   cases x == y <;> rfl
  | false =>
   simp only [y137, mhas]
   rw [q504 m, <- Bool.or_assoc, <- Bool.or_assoc, Bool.or_comm (x == k)]
theorem q485 {x y v : Int} : ∀ (m : List (Int × Int)), mget x 0 (mset y v m) = if x = y then v else mget x 0 m
 | [] => by
  simp only [mset, mget]
  by_cases h : x = y
  ·rw [if_pos h, beq_iff_eq.2 h]; rfl
  ·rw [if_neg h, y165.2 h]; rfl
 | (k, w) :: m => by
  unfold mset
  cases h : y == k with
  | true =>
   have := eq_of_beq h
   subst this
   simp only [y136, mget]
   by_cases h2 : x = y
   ·rw [if_pos h2, beq_iff_eq.2 h2]; rfl
   ·rw [if_neg h2, y165.2 h2]; rfl
  | false =>
   simp only [y137, mget]
   rw [q485 m]
   by_cases h2 : x = y
   ·subst h2
    rw [h, if_pos rfl, if_pos rfl]; rfl
   ·rw [if_neg h2, if_neg h2]
theorem q634 {R : Type} (k : Nat) (l : List Int) (x : Int) (e0 : Int -> Option R) (e1 : Unit -> Option R) (hlen : l.length <= 1000) : ∀ (m i j : Nat), l.length - i = m -> i <= l.length -> m < j ->
  ∃ r : Option Nat, r.isSome = (l.drop i).contains x /\ F17.loop0 k j l x l.length i e0 e1 = match r with | none => e1 () | some q => e0 (q : Nat) := by
 intro m
 induction m with
 | zero =>
  intro i j hm hi hj
  obtain ⟨j, rfl⟩ : ∃ j', j = j' + 1 := ⟨j - 1, by omega⟩
  refine ⟨none, ?_, ?_⟩
  ·rw [show i = l.length by omega, y157]; rfl
  ·rw [F17.loop0_s, y0 (by omega), y137]
 | succ m ih =>
  intro i j hm hi hj
  obtain ⟨j, rfl⟩ : ∃ j', j = j' + 1 := ⟨j - 1, by omega⟩
  have hlt : i < l.length := by omega
  rw [F17.loop0_s, y135 (by omega), y136, if_pos (by omega), y139, y140 hlt, y138, y147 hlt, List.contains_cons]
  cases h : x == l[i] with
  | true => exact ⟨some i, rfl, rfl⟩
  | false =>
   obtain ⟨r, h1, h2⟩ := ih (i + 1) j (by omega) (by omega) (by omega)
   refine ⟨r, by rw [Bool.false_or]; exact h1, ?_⟩
   rw [y137, q22 i (by omega)]
   exact h2
theorem q521 {k : Nat} (l : List Int) (x : Int) (hlen : l.length <= 1000) (hk : 1001 <= k) : F18 k l x = some ((l.contains x, ()), ()) := by
 unfold F18 F17
 obtain ⟨r, h1, h2⟩ := q634 k l x (fun (z2 : Int) => (some ((z2, ()), ()))) (fun (_ : Unit) => (some (((-1), ()), ()))) hlen l.length 0 k (by omega) (by omega) (by omega)
 rw [show ((0 : Nat) : Int) = 0 from rfl] at h2
 rw [h2]
 rw [y152] at h1
 cases r with
 | none => simp only [y138, <- h1]; rfl
 | some q => simp only [y138, <- h1]; rw [y135 (by omega)]; rfl
theorem q667 {R : Type} (k : Nat) (l fr : List Int) (e0 : Int -> List Int -> Option R) (e1 : List Int -> Option R) (hlen : l.length <= 1000) (hf : fr.length <= 1000) (hk : 1001 <= k) : ∀ (m i j : Nat), l.length - i = m -> i <= l.length -> m < j ->
  ∃ r : Option Nat, r.isSome = (l.drop i).any (fun x => fr.contains x) /\ F20.loop0 k j l l.length i fr e0 e1 = match r with | none => e1 fr | some q => e0 (q : Nat) fr := by
 intro m
 induction m with
 | zero =>
  intro i j hm hi hj
  obtain ⟨j, rfl⟩ : ∃ j', j = j' + 1 := ⟨j - 1, by omega⟩
  refine ⟨none, ?_, ?_⟩
  ·rw [show i = l.length by omega, y157]; rfl
  ·rw [F20.loop0_s, y0 (by omega), y137]
 | succ m ih =>
  intro i j hm hi hj
  obtain ⟨j, rfl⟩ : ∃ j', j = j' + 1 := ⟨j - 1, by omega⟩
  have hlt : i < l.length := by omega
  rw [F20.loop0_s, y135 (by omega), y136, if_pos (by omega), y139, y140 hlt, y138, y147 hlt, List.any_cons]
  unfold F19
  rw [q521 _ _ hf hk]
  simp only [y138]
  cases h : fr.contains l[i] with
  | true => exact ⟨some i, rfl, rfl⟩
  | false =>
   obtain ⟨r, h1, h2⟩ := ih (i + 1) j (by omega) (by omega) (by omega)
   refine ⟨r, by rw [Bool.false_or]; exact h1, ?_⟩
   rw [y137, q22 i (by omega)]
   exact h2
theorem cany_ok {k : Nat} (l fr : List Int) (hlen : l.length <= 1000) (hf : fr.length <= 1000) (hk : 1001 <= k) : F21 k l fr = some ((l.any (fun x => fr.contains x), ()), (fr, ())) := by
 unfold F21 F20
 obtain ⟨r, h1, h2⟩ := q667 k l fr (fun (z3 : Int) (z4 : List Int) => (some ((z3, ()), (z4, ())))) (fun (z5 : List Int) => (some (((-1), ()), (z5, ())))) hlen hf hk l.length 0 k (by omega) (by omega) (by omega)
 rw [show ((0 : Nat) : Int) = 0 from rfl] at h2
 rw [h2]
 rw [y152] at h1
 cases r with
 | none => simp only [y138, <- h1]; rfl
 | some q => simp only [y138, <- h1]; rw [y135 (by omega)]; rfl
def rep (p n : Nat) (f : Nat -> Nat) (m : List (Int × Int)) : Prop :=
 (∀ x : Int, mhas x m = true ↔ ∃ i, i < n /\ x = ((p + i : Nat) : Int) /\ f i ≠ 0) /\ ∀ i, i < n -> f i ≠ 0 -> mget ((p + i : Nat) : Int) 0 m = (f i : Int)
def mix (p : Nat) (ss : List Stg) (T L i q : Nat) : Nat := if q < i then Dn p ss T (L + 1) q else Dn p ss T L q
theorem q175 {n : Nat} {f g : Nat -> Nat} {m : List (Int × Int)} (h : rep p n f m) (hfg : ∀ i, i < n -> f i = g i) : rep p n g m := by
 refine ⟨fun x => ⟨fun hx => ?_, fun ⟨i, h1, h2, h3⟩ => ?_⟩, fun i hi h0 => ?_⟩
 ·obtain ⟨i, h1, h2, h3⟩ := (h.1 x).1 hx
  exact ⟨i, h1, h2, by rw [<- hfg i h1]; exact h3⟩
 ·exact (h.1 x).2 ⟨i, h1, h2, by rw [hfg i h1]; exact h3⟩
 ·rw [<- hfg i hi] at h0 ⊢; exact h.2 i hi h0
def q450 (p : Nat) (ss : List Stg) (T L : Nat) (fr : List Int) : Prop := ∀ x : Int, x ∈ fr ↔ (L = 0 /\ x = ((p + T : Nat) : Int)) \/ (L ≠ 0 /\ ∃ i, i < ss.length /\ x = ((p + i : Nat) : Int) /\ Dn p ss T L i = L)
theorem q677 {L : Nat} {fr : List Int} (hf : q450 p ss T L fr) {i : Nat} (hi : i < ss.length) (hg : Good (p + ss.length) ss) : (srcs ss[i]).any (fun x => fr.contains x) = hit p ss T (Dn p ss T L) L i := by
 unfold hit
 rw [y140 hi]
 have hss := hg _ (y160 hi)
 rw [Bool.eq_iff_iff]
 simp only [List.any_eq_true]
 have key : ∀ x ∈ srcs ss[i], fr.contains x = (decide ((p : Int) <= x) && (bif L == 0 then x == ((p + T : Nat) : Int) else Dn p ss T L (x - p).toNat == L)) := by
  intro x hx
  have hx2 := hss x hx
  rw [Bool.eq_iff_iff, y144, decide_eq_true_eq, List.contains_iff_mem, hf x]
  by_cases h0 : L = 0
  ·subst h0
   simp only [true_and, ne_eq, not_true, false_and, or_false, y170, y136, beq_iff_eq]
   exact ⟨fun h => ⟨by omega, h⟩, fun h => h.2⟩
  ·rw [y165.2 h0, y137, beq_iff_eq]
   constructor
   ·rintro (h | ⟨_, q, h1, h2, h3⟩)
    ·exact absurd h.1 h0
    ·refine ⟨by omega, ?_⟩
     rw [show (x - p).toNat = q by omega]; exact h3
   ·rintro ⟨h1, h2⟩
    exact .inr ⟨h0, (x - p).toNat, by omega, by omega, h2⟩
 constructor
 ·rintro ⟨x, hx, h⟩
  exact ⟨x, hx, by rw [<- key x hx]; exact h⟩
 ·rintro ⟨x, hx, h⟩
  exact ⟨x, hx, by rw [key x hx]; exact h⟩
theorem far_loop {R : Type} (k : Nat) (pl : List Pln) (ss : List Stg) (os : List Int) (pr : Int) (T L : Nat) (fr : List Int) (e0 : List Pln -> List Stg -> List Int -> Int -> List (Int × Int) -> List Int -> List Int -> Option R) (hg : Good (pl.length + ss.length) ss) (hp : pl.length + ss.length <= 900) (hL : L <= 1000) (hk : 1001 <= k) (hf : q450 pl.length ss T L fr) (hfl : fr.length <= 1000) :
  ∀ (n i j : Nat) (m : List (Int × Int)) (nx : List Int), ss.length - i = n -> i <= ss.length -> n < j -> rep pl.length ss.length (mix pl.length ss T L i) m -> nx.length <= i -> (∀ x : Int, x ∈ nx ↔ ∃ q, q < i /\ x = ((pl.length + q : Nat) : Int) /\ Dn pl.length ss T (L + 1) q = L + 1) ->
  ∃ m' nx', F22.loop1 k j ((L + 1 : Nat) : Int) ss ss.length i pl ss os pr m fr nx e0 = e0 pl ss os pr m' fr nx' /\ rep pl.length ss.length (Dn pl.length ss T (L + 1)) m' /\ nx'.length <= ss.length /\ q450 pl.length ss T (L + 1) nx' := by
 intro n
 induction n with
 | zero =>
  intro i j m nx hn hi hj hm hnl hnx
  obtain ⟨j, rfl⟩ : ∃ j', j = j' + 1 := ⟨j - 1, by omega⟩
  have hie : i = ss.length := by omega
  subst hie
  refine ⟨m, nx, ?_, q175 hm fun q hq => if_pos hq, hnl, fun x => ?_⟩
  ·rw [F22.loop1_s, y0 (by omega), y137]
  ·rw [hnx x]
   exact ⟨fun h => .inr ⟨by omega, h⟩, fun h => h.elim (fun h => absurd h.1 (by omega)) fun h => h.2⟩
 | succ n ih =>
  intro i j m nx hn hi hj hm hnl hnx
  obtain ⟨j, rfl⟩ : ∃ j', j = j' + 1 := ⟨j - 1, by omega⟩
  have hlt : i < ss.length := by omega
  have hsl := q115 ss[i]
  have hmi : mhas ((pl.length + i : Nat) : Int) m = (Dn pl.length ss T L i != 0) := by
   rw [Bool.eq_iff_iff, hm.1, bne_iff_ne]
   constructor
   ·rintro ⟨q, h1, h2, h3⟩
    have : q = i := by omega
    subst this
    unfold mix at h3
    rw [if_neg (by omega)] at h3; exact h3
   ·intro h
    exact ⟨i, hlt, rfl, by unfold mix; rw [if_neg (by omega)]; exact h⟩
  rw [F22.loop1_s, y135 (by omega), y136, if_pos (by omega), y139, y140 hlt, y138, <- Int.natCast_add, q86 (pl.length + i) (by omega), hmi, q22 i (by omega)]
  cases hb : (Dn pl.length ss T L i != 0) with
  | true =>
   have h0 : Dn pl.length ss T L i ≠ 0 := by simpa using hb
   rw [y136]
   refine ih (i + 1) j m nx (by omega) (by omega) (by omega) (q175 hm fun q hq => ?_) (by omega) fun x => ?_
   ·unfold mix
    by_cases e : q = i
    ·subst e; rw [if_neg (by omega), if_pos (by omega), q167 h0]
    ·by_cases h1 : q < i
     ·rw [if_pos h1, if_pos (by omega)]
     ·rw [if_neg h1, if_neg (by omega)]
   ·rw [hnx x]
    constructor
    ·rintro ⟨q, h1, h2, h3⟩; exact ⟨q, by omega, h2, h3⟩
    ·rintro ⟨q, h1, h2, h3⟩
     by_cases e : q = i
     ·subst e
      rw [q167 h0] at h3
      have := q345 (p := pl.length) (ss := ss) (T := T) L q
      omega
     ·exact ⟨q, by omega, h2, h3⟩
  | false =>
   have h0 : Dn pl.length ss T L i = 0 := by simpa using hb
   rw [y137, q136]
   simp only [y138]
   rw [cany_ok _ _ (by omega) hfl hk]
   simp only [y138]
   rw [q677 hf hlt hg]
   cases hh : hit pl.length ss T (Dn pl.length ss T L) L i with
   | false =>
    rw [y137]
    have h1' : Dn pl.length ss T (L + 1) i = 0 := by rw [q232 h0, hh]; rfl
    refine ih (i + 1) j m nx (by omega) (by omega) (by omega) (q175 hm fun q hq => ?_) (by omega) fun x => ?_
    ·unfold mix
     by_cases e : q = i
     ·subst e; rw [if_neg (by omega), if_pos (by omega), h0, h1']
     ·by_cases h1 : q < i
      ·rw [if_pos h1, if_pos (by omega)]
      ·rw [if_neg h1, if_neg (by omega)]
    ·rw [hnx x]
     constructor
     ·rintro ⟨q, h1, h2, h3⟩; exact ⟨q, by omega, h2, h3⟩
     ·rintro ⟨q, h1, h2, h3⟩
      by_cases e : q = i
      ·subst e; rw [h1'] at h3; omega
      ·exact ⟨q, by omega, h2, h3⟩
   | true =>
    have h1' : Dn pl.length ss T (L + 1) i = L + 1 := by rw [q232 h0, hh]; rfl
    rw [y136, if_pos (by rw [y148, y159]; omega)]
    refine ih (i + 1) j _ _ (by omega) (by omega) (by omega) ⟨fun x => ?_, fun q hq hq0 => ?_⟩ (by rw [y148, y159]; omega) fun x => ?_
    ·rw [q504, Bool.or_eq_true, beq_iff_eq, hm.1]
     constructor
     ·rintro (h | ⟨q, h1, h2, h3⟩)
      ·exact ⟨i, hlt, h, by unfold mix; rw [if_pos (by omega), h1']; omega⟩
      ·refine ⟨q, h1, h2, ?_⟩
       unfold mix at h3 ⊢
       by_cases e : q = i
       ·subst e; rw [if_pos (by omega), h1']; omega
       ·by_cases h4 : q < i
        ·rw [if_pos h4] at h3; rw [if_pos (by omega)]; exact h3
        ·rw [if_neg h4] at h3; rw [if_neg (by omega)]; exact h3
     ·rintro ⟨q, h1, h2, h3⟩
      by_cases e : q = i
      ·subst e; exact .inl h2
      ·refine .inr ⟨q, h1, h2, ?_⟩
       unfold mix at h3 ⊢
       by_cases h4 : q < i
       ·rw [if_pos (by omega)] at h3; rw [if_pos h4]; exact h3
       ·rw [if_neg (by omega)] at h3; rw [if_neg h4]; exact h3
    ·rw [q485]
     by_cases e : q = i
     ·subst e
      rw [if_pos rfl]
      unfold mix
      rw [if_pos (by omega), h1']
     ·rw [if_neg (by omega)]
      have e2 : mix pl.length ss T L (i + 1) q = mix pl.length ss T L i q := by
       unfold mix
       by_cases h4 : q < i
       ·rw [if_pos (by omega), if_pos h4]
       ·rw [if_neg (by omega), if_neg h4]
      rw [e2] at hq0 ⊢
      exact hm.2 q hq hq0
    ·rw [y151, y161, hnx x]
     constructor
     ·rintro (⟨q, h1, h2, h3⟩ | h)
      ·exact ⟨q, by omega, h2, h3⟩
      ·exact ⟨i, by omega, h, h1'⟩
     ·rintro ⟨q, h1, h2, h3⟩
      by_cases e : q = i
      ·subst e; exact .inr h2
      ·exact .inl ⟨q, by omega, h2, h3⟩
theorem q713 {R : Type} (k : Nat) (pl : List Pln) (ss : List Stg) (os : List Int) (pr : Int) (T : Nat) (e0 : List (Int × Int) -> Option R) (hg : Good (pl.length + ss.length) ss) (hp : pl.length + ss.length <= 900) (hk : 1001 <= k) :
  ∀ (n L j : Nat) (m : List (Int × Int)) (fr : List Int), ss.length + 1 - L = n -> L <= ss.length + 1 -> n < j -> rep pl.length ss.length (Dn pl.length ss T L) m -> q450 pl.length ss T L fr -> fr.length <= 1000 ->
  ∃ m', F22.loop0 k j ((L + 1 : Nat) : Int) pl ss os pr m fr e0 = e0 m' /\ rep pl.length ss.length (dist pl.length ss T) m' := by
 intro n
 induction n with
 | zero =>
  intro L j m fr hn hL hj hm hf hfl
  obtain ⟨j, rfl⟩ : ∃ j', j = j' + 1 := ⟨j - 1, by omega⟩
  have hLe : L = ss.length + 1 := by omega
  subst hLe
  have hst := q465 (T := T) hg
  have hemp : fr = [] := by
   cases hfr : fr with
   | nil => rfl
   | cons x l =>
    have := (hf x).1 (by rw [hfr]; exact y169)
    rcases this with h | ⟨_, i, h1, _, h3⟩
    ·exact absurd h.1 (by omega)
    ·exact absurd h3 (q406 hg hst i h1)
  subst hemp
  refine ⟨m, ?_, q175 hm fun i hi => ?_⟩
  ·rw [F22.loop0_s, y0 (by simp), y137]
  ·exact q218 hg hst 1 i hi
 | succ n ih =>
  intro L j m fr hn hL hj hm hf hfl
  obtain ⟨j, rfl⟩ : ∃ j', j = j' + 1 := ⟨j - 1, by omega⟩
  rw [F22.loop0_s]
  cases hfr : fr with
  | nil =>
   refine ⟨m, by rw [y0 (by simp), y137], q175 hm fun i hi => ?_⟩
   have hne : ∀ i, i < ss.length -> Dn pl.length ss T L i ≠ L \/ L = 0 := by
    intro i hi
    by_cases h0 : L = 0
    ·exact .inr h0
    ·refine .inl fun e => ?_
     have := (hf ((pl.length + i : Nat) : Int)).2 (.inr ⟨h0, i, hi, rfl, e⟩)
     rw [hfr] at this; cases this
   by_cases h0 : L = 0
   ·have := (hf ((pl.length + T : Nat) : Int)).2 (.inl ⟨h0, rfl⟩)
    rw [hfr] at this; cases this
   ·obtain ⟨L', rfl⟩ : ∃ L', L = L' + 1 := ⟨L - 1, by omega⟩
    exact q733 hg (q481 hg fun i hi => (hne i hi).elim id fun h => absurd h h0) i hi
  | cons x l =>
   rw [<- hfr, y135 (by rw [hfr, y167]; omega), y136]
   obtain ⟨m', nx', h1, h2, h3, h4⟩ := far_loop k pl ss os pr T L fr (fun z1 z2 z3 z4 z5 z6 z7 => (F22.loop0 k j (w64 (((L + 1 : Nat) : Int) + 1)) z1 z2 z3 z4 z5 z7 e0)) hg hp (by omega) hk hf hfl ss.length 0 k m [] (by omega) (by omega) (by omega) (q175 hm fun q hq => by unfold mix; rw [if_neg (by omega)]) (by simp) (fun x => ⟨fun h => (by cases h), fun ⟨q, h, _⟩ => (by omega)⟩)
   rw [show ((0 : Nat) : Int) = 0 from rfl] at h1
   rw [h1, q22 (L + 1) (by omega)]
   exact ih (L + 1) j m' nx' (by omega) (by omega) (by omega) h2 h4 (by omega)
theorem q496 {k : Nat} (pl : List Pln) (ss : List Stg) (os : List Int) (pr : Int) (T : Nat) (hg : Good (pl.length + ss.length) ss) (hp : pl.length + ss.length <= 900) (hk : 1001 <= k) :
  ∃ m, F22 k (pl, ss, os, pr) ((pl.length + T : Nat) : Int) = some ((m, ()), ()) /\ rep pl.length ss.length (dist pl.length ss T) m := by
 unfold F22
 obtain ⟨m, h1, h2⟩ := q713 (R := (List (Int × Int) × Unit) × Unit) k pl ss os pr T (fun z8 => (some ((z8, ()), ()))) hg hp hk (ss.length + 1) 0 k [] [((pl.length + T : Nat) : Int)] (by omega) (by omega) (by omega)
  ⟨fun x => ⟨fun h => (by cases h), fun ⟨i, _, _, h⟩ => absurd rfl h⟩, fun i _ h => absurd rfl h⟩ (fun x => by
   rw [y161]
   exact ⟨fun h => .inl ⟨rfl, h⟩, fun h => h.elim (fun h => h.2) fun h => absurd rfl h.1⟩) (by simp)
 exact ⟨m, h1, h2⟩
end
end Go.Lf.T

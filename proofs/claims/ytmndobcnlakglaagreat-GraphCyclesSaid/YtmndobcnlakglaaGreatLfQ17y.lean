import Derived.Test.YtmndobcnlakglaaGreatLfQ17z
set_option linter.unusedVariables false
set_option maxRecDepth 100000
namespace Go.Lf.T
open Go Go.Lf
theorem acc2 (k : Nat) (v : Int × Int) : (F84 k v.1).bind (fun (y : (Bool × Unit) × (Unit)) => bif y.1.1 then ((F84 k v.2).bind fun (y4 : (Bool × Unit) × (Unit)) => some ((v, y4.1.1, ()), ())) else (some ((v, false, ()), ()))) = some ((v, decide (inP v), ()), ()) := by
 rw [q500, q500]
 by_cases h1 : inM v.1 <;> simp [h1, inP]
theorem rnext_ok (k : Nat) {o : Int × Int} {x y : Int × Int} {a b : Int} (hx : inP x) (hy : inP y) (c1 : 0 <= o.1) (c2 : o.1 <= 11) (ha : argB o = true) : ∃ v, F103 k o x y a b = some ((v, decide (inP (q203 a b o x y)), ()), ()) /\ (inP (q203 a b o x y) -> v = q203 a b o x y) := by
 obtain ⟨x1, x2⟩ := hx
 obtain ⟨y1, y2⟩ := hy
 have a1 := x1; have a2 := x2; have b1 := y1; have b2 := y2
 unfold inM at a1 a2 b1 b2
 have n1 := q398.1 x1
 have n2 := q398.1 x2
 have m1 := q75 x.1
 have m2 := q75 x.2
 have hn : 0 <= mm true (ab x.1) (ab x.2) /\ mm true (ab x.1) (ab x.2) <= 17592186044416 := by rw [q237]; split <;> omega
 unfold F103 q203 comb
 rw [q669 k (n := x.1) (by omega) (by omega), q669 k (n := x.2) (by omega) (by omega)]
 simp only [y138]
 rw [q28 (n := x.1 + y.1) (by omega) (by omega), q28 (n := x.2 + y.2) (by omega) (by omega), q28 (n := x.1 - y.2) (by omega) (by omega), q28 (n := x.2 - y.1) (by omega) (by omega), q28 (n := y.2 - x.1) (by omega) (by omega), q28 (n := 0 - mm true (ab x.1) (ab x.2)) (by omega) (by omega)]
 by_cases h0 : o.1 = 0
 ·rw [show (o.1 == 0) = true by simpa using h0, if_pos h0]
  exact ⟨(0, a), acc2 k (0, a), fun _ => rfl⟩
 rw [show (o.1 == 0) = false by simpa using h0, if_neg h0, y137]
 by_cases h1 : o.1 = 1
 ·rw [show (o.1 == 1) = true by simpa using h1, if_pos h1]
  exact ⟨(0, b), acc2 k (0, b), fun _ => rfl⟩
 rw [show (o.1 == 1) = false by simpa using h1, if_neg h1, y137]
 by_cases h2 : o.1 = 2
 ·rw [show (o.1 == 2) = true by simpa using h2, if_pos h2]
  exact ⟨(o.2, o.2), acc2 k (o.2, o.2), fun _ => rfl⟩
 rw [show (o.1 == 2) = false by simpa using h2, if_neg h2, y137]
 by_cases h10 : o.1 = 10
 ·have hs : 0 <= o.2 /\ o.2 <= 24 := by unfold argB at ha; rw [if_neg h2, if_pos h10] at ha; simpa using ha
  rw [if_pos h10, show (o.1 == 3) = false by rw [h10]; rfl, show (o.1 == 4) = false by rw [h10]; rfl, show (o.1 == 5) = false by rw [h10]; rfl, show (o.1 == 6) = false by rw [h10]; rfl, show (o.1 == 7) = false by rw [h10]; rfl, show (o.1 == 8) = false by rw [h10]; rfl, show (o.1 == 9) = false by rw [h10]; rfl, show (o.1 == 10) = true by rw [h10]; rfl, q435 k x1 x2 hs.1 hs.2]
  exact ⟨(shf x.1 o.2, shf x.2 o.2), acc2 k (shf x.1 o.2, shf x.2 o.2), fun _ => rfl⟩
 by_cases h11 : o.1 = 11
 ·rw [if_neg h10, if_pos h11, show (o.1 == 3) = false by rw [h11]; rfl, show (o.1 == 4) = false by rw [h11]; rfl, show (o.1 == 5) = false by rw [h11]; rfl, show (o.1 == 6) = false by rw [h11]; rfl, show (o.1 == 7) = false by rw [h11]; rfl, show (o.1 == 8) = false by rw [h11]; rfl, show (o.1 == 9) = false by rw [h11]; rfl, show (o.1 == 10) = false by rw [h11]; rfl]
  exact ⟨(0, mm true (ab x.1) (ab x.2)), acc2 k (0, mm true (ab x.1) (ab x.2)), fun _ => rfl⟩
 rw [if_neg h10, if_neg h11]
 by_cases h3 : o.1 = 3
 ·rw [show (o.1 == 3) = true by simpa using h3, if_pos h3]
  exact ⟨_, acc2 k (x.1 + y.1, x.2 + y.2), fun _ => rfl⟩
 rw [show (o.1 == 3) = false by simpa using h3, if_neg h3, y137]
 by_cases h4 : o.1 = 4
 ·rw [show (o.1 == 4) = true by simpa using h4, if_pos h4]
  exact ⟨_, acc2 k (x.1 - y.2, x.2 - y.1), fun _ => rfl⟩
 rw [show (o.1 == 4) = false by simpa using h4, if_neg h4, y137]
 by_cases h5 : o.1 = 5
 ·rw [show (o.1 == 5) = true by simpa using h5, if_pos h5, y136]
  unfold F102
  rw [q258 k x1 y1, q258 k x1 y2, q258 k x2 y1, q258 k x2 y2]
  have big : ∀ u v : Int, ¬ ab (u * v) <= 17592186044416 -> tms u v = 17592186044417 := fun u v h => by rw [tms_eq, if_neg h]
  have t1 := q210 (tms x.1 y.1) (tms x.1 y.2)
  have t2 := q210 (mm true (tms x.1 y.1) (tms x.1 y.2)) (tms x.2 y.1)
  have t3 := q210 (mm true (mm true (tms x.1 y.1) (tms x.1 y.2)) (tms x.2 y.1)) (tms x.2 y.2)
  have no : (tms x.1 y.1 = 17592186044417 \/ tms x.1 y.2 = 17592186044417 \/ tms x.2 y.1 = 17592186044417 \/ tms x.2 y.2 = 17592186044417) -> ¬ inP (mm false (mm false (mm false (tms x.1 y.1) (tms x.1 y.2)) (tms x.2 y.1)) (tms x.2 y.2), mm true (mm true (mm true (tms x.1 y.1) (tms x.1 y.2)) (tms x.2 y.1)) (tms x.2 y.2)) := by
   rintro h ⟨_, h2⟩
   unfold inM at h2
   simp only at h2
   omega
  by_cases q1 : ab (x.1 * y.1) <= 17592186044416
  ·by_cases q2 : ab (x.1 * y.2) <= 17592186044416
   ·by_cases q3 : ab (x.2 * y.1) <= 17592186044416
    ·by_cases q4 : ab (x.2 * y.2) <= 17592186044416
     ·rw [q394 q1, q394 q2, q394 q3, q394 q4]
      simp only [y138, y135 q1, y135 q2, y135 q3, y135 q4, y136, if_pos q1, if_pos q2, if_pos q3, if_pos q4]
      exact ⟨_, acc2 k (_, _), fun _ => rfl⟩
     ·have hno := no (.inr (.inr (.inr (big _ _ q4))))
      rw [y0 hno]
      simp only [y138, y135 q1, y135 q2, y135 q3, y0 q4, y136, y137]
      exact ⟨_, rfl, fun h => absurd h hno⟩
    ·have hno := no (.inr (.inr (.inl (big _ _ q3))))
     rw [y0 hno]
     simp only [y138, y135 q1, y135 q2, y0 q3, y136, y137]
     exact ⟨_, rfl, fun h => absurd h hno⟩
   ·have hno := no (.inr (.inl (big _ _ q2)))
    rw [y0 hno]
    simp only [y138, y135 q1, y0 q2, y136, y137]
    exact ⟨_, rfl, fun h => absurd h hno⟩
  ·have hno := no (.inl (big _ _ q1))
   rw [y0 hno]
   simp only [y138, y0 q1, y137]
   exact ⟨_, rfl, fun h => absurd h hno⟩
 rw [show (o.1 == 5) = false by simpa using h5, if_neg h5, y137]
 by_cases h6 : o.1 = 6
 ·rw [show (o.1 == 6) = true by simpa using h6, if_pos h6]
  exact ⟨_, acc2 k (mm false x.1 y.1, mm false x.2 y.2), fun _ => rfl⟩
 rw [show (o.1 == 6) = false by simpa using h6, if_neg h6, y137]
 by_cases h7 : o.1 = 7
 ·rw [show (o.1 == 7) = true by simpa using h7, if_pos h7]
  exact ⟨_, acc2 k (mm true x.1 y.1, mm true x.2 y.2), fun _ => rfl⟩
 rw [show (o.1 == 7) = false by simpa using h7, if_neg h7, y137]
 by_cases h8 : o.1 = 8
 ·rw [show (o.1 == 8) = true by simpa using h8, if_pos h8]
  exact ⟨_, acc2 k (0, mm true (x.2 - y.1) (y.2 - x.1)), fun _ => rfl⟩
 have h9 : o.1 = 9 := by omega
 rw [show (o.1 == 8) = false by simpa using h8, if_neg h8, y137, show (o.1 == 9) = true by simpa using h9]
 exact ⟨_, acc2 k (0 - mm true (ab x.1) (ab x.2), mm true (ab x.1) (ab x.2)), fun _ => rfl⟩
theorem q388 {R : Type} (k : Nat) (l : List (Int × Int)) (a b : Int) (e0 : Int -> Int -> Int -> Option R) (e1 : List (Int × Int) -> Option R) (hl : l.length <= 32) : ∀ (n i j : Nat) (st : List (Int × Int)), l.length - i = n -> i <= l.length -> n < j -> st.length <= i -> hOk (l.drop i) st.length -> (∀ x ∈ st, inP x) ->
  F104.loop0 k j l a b i st e0 e1 = irun a b (e0 0 0 11) e1 (l.drop i) st := by
 intro n
 induction n with
 | zero =>
  intro i j st hn hi hj hst hok hin
  have e : i = l.length := by omega
  obtain ⟨j, rfl⟩ : ∃ j', j = j' + 1 := ⟨j - 1, by omega⟩
  rw [F104.loop0_s, e, y0 (by omega), y157]
  rfl
 | succ n ih =>
  intro i j st hn hi hj hst hok hin
  obtain ⟨j, rfl⟩ : ∃ j', j = j' + 1 := ⟨j - 1, by omega⟩
  have hlt : i < l.length := by omega
  rw [y147 hlt] at hok ⊢
  rw [F104.loop0_s, y135 (by omega)]
  simp only [y136]
  rw [if_pos (by omega), y139, y140 hlt]
  generalize hgo : l[i] = o at *
  obtain ⟨c1, c2, htk, harg, hrest⟩ := hok
  have htk2 := tk_le o.1
  have hw : w64 (((st.length : Nat) : Int) - ((tk o.1 : Nat) : Int)) = ((st.length - tk o.1 : Nat) : Int) := by rw [q28 (by omega) (by omega)]; omega
  simp only [y138, q472 k c1 c2, hw, y139]
  have mem : ∀ p, p < st.length -> inP (st.getD p (0, 0)) := fun p hp => by
   have := q145 hp
   exact hin _ (List.mem_of_getElem? this)
  have zero : inP (0, 0) := by unfold inP inM; omega
  have fin : ∀ x y, inP x -> inP y -> q203 a b o x y = ione a b o st -> ((F103 k o x y a b).bind fun (y7 : ((Int × Int) × Bool × Unit) × (Unit)) => bif !y7.1.2.1 then (e0 0 0 11) else (if 0 <= ((st.length - tk o.1 : Nat) : Int) /\ ((st.length - tk o.1 : Nat) : Int) <= ((st.length : Nat) : Int) then if ((st.take (st.length - tk o.1)) ++ [y7.1.1]).length * 16 <= 140737488355328 then F104.loop0 k j l a b (w64 ((i : Int) + 1)) ((st.take (st.length - tk o.1)) ++ [y7.1.1]) e0 e1 else none else none)) =
    irun a b (e0 0 0 11) e1 (o :: l.drop (i + 1)) st := by
   intro x y hx hy he
   obtain ⟨v, h1, h2⟩ := rnext_ok k (a := a) (b := b) hx hy c1 c2 harg
   rw [he] at h1 h2
   rw [h1]
   unfold irun
   simp only [y138]
   by_cases hm : inP (ione a b o st)
   ·rw [y135 hm, if_pos hm, h2 hm]
    have hlen : ((st.take (st.length - tk o.1)) ++ [ione a b o st]).length = st.length - tk o.1 + 1 := by rw [y148, y154]; simp
    simp only [y145, y137]
    rw [if_pos (by omega), if_pos (by rw [hlen]; omega), q22 i (by omega)]
    refine ih (i + 1) j _ (by omega) (by omega) (by omega) (by rw [hlen]; omega) (by rw [hlen]; rw [show st.length - tk o.1 + 1 = st.length + 1 - tk o.1 by omega]; exact hrest) fun x hx => ?_
    rcases y151.1 hx with hx | hx
    ·exact hin x (List.mem_of_mem_take hx)
    ·rw [y161.1 hx]; exact hm
   ·rw [y0 hm, if_neg hm]; rfl
  have out : ∀ p, st.length <= p -> st.getD p (0, 0) = (0, 0) := fun p hp => by rw [y164, y158 hp]; rfl
  by_cases h2 : tk o.1 = 2
  ·have e : ((((tk o.1 : Nat) : Int)) == 2) = true := by rw [h2]; rfl
   have hw1 : w64 (((st.length : Nat) : Int) - 1) = ((st.length - 1 : Nat) : Int) := by rw [q28 (by omega) (by omega)]; omega
   rw [e, y136, hw1, if_pos (by omega), y139, q145 (by omega), y138, y135 (by omega : (((tk o.1 : Nat) : Int)) > 0), y136, if_pos (by omega), q145 (by omega), y138, if_pos (by omega)]
   exact fin _ _ (mem _ (by omega)) (mem _ (by omega)) (by unfold ione; rw [show st.length - 1 = st.length - tk o.1 + 1 by omega])
  ·have e : ((((tk o.1 : Nat) : Int)) == 2) = false := by
    cases h : ((((tk o.1 : Nat) : Int)) == 2) with
    | false => rfl
    | true => have := eq_of_beq h; omega
   rw [e, y137]
   by_cases h1 : tk o.1 = 1
   ·rw [y135 (by omega : (((tk o.1 : Nat) : Int)) > 0), y136, if_pos (by omega), q145 (by omega), y138, if_pos (by omega)]
    exact fin _ _ (mem _ (by omega)) zero (by unfold ione; rw [out (st.length - tk o.1 + 1) (by omega)])
   ·rw [y0 (by omega), y137, if_pos (by omega)]
    exact fin _ _ zero zero (by unfold ione; rw [out (st.length - tk o.1) (by omega), out (st.length - tk o.1 + 1) (by omega)])
theorem q339 (k : Nat) (n : Int) : F82 k n = some ((decide (1 <= n /\ n <= 4294967296), ()), ()) := by
 unfold F82
 by_cases h : 1 <= n <;> simp [h]
theorem q316 (k : Nat) (l : List (Int × Int)) (a b : Int) (hk : 33 <= k) : F104 k l a b = some (((iv l a b).1, (iv l a b).2.1, (iv l a b).2.2, ()), ()) := by
 unfold F104 iv
 rw [q497 k l true hk]
 simp only [y138]
 by_cases hv : q98 l true = 0
 ·have hv' : ¬ q98 l true ≠ 0 := fun h => h hv
  rw [show (q98 l true != 0) = false by simpa using hv, y137, if_neg hv', q339, q339]
  simp only [y138]
  by_cases ha : 1 <= a /\ a <= 4294967296
  ·rw [y135 ha]
   simp only [y145, y137]
   by_cases hb : 1 <= b /\ b <= 4294967296
   ·obtain ⟨h1, h2, h3⟩ := q338 hv
    rw [y135 hb, if_pos ⟨ha.1, ha.2, hb⟩]
    simp only [y145, y137]
    have := q388 (R := (Int × Int × Int × Unit) × Unit) k l a b (fun (z28 : Int) (z29 : Int) (z30 : Int) => (some ((z28, z29, z30, ()), ()))) (fun (z31 : List (Int × Int)) => (if 0 <= (0 : Int) /\ (0 : Int) < ((z31.length : Nat) : Int) then (z31[0]?).bind fun (x32 : Int × Int) => if 0 <= (0 : Int) /\ (0 : Int) < ((z31.length : Nat) : Int) then (z31[0]?).bind fun (x33 : Int × Int) => some ((x32.1, x33.2, 0, ()), ()) else none else none)) h2 l.length 0 k [] rfl (by omega) (by omega) (by simp) h3 (fun x hx => by cases hx)
    refine Eq.trans this ?_
    rw [y152]
    have hc := q302 (R := (Int × Int × Int × Unit) × Unit) a b (some ((0, 0, 11, ()), ())) (fun (z31 : List (Int × Int)) => (if 0 <= (0 : Int) /\ (0 : Int) < ((z31.length : Nat) : Int) then (z31[0]?).bind fun (x32 : Int × Int) => if 0 <= (0 : Int) /\ (0 : Int) < ((z31.length : Nat) : Int) then (z31[0]?).bind fun (x33 : Int × Int) => some ((x32.1, x33.2, 0, ()), ()) else none else none)) (fun st => some (((st.getD 0 (0, 0)).1, (st.getD 0 (0, 0)).2, 0, ()), ())) (fun st hst => by
     rw [if_pos (by omega), q145 (by omega), y138, if_pos (by omega)]; rfl) l [] h3
    rw [hc]
    obtain ⟨c, hc⟩ := q256 a b l []
    have hm := q417 a b (fun c : Int × Int × Int => some ((c.1, c.2.1, c.2.2, ()), ())) (some (0, 0, 11)) (fun st => some ((st.getD 0 (0, 0)).1, (st.getD 0 (0, 0)).2, 0)) l []
    rw [hc] at hm
    unfold irv
    rw [hc]
    exact hm.symm
   ·rw [y0 hb, if_neg (fun h => hb h.2.2)]; rfl
  ·rw [y0 ha, if_neg (fun h => ha ⟨h.1, h.2.1⟩)]; rfl
 ·have hv' : q98 l true ≠ 0 := hv
  rw [show (q98 l true != 0) = true by simpa using hv, y136, if_pos hv']
abbrev Pl := Int × Int × Int × List Int
abbrev Rc := Int × Int × Int × Int
def q205 (w h m : Int) : Prop := 1 <= w /\ w <= 128 /\ 1 <= h /\ h <= 128 /\ w * h <= 4096 /\ 1 <= m /\ m <= 4294967296
instance (w h m : Int) : Decidable (q205 w h m) := inferInstanceAs (Decidable (_ /\ _))
def pixP (m : Int) (l : List Int) : Prop := ∀ x ∈ l, 0 <= x /\ x <= m
instance (m : Int) (l : List Int) : Decidable (pixP m l) := inferInstanceAs (Decidable (∀ x ∈ l, _))
def q107 (p : Pl) : Prop := q205 p.1 p.2.1 p.2.2.1 /\ (p.2.2.2.length : Int) = p.1 * p.2.1 /\ pixP p.2.2.1 p.2.2.2
instance (p : Pl) : Decidable (q107 p) := inferInstanceAs (Decidable (_ /\ _))
theorem q176 {a b c d : Int} (h1 : 0 <= a) (h2 : a <= c) (h3 : 0 <= b) (h4 : b <= d) : 0 <= a * b /\ a * b <= c * d :=
 ⟨Int.mul_nonneg h1 h3, Int.mul_le_mul h2 h4 h3 (by omega)⟩
theorem q477 (k : Nat) {a b c : Int} (hc : 0 <= c) (hc2 : c <= 4611686018427387904) : ∃ v, F29 k a b c = some ((v, decide (0 <= a /\ 0 <= b /\ a * b <= c), ()), ()) /\ (0 <= a /\ 0 <= b /\ a * b <= c -> v = a * b) := by
 unfold F29
 by_cases ha : a < 0
 ·rw [y135 ha, y136, y0 (p := 0 <= a /\ _) (fun h => by omega)]
  exact ⟨_, rfl, fun h => by omega⟩
 rw [y0 ha, y137]
 by_cases hb : b < 0
 ·rw [y135 hb, y136, y0 (p := 0 <= a /\ _) (fun h => by omega)]
  exact ⟨_, rfl, fun h => by omega⟩
 rw [y0 hb, y137, y0 (p := c < 0) (by omega), y137]
 by_cases h0 : a = 0
 ·subst h0
  rw [show ((0 : Int) != 0) = false from rfl, y137, Int.zero_mul, y135 (p := (0 : Int) <= 0 /\ _) (by omega)]
  exact ⟨_, rfl, fun _ => rfl⟩
 have e : (a != 0) = true := by simpa using h0
 have hd : c.tdiv a = c / a := Int.tdiv_eq_ediv_of_nonneg hc
 have hd1 : c / a <= c := Int.ediv_le_self a hc
 have hd2 : 0 <= c / a := Int.ediv_nonneg hc (by omega)
 rw [e, y136, if_neg h0, hd, q28 (by omega) (by omega)]
 have key : b > c / a ↔ ¬ a * b <= c := by
  rw [Int.mul_comm, <- Int.le_ediv_iff_mul_le (by omega)]; omega
 by_cases hm : a * b <= c
 ·rw [y0 (p := b > c / a) (fun h => key.1 h hm), y137, y135 (p := 0 <= a /\ _) ⟨by omega, by omega, hm⟩]
  have := Int.mul_nonneg (a := a) (b := b) (by omega) (by omega)
  exact ⟨_, rfl, fun _ => q28 (by omega) (by omega)⟩
 ·rw [y135 (p := b > c / a) (key.2 hm), y136, y0 (p := 0 <= a /\ _) (fun h => hm h.2.2)]
  exact ⟨_, rfl, fun h => (hm h.2.2).elim⟩
theorem size_ok (k : Nat) (w h m : Int) : F30 k w h m = some ((decide (q205 w h m), ()), ()) := by
 unfold F30
 obtain ⟨v, hv, _⟩ := q477 k (a := w) (b := h) (c := 4096) (by omega) (by omega)
 rw [hv, y138]
 unfold q205
 by_cases h1 : 1 <= w
 by_cases h2 : w <= 128
 by_cases h3 : 1 <= h
 by_cases h4 : h <= 128
 by_cases h5 : w * h <= 4096
 by_cases h6 : 1 <= m
 ·simp [h1, h2, h3, h4, h5, h6, show 0 <= w by omega, show 0 <= h by omega]
 all_goals (by_cases hx : 0 <= w /\ 0 <= h /\ w * h <= 4096 <;> simp [*])
theorem q554 (k : Nat) (w h m : Int) : F71 k w h m = some ((decide (q205 w h m), ()), ()) := by
 unfold F71 q205
 by_cases h1 : 1 <= w
 by_cases h2 : w <= 128
 by_cases h3 : 1 <= h
 by_cases h4 : h <= 128
 ·have := q176 (show 0 <= w by omega) h2 (show 0 <= h by omega) h4
  rw [q28 (n := w * h) (by omega) (by omega)]
  by_cases h5 : w * h <= 4096
  by_cases h6 : 1 <= m
  all_goals simp [*]
 all_goals simp [*]
theorem q119 {m : Int} {l : List Int} {i : Nat} (hi : i < l.length) : pixP m (l.drop i) ↔ (0 <= l[i] /\ l[i] <= m) /\ pixP m (l.drop (i + 1)) := by
 unfold pixP
 constructor
 ·intro h
  rw [y147 hi] at h
  exact ⟨h _ (y169), fun x hx => h x (y155 _ hx)⟩
 ·rintro ⟨h1, h2⟩ x hx
  rw [y147 hi] at hx
  rcases y166.1 hx with rfl | hx
  ·exact h1
  ·exact h2 x hx
theorem q556 (m : Int) : pixP m [] := fun x h => by cases h
theorem q550 {R : Type} (k : Nat) (l l' : List Int) (a b m : Int) (e0 : Bool -> Option R) (e1 : Unit -> Option R) (hl : l.length <= 4294967296) : ∀ (n i j : Nat), l.length - i = n -> i <= l.length -> n < j ->
  F31.loop0 k j l l.length i a b m l' e0 e1 = if pixP m (l.drop i) then e1 () else e0 false := by
 intro n
 induction n with
 | zero =>
  intro i j hn hi hj
  obtain ⟨j, rfl⟩ : ∃ j', j = j' + 1 := ⟨j - 1, by omega⟩
  rw [F31.loop0_s, y0 (by omega), y137, show i = l.length by omega, y157, if_pos (q556 m)]
 | succ n ih =>
  intro i j hn hi hj
  obtain ⟨j, rfl⟩ : ∃ j', j = j' + 1 := ⟨j - 1, by omega⟩
  have hlt : i < l.length := by omega
  rw [F31.loop0_s, y135 (by omega), y136, if_pos (by omega), y139, y140 hlt, y138, q22 i (by omega), ih (i + 1) j (by omega) (by omega) (by omega)]
  by_cases h1 : l[i] < 0
  ·rw [y135 h1, y136, if_neg (fun h => by have := ((q119 hlt).1 h).1; omega)]
  rw [y0 h1, y137]
  by_cases h2 : l[i] > m
  ·rw [y135 h2, y136, if_neg (fun h => by have := ((q119 hlt).1 h).1; omega)]
  rw [y0 h2, y137]
  by_cases h3 : pixP m (l.drop (i + 1))
  ·rw [if_pos h3, if_pos ((q119 hlt).2 ⟨by omega, h3⟩)]
  ·rw [if_neg h3, if_neg (fun h => h3 ((q119 hlt).1 h).2)]
theorem q470 {R : Type} (k : Nat) (l : List Int) (a b m : Int) (e0 : Bool -> Option R) (e1 : Unit -> Option R) (hl : l.length <= 4294967296) : ∀ (n i j : Nat), l.length - i = n -> i <= l.length -> n < j ->
  F72.loop0 k j i a b m l e0 e1 = if pixP m (l.drop i) then e1 () else e0 false := by
 intro n
 induction n with
 | zero =>
  intro i j hn hi hj
  obtain ⟨j, rfl⟩ : ∃ j', j = j' + 1 := ⟨j - 1, by omega⟩
  rw [F72.loop0_s, y0 (by omega), y137, show i = l.length by omega, y157, if_pos (q556 m)]
 | succ n ih =>
  intro i j hn hi hj
  obtain ⟨j, rfl⟩ : ∃ j', j = j' + 1 := ⟨j - 1, by omega⟩
  have hlt : i < l.length := by omega
  rw [F72.loop0_s, y135 (by omega), y136, if_pos (by omega), if_pos (by omega), y139, y140 hlt, y138, y138, q22 i (by omega), ih (i + 1) j (by omega) (by omega) (by omega)]
  by_cases h1 : l[i] < 0
  ·rw [y135 h1, y136, if_neg (fun h => by have := ((q119 hlt).1 h).1; omega)]
  rw [y0 h1, y137]
  by_cases h2 : l[i] > m
  ·rw [y135 h2, y136, if_neg (fun h => by have := ((q119 hlt).1 h).1; omega)]
  rw [y0 h2, y137]
  by_cases h3 : pixP m (l.drop (i + 1))
  ·rw [if_pos h3, if_pos ((q119 hlt).2 ⟨by omega, h3⟩)]
  ·rw [if_neg h3, if_neg (fun h => h3 ((q119 hlt).1 h).2)]
theorem plane_ok (k : Nat) (hk : 4097 <= k) (p : Pl) : F31 k p = some ((decide (q107 p), ()), ()) := by
 unfold F31
 rw [size_ok, y138]
 by_cases hs : q205 p.1 p.2.1 p.2.2.1
 ·have := q176 (show 0 <= p.1 by have := hs.1; omega) hs.2.1 (show 0 <= p.2.1 by have := hs.2.2.1; omega) hs.2.2.2.1
  have h4 := hs.2.2.2.2.1
  rw [y135 hs, y145, y137, q28 (n := p.1 * p.2.1) (by omega) (by omega)]
  by_cases hl : (p.2.2.2.length : Int) = p.1 * p.2.1
  ·have e : ((p.2.2.2.length : Int) != p.1 * p.2.1) = false := by simpa using hl
   rw [e, y137]
   refine (q550 k p.2.2.2 p.2.2.2 _ _ _ _ _ (by omega) p.2.2.2.length 0 k rfl (by omega) (by omega)).trans ?_
   rw [y152]
   by_cases hp : pixP p.2.2.1 p.2.2.2
   ·rw [if_pos hp, y135 (show q107 p from ⟨hs, hl, hp⟩)]
   ·rw [if_neg hp, y0 (fun h : q107 p => hp h.2.2)]
  ·have e : ((p.2.2.2.length : Int) != p.1 * p.2.1) = true := by simpa using hl
   rw [e, y136, y0 (fun h : q107 p => hl h.2.1)]
 ·rw [y0 hs, y150, y136, y0 (fun h : q107 p => hs h.1)]
theorem q701 (k : Nat) (hk : 4097 <= k) (p : Pl) : F72 k p = some ((decide (q107 p), ()), ()) := by
 unfold F72
 rw [q554, y138]
 by_cases hs : q205 p.1 p.2.1 p.2.2.1
 ·have := q176 (show 0 <= p.1 by have := hs.1; omega) hs.2.1 (show 0 <= p.2.1 by have := hs.2.2.1; omega) hs.2.2.2.1
  have h4 := hs.2.2.2.2.1
  rw [y135 hs, y145, y137, q28 (n := p.1 * p.2.1) (by omega) (by omega)]
  by_cases hl : (p.2.2.2.length : Int) = p.1 * p.2.1
  ·have e : ((p.2.2.2.length : Int) != p.1 * p.2.1) = false := by simpa using hl
   rw [e, y137]
   refine (q470 k p.2.2.2 _ _ _ _ _ (by omega) p.2.2.2.length 0 k rfl (by omega) (by omega)).trans ?_
   rw [y152]
   by_cases hp : pixP p.2.2.1 p.2.2.2
   ·rw [if_pos hp, y135 (show q107 p from ⟨hs, hl, hp⟩)]
   ·rw [if_neg hp, y0 (fun h : q107 p => hp h.2.2)]
  ·have e : ((p.2.2.2.length : Int) != p.1 * p.2.1) = true := by simpa using hl
   rw [e, y136, y0 (fun h : q107 p => hl h.2.1)]
 ·rw [y0 hs, y150, y136, y0 (fun h : q107 p => hs h.1)]
def q495 (n : Int) : Prop := -1048576 <= n /\ n <= 1048576
instance (n : Int) : Decidable (q495 n) := inferInstanceAs (Decidable (_ /\ _))
def noneP (r : Rc) : Prop := r.1 = 0 /\ r.2.1 = 0 /\ r.2.2.1 = 0 /\ r.2.2.2 = 0
instance (r : Rc) : Decidable (noneP r) := inferInstanceAs (Decidable (_ /\ _))
def rectP (r : Rc) : Prop := noneP r \/ q495 r.1 /\ q495 r.2.1 /\ q495 r.2.2.1 /\ q495 r.2.2.2 /\ r.1 < r.2.2.1 /\ r.2.1 < r.2.2.2
instance (r : Rc) : Decidable (rectP r) := inferInstanceAs (Decidable (_ \/ _))
def goodP (r : Rc) (w h : Int) : Prop := 0 <= r.1 /\ 0 <= r.2.1 /\ r.2.2.1 <= w /\ r.2.2.2 <= h /\ r.1 < r.2.2.1 /\ r.2.1 < r.2.2.2
instance (r : Rc) (w h : Int) : Decidable (goodP r w h) := inferInstanceAs (Decidable (_ /\ _))
theorem q697 {R : Type} (k : Nat) (a b : List Int) (e0 : Bool -> Option R) (e1 : Unit -> Option R) (hl : a.length <= 4294967296) (hab : a.length = b.length) : ∀ (n i j : Nat), a.length - i = n -> i <= a.length -> n < j ->
  F110.loop0 k j a b i e0 e1 = if a.drop i = b.drop i then e1 () else e0 false := by
 intro n
 induction n with
 | zero =>
  intro i j hn hi hj
  obtain ⟨j, rfl⟩ : ∃ j', j = j' + 1 := ⟨j - 1, by omega⟩
  rw [F110.loop0_s, y0 (by omega), y137, List.drop_eq_nil_of_le (by omega), List.drop_eq_nil_of_le (by omega), if_pos rfl]
 | succ n ih =>
  intro i j hn hi hj
  obtain ⟨j, rfl⟩ : ∃ j', j = j' + 1 := ⟨j - 1, by omega⟩
  have hlt : i < a.length := by omega
  have hlt2 : i < b.length := by omega
  rw [F110.loop0_s, y135 (by omega), y136, if_pos (Int.natCast_nonneg i), y139, y140 hlt, y138, if_pos (Int.natCast_nonneg i), y140 hlt2, y138, q22 i (by omega), ih (i + 1) j (by omega) (by omega) (by omega), y147 hlt, y147 hlt2]
  by_cases h1 : a[i] = b[i]
  ·rw [h1, bne_self_eq_false, y137]
   by_cases h2 : a.drop (i + 1) = b.drop (i + 1)
   ·rw [if_pos h2, if_pos (by rw [h2])]
   ·rw [if_neg h2, if_neg (fun h => h2 (by injection h))]
  ·have e : (a[i] != b[i]) = true := by simpa using h1
   rw [e, y136, if_neg (fun h => h1 (by injection h))]
theorem q702 (k : Nat) {a b : List Int} (hl : a.length <= 4294967296) (hk : a.length < k) : F110 k a b = some ((decide (a = b), ()), ()) := by
 unfold F110
 by_cases hab : a.length = b.length
 ·rw [hab, bne_self_eq_false, y137]
  refine (q697 k a b _ _ hl hab a.length 0 k rfl (by omega) hk).trans ?_
  rw [y152, y152]
  by_cases h : a = b
  ·rw [if_pos h, y135 h]
  ·rw [if_neg h, y0 h]
 ·have e : ((a.length : Int) != (b.length : Int)) = true := by simp; omega
  rw [e, y136, y0 (fun h => hab (by rw [h]))]
structure q234 (p q : Pl) (two : Bool) (l : List (Int × Int)) (out : Int) (r : Rc) : Prop where
 hp : q107 p
 hq : two = true -> q107 q /\ p.1 = q.1 /\ p.2.1 = q.2.1
 hv : q98 l true = 0
 hi : (iv l p.2.2.1 (if two = true then q.2.2.1 else 1)).2.2 = 0
 ho : 1 <= out /\ out <= 4294967296
 hg : goodP r p.1 p.2.1
def wdt (r : Rc) : Nat := (r.2.2.1 - r.1).toNat
def hgt (r : Rc) : Nat := (r.2.2.2 - r.2.1).toNat
def spot (p : Pl) (r : Rc) (m : Nat) : Nat := ((r.2.1 + ((m / wdt r : Nat) : Int)) * p.1 + (r.1 + ((m % wdt r : Nat) : Int))).toNat
theorem q720 {p : Pl} {r : Rc} {d c : Nat} (hc : c < wdt r) : spot p r (d * wdt r + c) = ((r.2.1 + (d : Int)) * p.1 + (r.1 + (c : Int))).toNat := by
 unfold spot
 rw [Nat.mul_comm, Nat.mul_add_div (by omega), Nat.div_eq_of_lt hc, Nat.mul_add_mod, Nat.mod_eq_of_lt hc, Nat.add_zero]
section
variable {p q : Pl} {two : Bool} {l : List (Int × Int)} {out : Int} {r : Rc}
theorem q234.dims (h : q234 p q two l out r) : (wdt r : Int) = r.2.2.1 - r.1 /\ (hgt r : Int) = r.2.2.2 - r.2.1 /\ 1 <= wdt r /\ 1 <= hgt r /\ wdt r <= 128 /\ hgt r <= 128 /\ 0 <= r.1 /\ 0 <= r.2.1 /\ r.2.2.1 <= p.1 /\ r.2.2.2 <= p.2.1 /\ p.1 <= 128 /\ p.2.1 <= 128 := by
 obtain ⟨g1, g2, g3, g4, g5, g6⟩ := h.hg
 obtain ⟨⟨s1, s2, s3, s4, s5, s6, s7⟩, _, _⟩ := h.hp
 unfold wdt hgt
 refine ⟨?_, ?_, ?_, ?_, ?_, ?_, g1, g2, g3, g4, s2, s4⟩ <;> omega
theorem q234.at (h : q234 p q two l out r) {d c : Nat} (hd : d < hgt r) (hc : c < wdt r) : 0 <= (r.2.1 + (d : Int)) * p.1 /\ (r.2.1 + (d : Int)) * p.1 <= 16384 /\ 0 <= (r.2.1 + (d : Int)) * p.1 + (r.1 + (c : Int)) /\ (r.2.1 + (d : Int)) * p.1 + (r.1 + (c : Int)) < p.2.2.2.length := by
 obtain ⟨w1, w2, w3, w4, w5, w6, g1, g2, g3, g4, s2, s4⟩ := h.dims
 obtain ⟨⟨s1, _, _, _, _, _, _⟩, hl, _⟩ := h.hp
 have k0 : 0 <= (r.2.1 + (d : Int)) * p.1 := Int.mul_nonneg (by omega) (by omega)
 have k1 : (r.2.1 + (d : Int) + 1) * p.1 <= p.2.1 * p.1 := Int.mul_le_mul_of_nonneg_right (by omega) (by omega)
 rw [Int.add_mul, Int.one_mul, Int.mul_comm p.2.1] at k1
 have k2 := q176 (show 0 <= p.1 by omega) s2 (show 0 <= p.2.1 by omega) s4
 omega
theorem q234.get (h : q234 p q two l out r) {d c : Nat} (hd : d < hgt r) (hc : c < wdt r) : p.2.2.2[((r.2.1 + (d : Int)) * p.1 + (r.1 + (c : Int))).toNat]? = some (p.2.2.2.getD (spot p r (d * wdt r + c)) 0) /\ 0 <= p.2.2.2.getD (spot p r (d * wdt r + c)) 0 /\ p.2.2.2.getD (spot p r (d * wdt r + c)) 0 <= p.2.2.1 := by
 obtain ⟨a1, a2, a3, a4⟩ := h.at hd hc
 rw [q720 hc]
 have hlt : ((r.2.1 + (d : Int)) * p.1 + (r.1 + (c : Int))).toNat < p.2.2.2.length := by omega
 refine ⟨q663 hlt, ?_⟩
 rw [y164, y140 hlt]
 exact h.hp.2.2 _ (y160 _)
theorem q234.get2 (h : q234 p q two l out r) (ht : two = true) {d c : Nat} (hd : d < hgt r) (hc : c < wdt r) : q.2.2.2[((r.2.1 + (d : Int)) * p.1 + (r.1 + (c : Int))).toNat]? = some (q.2.2.2.getD (spot p r (d * wdt r + c)) 0) /\ 0 <= q.2.2.2.getD (spot p r (d * wdt r + c)) 0 /\ q.2.2.2.getD (spot p r (d * wdt r + c)) 0 <= q.2.2.1 := by
 obtain ⟨a1, a2, a3, a4⟩ := h.at hd hc
 obtain ⟨q1, q2, q3⟩ := h.hq ht
 have e : (q.2.2.2.length : Int) = p.2.2.2.length := by rw [q1.2.1, h.hp.2.1, q2, q3]
 rw [q720 hc]
 have hlt : ((r.2.1 + (d : Int)) * p.1 + (r.1 + (c : Int))).toNat < q.2.2.2.length := by omega
 refine ⟨q663 hlt, ?_⟩
 rw [y164, y140 hlt]
 exact q1.2.2 _ (y160 _)
theorem q234.run (h : q234 p q two l out r) {a b : Int} (ha : 0 <= a /\ a <= p.2.2.1) (hb : 0 <= b /\ b <= (if two = true then q.2.2.1 else 1)) : (rv l a b).2 = 0 /\ ev l a b = rv l a b := by
 have hm := h.hp.1.2.2.2.2.2.2
 have hm2 : (if two = true then q.2.2.1 else 1) <= 4294967296 := by
  split
  ·rename_i ht; exact (h.hq ht).1.1.2.2.2.2.2.2
  ·omega
 have he : ev l a b = rv l a b := by
  unfold ev
  rw [if_neg (fun hh => hh h.hv), if_pos (by omega)]
 refine ⟨?_, he⟩
 rcases within (l := l) ha hb with ⟨_, h2, _⟩ | ⟨h1, _⟩
 ·rw [<- he]; exact h2
 ·exact (h1 h.hi).elim
def part (N : Nat) (f : Nat -> Int) (m : Nat) : List Int := (List.range N).map fun i => if i < m then f i else 0
end
theorem bne_t {a b : Int} (h : a ≠ b) : (a != b) = true := by simpa using h
theorem bne_f {a b : Int} (h : a = b) : (a != b) = false := by simpa using h
theorem check_ok (k : Nat) (hk : 33 <= k) (l : List (Int × Int)) (two : Bool) (a b out : Int) : F105 k l two a b out =
  some ((if q98 l two ≠ 0 then q98 l two else if 1 <= out /\ out <= 4294967296 then (iv l a (if two = true then b else 1)).2.2 else 2, ()), ()) := by
 unfold F105
 rw [q497 k l two hk, y138]
 by_cases hv : q98 l two = 0
 rotate_left
 ·simp only [bne_t hv]; rw [y136, if_pos hv]
 simp only [bne_f hv]
 rw [y137, if_neg (fun h => h hv), q339, y138]
 by_cases ho : 1 <= out /\ out <= 4294967296
 rotate_left
 ·rw [y0 ho, y150, y136, if_neg ho]
 rw [y135 ho, y145, y137, if_pos ho]
 cases two with
 | true => rw [y145, y137, q316 k _ _ _ hk]; rfl
 | false => rw [y150, y136, q316 k _ _ _ hk]; rfl
theorem q70 {a b : Int} (h : a ≠ b) : (a != b) = true := by simpa using h
theorem q66 {a b : Int} (h : a = b) : (a != b) = false := by simpa using h
def wP (l : List Int) : Prop := ∀ x ∈ l, -32767 <= x /\ x <= 32767
instance (l : List Int) : Decidable (wP l) := inferInstanceAs (Decidable (∀ x ∈ l, _))
theorem q655 : wP [] := fun x h => by cases h
theorem q144 {l : List Int} {i : Nat} (hi : i < l.length) : wP (l.drop i) ↔ (-32767 <= l[i] /\ l[i] <= 32767) /\ wP (l.drop (i + 1)) := by
 unfold wP
 constructor
 ·intro h
  rw [y147 hi] at h
  exact ⟨h _ (y169), fun x hx => h x (y155 _ hx)⟩
 ·rintro ⟨h1, h2⟩ x hx
  rw [y147 hi] at hx
  rcases y166.1 hx with rfl | hx
  ·exact h1
  ·exact h2 x hx
theorem fw_loop {R : Type} (k : Nat) (l : List Int) (e0 : Int -> Option R) (e1 : Unit -> Option R) (hl : l.length <= 4294967296) : ∀ (n i j : Nat), l.length - i = n -> i <= l.length -> n < j ->
  F39.loop0 k j l l.length i e0 e1 = if wP (l.drop i) then e1 () else e0 10 := by
 intro n
 induction n with
 | zero =>
  intro i j hn hi hj
  obtain ⟨j, rfl⟩ : ∃ j', j = j' + 1 := ⟨j - 1, by omega⟩
  rw [F39.loop0_s, y0 (by omega), y137, show i = l.length by omega, y157, if_pos q655]
 | succ n ih =>
  intro i j hn hi hj
  obtain ⟨j, rfl⟩ : ∃ j', j = j' + 1 := ⟨j - 1, by omega⟩
  have hlt : i < l.length := by omega
  rw [F39.loop0_s, y135 (by omega), y136, if_pos (by omega), y139, y140 hlt, y138, q22 i (by omega), ih (i + 1) j (by omega) (by omega) (by omega)]
  by_cases h1 : l[i] < -32767
  ·rw [y135 h1, y136, if_neg (fun h => by have := ((q144 hlt).1 h).1; omega)]
  rw [y0 h1, y137]
  by_cases h2 : l[i] > 32767
  ·rw [y135 h2, y136, if_neg (fun h => by have := ((q144 hlt).1 h).1; omega)]
  rw [y0 h2, y137]
  by_cases h3 : wP (l.drop (i + 1))
  ·rw [if_pos h3, if_pos ((q144 hlt).2 ⟨by omega, h3⟩)]
  ·rw [if_neg h3, if_neg (fun h => h3 ((q144 hlt).1 h).2)]
theorem isw_ok (k : Nat) (n : Int) : F79 k n = some ((decide (-32767 <= n /\ n <= 32767), ()), ()) := by
 unfold F79
 by_cases h : -32767 <= n <;> simp [h]
theorem aw_loop {R : Type} (k : Nat) (l : List Int) (e0 : Bool -> Option R) (e1 : Unit -> Option R) (hl : l.length <= 4294967296) : ∀ (n i j : Nat), l.length - i = n -> i <= l.length -> n < j ->
  F80.loop0 k j l i e0 e1 = if wP (l.drop i) then e1 () else e0 false := by
 intro n
 induction n with
 | zero =>
  intro i j hn hi hj
  obtain ⟨j, rfl⟩ : ∃ j', j = j' + 1 := ⟨j - 1, by omega⟩
  rw [F80.loop0_s, y0 (by omega), y137, show i = l.length by omega, y157, if_pos q655]
 | succ n ih =>
  intro i j hn hi hj
  obtain ⟨j, rfl⟩ : ∃ j', j = j' + 1 := ⟨j - 1, by omega⟩
  have hlt : i < l.length := by omega
  rw [F80.loop0_s, y135 (by omega), y136, if_pos (by omega), y139, y140 hlt, y138, q22 i (by omega), ih (i + 1) j (by omega) (by omega) (by omega), isw_ok, y138]
  by_cases h1 : -32767 <= l[i] /\ l[i] <= 32767
  ·rw [y135 h1, y145, y137]
   by_cases h3 : wP (l.drop (i + 1))
   ·rw [if_pos h3, if_pos ((q144 hlt).2 ⟨h1, h3⟩)]
   ·rw [if_neg h3, if_neg (fun h => h3 ((q144 hlt).1 h).2)]
  ·rw [y0 h1, y150, y136, if_neg (fun h => h1 ((q144 hlt).1 h).1)]
theorem q694 (k : Nat) {l : List Int} (hk : l.length < k) (hl : l.length <= 4294967296) : F80 k l = some ((decide (wP l), ()), ()) := by
 unfold F80
 refine (aw_loop k l _ _ hl l.length 0 k rfl (by omega) hk).trans ?_
 rw [y152]
 by_cases h : wP l
 ·rw [if_pos h, y135 h]
 ·rw [if_neg h, y0 h]
def q238 (l : List Int) : Int := if l.length = 0 \/ 81 < l.length then 9 else if wP l then 0 else 10
theorem fw_ok (k : Nat) (hk : 82 <= k) (l : List Int) : F39 k l = some ((q238 l, ()), ()) := by
 unfold F39 q238
 by_cases h0 : l.length = 0
 ·simp [h0]
 by_cases h1 : 81 < l.length
 ·have e : ((l.length : Int) == 0) = false := y165.2 (by omega)
  rw [e, y137, y135 (p := (l.length : Int) > 81) (by omega), y136, if_pos (.inr h1)]
 have e : ((l.length : Int) == 0) = false := y165.2 (by omega)
 rw [e, y137, y0 (p := (l.length : Int) > 81) (by omega), y137, if_neg (by omega)]
 refine (fw_loop k l _ _ (by omega) l.length 0 k rfl (by omega) (by omega)).trans ?_
 rw [y152]
 by_cases h : wP l
 ·rw [if_pos h, if_pos h]
 ·rw [if_neg h, if_neg h]
theorem rw_ok (k : Nat) (hk : 82 <= k) (l : List Int) : F83 k l = some ((q238 l, ()), ()) := by
 unfold F83 q238
 by_cases h0 : l.length = 0
 ·simp [h0]
 by_cases h1 : 81 < l.length
 ·have e : ((l.length : Int) == 0) = false := y165.2 (by omega)
  rw [e, y137, y135 (p := (l.length : Int) > 81) (by omega), y136, if_pos (.inr h1)]
 have e : ((l.length : Int) == 0) = false := y165.2 (by omega)
 rw [e, y137, y0 (p := (l.length : Int) > 81) (by omega), y137, if_neg (by omega), q694 k (by omega) (by omega), y138]
 by_cases h : wP l
 ·rw [y135 h, if_pos h]; rfl
 ·rw [y0 h, if_neg h]; rfl
def lsum (f : Int -> Int) : List Int -> Int
 | [] => 0
 | x :: l => f x + lsum f l
theorem q722 (f : Int -> Int) (x : Int) (l : List Int) : lsum f (x :: l) = f x + lsum f l := rfl
theorem q284 {f : Int -> Int} {l : List Int} {i : Nat} (hi : i < l.length) : lsum f (l.drop i) = f l[i] + lsum f (l.drop (i + 1)) := by
 rw [y147 hi, q722]
def inB (n : Int) : Prop := -2251799813685248 <= n /\ n <= 2251799813685248
theorem q548 {w n : Int} (h1 : -32767 <= w /\ w <= 32767) (h2 : -68719476736 <= n /\ n <= 68719476736) : inB (w * n) := by
 have e : ab (w * n) = ab w * ab n := q484 w n
 have h3 : ab w <= 32767 := q373.2 h1
 have h4 : ab n <= 68719476736 := q373.2 h2
 have := Int.mul_le_mul h3 h4 (q75 n) (by omega)
 have h5 : ab (w * n) <= 2251799813685248 := by omega
 have := q373.1 h5
 exact this
theorem mm_in {x y : Int} (b : Bool) (hx : inB x) (hy : inB y) : inB (mm b x y) := by
 unfold inB at *
 cases b with
 | true => rw [q237]; split <;> omega
 | false => rw [q275]; split <;> omega
def side (b : Bool) (lo hi : Int) (w : Int) : Int := mm b (w * lo) (w * hi)
theorem q443 {b : Bool} {lo hi w : Int} (h1 : -32767 <= w /\ w <= 32767) (h2 : -68719476736 <= lo /\ lo <= 68719476736) (h3 : -68719476736 <= hi /\ hi <= 68719476736) : inB (side b lo hi w) := mm_in b (q548 h1 h2) (q548 h1 h3)
theorem q325 {w n : Int} (h1 : -32767 <= w /\ w <= 32767) (h2 : -68719476736 <= n /\ n <= 68719476736) : w64 (w * n) = w * n := by
 have := q548 h1 h2
 unfold inB at this
 exact q28 (by omega) (by omega)
theorem rb_loop {R : Type} (k : Nat) (l : List Int) {lo hi : Int} (h2 : -68719476736 <= lo /\ lo <= 68719476736) (h3 : -68719476736 <= hi /\ hi <= 68719476736) (e0 : Int -> Int -> Option R) (hl : l.length <= 81) (hw : wP l) : ∀ (n i j : Nat) (a b : Int), l.length - i = n -> i <= l.length -> n < j ->
  -2251799813685248 * i <= a -> a <= 2251799813685248 * i -> -2251799813685248 * i <= b -> b <= 2251799813685248 * i ->
  F85.loop0 k j l lo hi a b i e0 = e0 (a + lsum (side false lo hi) (l.drop i)) (b + lsum (side true lo hi) (l.drop i)) := by
 intro n
 induction n with
 | zero =>
  intro i j a b hn hi' hj _ _ _ _
  obtain ⟨j, rfl⟩ : ∃ j', j = j' + 1 := ⟨j - 1, by omega⟩
  rw [F85.loop0_s, y0 (by omega), y137, show i = l.length by omega, y157]
  show e0 a b = e0 (a + 0) (b + 0)
  rw [Int.add_zero, Int.add_zero]
 | succ n ih =>
  intro i j a b hn hi' hj a1 a2 b1 b2
  obtain ⟨j, rfl⟩ : ∃ j', j = j' + 1 := ⟨j - 1, by omega⟩
  have hlt : i < l.length := by omega
  have hwi := hw l[i] (y160 _)
  have s1 := q443 (b := false) hwi h2 h3
  have s2 := q443 (b := true) hwi h2 h3
  unfold inB at s1 s2
  rw [F85.loop0_s, y135 (by omega), y136, if_pos (by omega), y139, y140 hlt]
  simp only [y138]
  rw [if_pos (by omega), q325 hwi h2, q325 hwi h3, show mm false (l[i] * lo) (l[i] * hi) = side false lo hi l[i] from rfl, show mm true (l[i] * lo) (l[i] * hi) = side true lo hi l[i] from rfl,
   q28 (n := a + side false lo hi l[i]) (by omega) (by omega), q28 (n := b + side true lo hi l[i]) (by omega) (by omega), q22 i (by omega), ih (i + 1) j _ _ (by omega) (by omega) (by omega) (by omega) (by omega) (by omega) (by omega), q284 hlt, q284 hlt, Int.add_assoc, Int.add_assoc]
theorem and_low (n : Int) : ((BitVec.ofInt IntKind.i64.bits n &&& BitVec.ofInt IntKind.i64.bits 4294967295).toNat : Int) = n % 4294967296 := by
 show ((BitVec.ofInt 64 n &&& BitVec.ofInt 64 4294967295).toNat : Int) = _
 rw [BitVec.toNat_and, BitVec.toNat_ofInt, BitVec.toNat_ofInt]
 have e : ((4294967295 : Int) % ((2 ^ 64 : Nat) : Int)).toNat = 2 ^ 32 - 1 := by decide
 rw [e, Nat.and_two_pow_sub_one_eq_mod]
 omega
theorem q703 (k : Nat) {h o n : Int} {i : Nat} (hi : i <= 81) (hn : inB n) (h1 : -1000000 * i <= h) (h2 : h <= 1000000 * i) (o1 : 0 <= o) (o2 : o <= 4294967295 * i) :
  F41 k (h, o) n = some ((), ((h + n.fdiv 4294967296, o + n % 4294967296), ())) := by
 unfold F41
 unfold inB at hn
 have e2 : (2 : Int) ^ (min 32 IntKind.i64.bits) = 4294967296 := by decide
 have e3 : n.fdiv 4294967296 = n / 4294967296 := Int.fdiv_eq_ediv_of_nonneg _ (by omega)
 simp only []
 rw [and_low, e2, e3, q28 (n := n % 4294967296) (by omega) (by omega), q28 (n := h + n / 4294967296) (by omega) (by omega), q28 (n := o + n % 4294967296) (by omega) (by omega)]
theorem fb_loop {R : Type} (k : Nat) (l : List Int) {lo hi : Int} (h2 : -68719476736 <= lo /\ lo <= 68719476736) (h3 : -68719476736 <= hi /\ hi <= 68719476736) (e0 : Int -> Int -> Int -> Int -> Option R) (hl : l.length <= 81) (hw : wP l) : ∀ (n i j : Nat) (a b c d : Int), l.length - i = n -> i <= l.length -> n < j ->
  -1000000 * i <= a -> a <= 1000000 * i -> 0 <= b -> b <= 4294967295 * i -> -1000000 * i <= c -> c <= 1000000 * i -> 0 <= d -> d <= 4294967295 * i ->
  ∃ a' b' c' d', F44.loop0 k j lo hi l l.length i a b c d e0 = e0 a' b' c' d' /\ a' * 4294967296 + b' = a * 4294967296 + b + lsum (side false lo hi) (l.drop i) /\ c' * 4294967296 + d' = c * 4294967296 + d + lsum (side true lo hi) (l.drop i) /\
   -81000000 <= a' /\ a' <= 81000000 /\ 0 <= b' /\ b' <= 347892350895 /\ -81000000 <= c' /\ c' <= 81000000 /\ 0 <= d' /\ d' <= 347892350895 := by
 intro n
 induction n with
 | zero =>
  intro i j a b c d hn hi' hj _ _ _ _ _ _ _ _
  obtain ⟨j, rfl⟩ : ∃ j', j = j' + 1 := ⟨j - 1, by omega⟩
  rw [F44.loop0_s, y0 (by omega), y137, show i = l.length by omega, y157]
  exact ⟨a, b, c, d, rfl, (Int.add_zero _).symm, (Int.add_zero _).symm, by omega, by omega, by omega, by omega, by omega, by omega, by omega, by omega⟩
 | succ n ih =>
  intro i j a b c d hn hi' hj a1 a2 b1 b2 c1 c2 d1 d2
  obtain ⟨j, rfl⟩ : ∃ j', j = j' + 1 := ⟨j - 1, by omega⟩
  have hlt : i < l.length := by omega
  have hwi := hw l[i] (y160 _)
  have s1 := q443 (b := false) hwi h2 h3
  have s2 := q443 (b := true) hwi h2 h3
  rw [F44.loop0_s, y135 (by omega), y136, if_pos (by omega), y139, y140 hlt]
  simp only [y138]
  rw [q325 hwi h2, q325 hwi h3, show mm false (l[i] * lo) (l[i] * hi) = side false lo hi l[i] from rfl, show mm true (l[i] * lo) (l[i] * hi) = side true lo hi l[i] from rfl,
   q703 k (i := i) (by omega) s1 a1 a2 b1 b2, q703 k (i := i) (by omega) s2 c1 c2 d1 d2]
  simp only [y138]
  rw [q22 i (by omega)]
  have e3 : ∀ n : Int, n.fdiv 4294967296 = n / 4294967296 := fun n => Int.fdiv_eq_ediv_of_nonneg _ (by omega)
  unfold inB at s1 s2
  rw [e3, e3]
  obtain ⟨a', b', c', d', h, g1, g2, g3⟩ := ih (i + 1) j (a + side false lo hi l[i] / 4294967296) (b + side false lo hi l[i] % 4294967296) (c + side true lo hi l[i] / 4294967296) (d + side true lo hi l[i] % 4294967296) (by omega) (by omega) (by omega) (by omega) (by omega) (by omega) (by omega) (by omega) (by omega) (by omega) (by omega)
  refine ⟨a', b', c', d', h, ?_, ?_, g3⟩
  ·rw [g1, q284 hlt]; omega
  ·rw [g2, q284 hlt]; omega
theorem q691 (k : Nat) {h o s : Int} (hs : h * 4294967296 + o = s) (h1 : -81000000 <= h) (h2 : h <= 81000000) (o1 : 0 <= o) (o2 : o <= 347892350895) :
  ∃ v, F43 k (h, o) = some ((v, decide (inM s), ()), ((h, o), ())) /\ (inM s -> v = s) := by
 unfold F43
 have hM : inM s ↔ -17592186044416 <= s /\ s <= 17592186044416 := Iff.rfl
 by_cases c1 : h < -1048576
 ·rw [y135 c1, y136, y0 (fun g => by have := hM.1 g; omega)]
  exact ⟨0, rfl, fun g => by have := hM.1 g; omega⟩
 rw [y0 c1, y137]
 by_cases c2 : h > 1048576
 ·rw [y135 c2, y136, y0 (fun g => by have := hM.1 g; omega)]
  exact ⟨0, rfl, fun g => by have := hM.1 g; omega⟩
 rw [y0 c2, y137]
 have e2 : (2 : Int) ^ (min 32 IntKind.i64.bits) = 4294967296 := by decide
 rw [e2, q28 (n := h * 4294967296) (by omega) (by omega), hs, q28 (n := s) (by omega) (by omega), q748]
 exact ⟨s, rfl, fun _ => rfl⟩
def q56 (l : List Int) (lo hi : Int) : Int × Int × Bool :=
 if q238 l = 0 /\ lo <= hi /\ -68719476736 <= lo /\ hi <= 68719476736 /\ inM (lsum (side false lo hi) l) /\ inM (lsum (side true lo hi) l) then (lsum (side false lo hi) l, lsum (side true lo hi) l, true) else (0, 0, false)
theorem wcode0 {l : List Int} (h : q238 l = 0) : l.length <= 81 /\ 1 <= l.length /\ wP l := by
 unfold q238 at h
 by_cases h0 : l.length = 0 \/ 81 < l.length
 ·rw [if_pos h0] at h; omega
 rw [if_neg h0] at h
 by_cases h1 : wP l
 ·exact ⟨by omega, by omega, h1⟩
 ·rw [if_neg h1] at h; omega
theorem rb_ok (k : Nat) (hk : 82 <= k) (l : List Int) (lo hi : Int) : F85 k l lo hi = some (((q56 l lo hi).1, (q56 l lo hi).2.1, (q56 l lo hi).2.2, ()), ()) := by
 unfold F85 q56
 rw [rw_ok k hk, y138]
 by_cases h0 : q238 l = 0
 rotate_left
 ·simp only [q70 h0]; rw [y136, if_neg (fun h => h0 h.1)]
 simp only [q66 h0]
 rw [y137]
 by_cases h1 : lo <= hi
 rotate_left
 ·rw [y135 (p := lo > hi) (by omega), y136, if_neg (fun h => h1 h.2.1)]
 rw [y0 (p := lo > hi) (by omega), y137]
 by_cases h2 : -68719476736 <= lo
 rotate_left
 ·rw [y135 (p := lo < -68719476736) (by omega), y136, if_neg (fun h => h2 h.2.2.1)]
 rw [y0 (p := lo < -68719476736) (by omega), y137]
 by_cases h3 : hi <= 68719476736
 rotate_left
 ·rw [y135 (p := hi > 68719476736) (by omega), y136, if_neg (fun h => h3 h.2.2.2.1)]
 rw [y0 (p := hi > 68719476736) (by omega), y137]
 obtain ⟨w1, _, w2⟩ := wcode0 h0
 refine (rb_loop k l (lo := lo) (hi := hi) (by omega) (by omega) _ w1 w2 l.length 0 k 0 0 rfl (by omega) (by omega) (by omega) (by omega) (by omega) (by omega)).trans ?_
 rw [y152, Int.zero_add, Int.zero_add, q500, y138, q500, y138]
 by_cases m1 : inM (lsum (side false lo hi) l)
 rotate_left
 ·rw [y0 m1, y150, y136, if_neg (fun h => m1 h.2.2.2.2.1)]
 rw [y135 m1, y145, y137]
 by_cases m2 : inM (lsum (side true lo hi) l)
 rotate_left
 ·rw [y0 m2, y150, y136, if_neg (fun h => m2 h.2.2.2.2.2)]
 rw [y135 m2, y145, y137, if_pos ⟨h0, h1, h2, h3, m1, m2⟩]
theorem fb_ok (k : Nat) (hk : 82 <= k) (l : List Int) (lo hi : Int) : F44 k l lo hi = some (((q56 l lo hi).1, (q56 l lo hi).2.1, (q56 l lo hi).2.2, ()), ()) := by
 unfold F44 q56
 rw [fw_ok k hk, y138]
 by_cases h0 : q238 l = 0
 rotate_left
 ·simp only [q70 h0]; rw [y136, if_neg (fun h => h0 h.1)]
 simp only [q66 h0]
 rw [y137]
 by_cases h1 : lo <= hi
 rotate_left
 ·rw [y135 (p := lo > hi) (by omega), y136, if_neg (fun h => h1 h.2.1)]
 rw [y0 (p := lo > hi) (by omega), y137]
 by_cases h2 : -68719476736 <= lo
 rotate_left
 ·rw [y135 (p := lo < -68719476736) (by omega), y136, if_neg (fun h => h2 h.2.2.1)]
 rw [y0 (p := lo < -68719476736) (by omega), y137]
 by_cases h3 : hi <= 68719476736
 rotate_left
 ·rw [y135 (p := hi > 68719476736) (by omega), y136, if_neg (fun h => h3 h.2.2.2.1)]
 rw [y0 (p := hi > 68719476736) (by omega), y137]
 obtain ⟨w1, _, w2⟩ := wcode0 h0
 obtain ⟨a, b, c, d, h, g1, g2, a1, a2, b1, b2, c1, c2, d1, d2⟩ := fb_loop (R := (Int × Int × Bool × Unit) × Unit) k l (lo := lo) (hi := hi) (by omega) (by omega) (fun (z5 : Int) (z6 : Int) (z7 : Int) (z8 : Int) => ((F43 k (z5, z6)).bind fun (y9 : (Int × Bool × Unit) × ((Int × Int) × Unit)) => (F43 k (z7, z8)).bind fun (y10 : (Int × Bool × Unit) × ((Int × Int) × Unit)) => bif !y9.1.2.1 then (some ((0, 0, false, ()), ())) else (bif !y10.1.2.1 then (some ((0, 0, false, ()), ())) else (some ((y9.1.1, y10.1.1, true, ()), ()))))) w1 w2 l.length 0 k 0 0 0 0 rfl (by omega) (by omega) (by omega) (by omega) (by omega) (by omega) (by omega) (by omega) (by omega) (by omega)
 refine Eq.trans h ?_
 rw [y152] at g1 g2
 obtain ⟨v1, e1, f1⟩ := q691 k (s := lsum (side false lo hi) l) (by rw [g1]; omega) a1 a2 b1 b2
 obtain ⟨v2, e2, f2⟩ := q691 k (s := lsum (side true lo hi) l) (by rw [g2]; omega) c1 c2 d1 d2
 simp only [e1, e2, y138]
 by_cases m1 : inM (lsum (side false lo hi) l)
 rotate_left
 ·rw [y0 m1, y150, y136, if_neg (fun h => m1 h.2.2.2.2.1)]
 rw [y135 m1, y145, y137]
 by_cases m2 : inM (lsum (side true lo hi) l)
 rotate_left
 ·rw [y0 m2, y150, y136, if_neg (fun h => m2 h.2.2.2.2.2)]
 rw [y135 m2, y145, y137, if_pos ⟨h0, h1, h2, h3, m1, m2⟩, f1 m1, f2 m2]
theorem q327 {l : List Int} {lo hi : Int} (h : (q56 l lo hi).2.2 = true) : inM (q56 l lo hi).1 /\ inM (q56 l lo hi).2.1 := by
 unfold q56 at h ⊢
 split
 ·rename_i hh; exact ⟨hh.2.2.2.2.1, hh.2.2.2.2.2⟩
 ·rename_i hh; rw [if_neg hh] at h; cases h
theorem q149 {a b n : Int} : (bif decide (n >= a) then (some ((decide (n <= b), ()), ())) else (some ((false, ()), ()))) = some ((decide (a <= n /\ n <= b), ()), ()) := by
 by_cases h : a <= n
 ·rw [y135 (p := n >= a) h, y136]; simp [h]
 ·rw [y0 (p := n >= a) h, y137]; simp [h]
theorem q575 (k : Nat) (n a b : Int) : F32 k n a b = some ((decide (a <= n /\ n <= b), ()), ()) := q149
theorem ckern_ok (k : Nat) (n : Int) : F38 k n = some ((decide (1 <= n /\ n <= 9), ()), ()) := q149
theorem cval_ok (k : Nat) (n : Int) : F40 k n = some ((decide (1 <= n /\ n <= 4294967296), ()), ()) := q149
theorem sval_ok (k : Nat) (n : Int) : F47 k n = some ((decide (1 <= n /\ n <= 4294967296), ()), ()) := q149
theorem sshf_ok (k : Nat) (n : Int) : F46 k n = some ((decide (0 <= n /\ n <= 24), ()), ()) := q149
theorem zval_ok (k : Nat) (n : Int) : F55 k n = some ((decide (1 <= n /\ n <= 4294967296), ()), ()) := q149
theorem zshf_ok (k : Nat) (n : Int) : F54 k n = some ((decide (0 <= n /\ n <= 24), ()), ()) := q149
theorem q592 (k : Nat) (n : Int) : F51 k n = some ((decide (1 <= n /\ n <= 128), ()), ()) := q149
theorem q725 (k : Nat) (n : Int) : F52 k n = some ((decide (-128 <= n /\ n <= 256), ()), ()) := q149
theorem q499 (k : Nat) (n : Int) : F78 k n = some ((decide (1 <= n /\ n <= 9), ()), ()) := q149
theorem q414 (k : Nat) (n : Int) : F82 k n = some ((decide (1 <= n /\ n <= 4294967296), ()), ()) := q149
theorem q448 (k : Nat) (n : Int) : F81 k n = some ((decide (0 <= n /\ n <= 24), ()), ()) := q149
theorem q453 (k : Nat) (n : Int) : F90 k n = some ((decide (1 <= n /\ n <= 128), ()), ()) := q149
theorem q617 (k : Nat) (n : Int) : F91 k n = some ((decide (-128 <= n /\ n <= 256), ()), ()) := q149
theorem r12_ok (k : Nat) (n : Int) : F94 k n = some ((decide (1 <= n /\ n <= 128), ()), ()) := q149
def kP (n : Int) : Prop := 1 <= n /\ n <= 9
instance (n : Int) : Decidable (kP n) := inferInstanceAs (Decidable (_ /\ _))
def vP (n : Int) : Prop := 1 <= n /\ n <= 4294967296
instance (n : Int) : Decidable (vP n) := inferInstanceAs (Decidable (_ /\ _))
def sP (n : Int) : Prop := 0 <= n /\ n <= 24
instance (n : Int) : Decidable (sP n) := inferInstanceAs (Decidable (_ /\ _))
def q695 (m kw kh : Int) (ws : List Int) (s o : Int) : Int :=
 if ¬ kP kw \/ ¬ kP kh \/ (ws.length : Int) ≠ kw * kh then 9 else if ¬ wP ws \/ ¬ sP s then 10 else if ¬ vP m \/ ¬ vP o then 2 else if (q56 ws 0 m).2.2 = true then 0 else 11
theorem conv_ok (k : Nat) (hk : 82 <= k) (m kw kh : Int) (ws : List Int) (s o : Int) : F45 k m kw kh ws s o = some ((q695 m kw kh ws s o, ()), ()) := by
 unfold F45 q695
 simp only [ckern_ok, cval_ok, fw_ok k hk, fb_ok k hk, y138]
 by_cases h1 : kP kw
 rotate_left
 ·rw [y0 (show ¬ (1 <= kw /\ kw <= 9) from h1), y150, y136, if_pos (.inl h1)]
 rw [y135 (show 1 <= kw /\ kw <= 9 from h1), y145, y137]
 by_cases h2 : kP kh
 rotate_left
 ·rw [y0 (show ¬ (1 <= kh /\ kh <= 9) from h2), y150, y136, if_pos (.inr (.inl h2))]
 rw [y135 (show 1 <= kh /\ kh <= 9 from h2), y145, y137]
 have hm := q176 (show 0 <= kw by have := h1.1; omega) h1.2 (show 0 <= kh by have := h2.1; omega) h2.2
 have hm1 : 1 * 1 <= kw * kh := Int.mul_le_mul h1.1 h2.1 (by omega) (by have := h1.1; omega)
 rw [q28 (n := kw * kh) (by omega) (by omega)]
 by_cases h3 : (ws.length : Int) = kw * kh
 rotate_left
 ·rw [q70 h3, y136, if_pos (.inr (.inr h3))]
 rw [q66 h3, y137, if_neg (fun h => h.elim (fun h => h h1) (fun h => h.elim (fun h => h h2) (fun h => h h3)))]
 have hw : q238 ws = if wP ws then 0 else 10 := by unfold q238; rw [if_neg (by omega)]
 rw [hw]
 by_cases h4 : wP ws
 rotate_left
 ·rw [if_neg h4, if_pos (.inl h4)]; rfl
 rw [if_pos h4, bne_self_eq_false, y137]
 by_cases h5 : sP s
 rotate_left
 ·rw [if_pos (.inr h5)]
  by_cases h6 : s < 0
  ·rw [y135 h6, y136]
  ·rw [y0 h6, y137, y135 (p := s > 24) (by unfold sP at h5; omega), y136]
 rw [y0 (p := s < 0) (by have := h5.1; omega), y137, y0 (p := s > 24) (by have := h5.2; omega), y137, if_neg (fun h => h.elim (fun h => h h4) (fun h => h h5))]
 by_cases h7 : vP m
 rotate_left
 ·rw [y0 (show ¬ (1 <= m /\ m <= 4294967296) from h7), y150, y136, if_pos (.inl h7)]
 rw [y135 (show 1 <= m /\ m <= 4294967296 from h7), y145, y137]
 by_cases h8 : vP o
 rotate_left
 ·rw [y0 (show ¬ (1 <= o /\ o <= 4294967296) from h8), y150, y136, if_pos (.inr h8)]
 rw [y135 (show 1 <= o /\ o <= 4294967296 from h8), y145, y137, if_neg (fun h => h.elim (fun h => h h7) (fun h => h h8))]
 cases (q56 ws 0 m).2.2 <;> rfl
theorem rconv_ok (k : Nat) (hk : 82 <= k) (m kw kh : Int) (ws : List Int) (s o : Int) : F86 k m kw kh ws s o = some ((q695 m kw kh ws s o, ()), ()) := by
 unfold F86 q695
 simp only [q499, q414, q448, rb_ok k hk, y138]
 by_cases h1 : kP kw
 rotate_left
 ·rw [y0 (show ¬ (1 <= kw /\ kw <= 9) from h1), y150, y136, if_pos (.inl h1)]
 rw [y135 (show 1 <= kw /\ kw <= 9 from h1), y145, y137]
 by_cases h2 : kP kh
 rotate_left
 ·rw [y0 (show ¬ (1 <= kh /\ kh <= 9) from h2), y150, y136, if_pos (.inr (.inl h2))]
 rw [y135 (show 1 <= kh /\ kh <= 9 from h2), y145, y137]
 have hm := q176 (show 0 <= kw by have := h1.1; omega) h1.2 (show 0 <= kh by have := h2.1; omega) h2.2
 rw [q28 (n := kw * kh) (by omega) (by omega)]
 by_cases h3 : (ws.length : Int) = kw * kh
 rotate_left
 ·rw [q70 h3, y136, if_pos (.inr (.inr h3))]
 rw [q66 h3, y137, if_neg (fun h => h.elim (fun h => h h1) (fun h => h.elim (fun h => h h2) (fun h => h h3))), q694 k (by omega) (by omega), y138]
 by_cases h4 : wP ws
 rotate_left
 ·rw [y0 h4, y150, y136, if_pos (.inl h4)]
 rw [y135 h4, y145, y137]
 by_cases h5 : sP s
 rotate_left
 ·rw [y0 (show ¬ (0 <= s /\ s <= 24) from h5), y150, y136, if_pos (.inr h5)]
 rw [y135 (show 0 <= s /\ s <= 24 from h5), y145, y137, if_neg (fun h => h.elim (fun h => h h4) (fun h => h h5))]
 by_cases h7 : vP m
 rotate_left
 ·rw [y0 (show ¬ (1 <= m /\ m <= 4294967296) from h7), y150, y136, if_pos (.inl h7)]
 rw [y135 (show 1 <= m /\ m <= 4294967296 from h7), y145, y137]
 by_cases h8 : vP o
 rotate_left
 ·rw [y0 (show ¬ (1 <= o /\ o <= 4294967296) from h8), y150, y136, if_pos (.inr h8)]
 rw [y135 (show 1 <= o /\ o <= 4294967296 from h8), y145, y137, if_neg (fun h => h.elim (fun h => h h7) (fun h => h h8))]
 cases (q56 ws 0 m).2.2 <;> rfl
def q745 (row col : List Int) (m s : Int) : Int :=
 if (q56 row 0 m).2.2 = true then if (q56 col (shf (q56 row 0 m).1 s) (shf (q56 row 0 m).2.1 s)).2.2 = true then 0 else 11 else 11
def q643 (m : Int) (row col : List Int) (s s2 o : Int) : Int :=
 if ¬ kP row.length \/ ¬ kP col.length then 9 else if ¬ wP row \/ ¬ wP col \/ ¬ sP s \/ ¬ sP s2 then 10 else if ¬ vP m \/ ¬ vP o then 2 else q745 row col m s
theorem sep_ok (k : Nat) (hk : 82 <= k) (m : Int) (row col : List Int) (s s2 o : Int) : F50 k m row col s s2 o = some ((q643 m row col s s2 o, ()), ()) := by
 unfold F50 q643
 by_cases h1 : kP row.length
 rotate_left
 ·rw [if_pos (.inl h1)]
  by_cases h : (row.length : Int) < 1
  ·rw [y135 h, y136]
  ·rw [y0 h, y137, y135 (p := (row.length : Int) > 9) (by unfold kP at h1; omega), y136]
 rw [y0 (p := (row.length : Int) < 1) (by have := h1.1; omega), y137, y0 (p := (row.length : Int) > 9) (by have := h1.2; omega), y137]
 by_cases h2 : kP col.length
 rotate_left
 ·rw [if_pos (.inr h2)]
  by_cases h : (col.length : Int) < 1
  ·rw [y135 h, y136]
  ·rw [y0 h, y137, y135 (p := (col.length : Int) > 9) (by unfold kP at h2; omega), y136]
 rw [y0 (p := (col.length : Int) < 1) (by have := h2.1; omega), y137, y0 (p := (col.length : Int) > 9) (by have := h2.2; omega), y137, if_neg (fun h => h.elim (fun h => h h1) (fun h => h h2))]
 unfold F50.join3
 simp only [fw_ok k hk, fb_ok k hk, sshf_ok, sval_ok, y138]
 have e1 := h1.1
 have e2 := h1.2
 have e3 := h2.1
 have e4 := h2.2
 have hw1 : q238 row = if wP row then 0 else 10 := by unfold q238; rw [if_neg (by omega)]
 have hw2 : q238 col = if wP col then 0 else 10 := by unfold q238; rw [if_neg (by omega)]
 rw [hw1, hw2]
 by_cases h4 : wP row
 rotate_left
 ·rw [if_neg h4, if_pos (show ¬wP row \/ ¬wP col \/ ¬sP s \/ ¬sP s2 from .inl h4)]; rfl
 rw [if_pos h4, bne_self_eq_false, y137]
 by_cases h5 : wP col
 rotate_left
 ·rw [if_neg h5, if_pos (show ¬wP row \/ ¬wP col \/ ¬sP s \/ ¬sP s2 from .inr (.inl h5))]; rfl
 rw [if_pos h5, bne_self_eq_false, y137]
 by_cases h6 : sP s
 rotate_left
 ·rw [y0 (show ¬ (0 <= s /\ s <= 24) from h6), y150, y136, if_pos (.inr (.inr (.inl h6)))]
 rw [y135 (show 0 <= s /\ s <= 24 from h6), y145, y137]
 by_cases h9 : sP s2
 rotate_left
 ·rw [y0 (show ¬ (0 <= s2 /\ s2 <= 24) from h9), y150, y136, if_pos (.inr (.inr (.inr h9)))]
 rw [y135 (show 0 <= s2 /\ s2 <= 24 from h9), y145, y137, if_neg (fun h => h.elim (fun h => h h4) (fun h => h.elim (fun h => h h5) (fun h => h.elim (fun h => h h6) (fun h => h h9))))]
 by_cases h7 : vP m
 rotate_left
 ·rw [y0 (show ¬ (1 <= m /\ m <= 4294967296) from h7), y150, y136, if_pos (.inl h7)]
 rw [y135 (show 1 <= m /\ m <= 4294967296 from h7), y145, y137]
 by_cases h8 : vP o
 rotate_left
 ·rw [y0 (show ¬ (1 <= o /\ o <= 4294967296) from h8), y150, y136, if_pos (.inr h8)]
 rw [y135 (show 1 <= o /\ o <= 4294967296 from h8), y145, y137, if_neg (fun h => h.elim (fun h => h h7) (fun h => h h8))]
 unfold q745
 cases hb : (q56 row 0 m).2.2 with
 | false => rfl
 | true =>
  obtain ⟨i1, i2⟩ := q327 hb
  rw [y136, q524 k i1 i2 h6.1 h6.2, y138, if_pos rfl]
  cases (q56 col (shf (q56 row 0 m).1 s) (shf (q56 row 0 m).2.1 s)).2.2 <;> rfl
theorem rsep_ok (k : Nat) (hk : 82 <= k) (m : Int) (row col : List Int) (s s2 o : Int) : F89 k m row col s s2 o = some ((q643 m row col s s2 o, ()), ()) := by
 unfold F89 q643
 simp only [q499, q414, q448, y138]
 by_cases h1 : kP row.length
 rotate_left
 ·rw [y0 (show ¬ (1 <= (row.length : Int) /\ (row.length : Int) <= 9) from h1), y150, y136, if_pos (.inl h1)]
 rw [y135 (show 1 <= (row.length : Int) /\ (row.length : Int) <= 9 from h1), y145, y137]
 by_cases h2 : kP col.length
 rotate_left
 ·rw [y0 (show ¬ (1 <= (col.length : Int) /\ (col.length : Int) <= 9) from h2), y150, y136, if_pos (.inr h2)]
 rw [y135 (show 1 <= (col.length : Int) /\ (col.length : Int) <= 9 from h2), y145, y137, if_neg (fun h => h.elim (fun h => h h1) (fun h => h h2))]
 have e2 := h1.2
 have e4 := h2.2
 rw [q694 k (l := row) (by omega) (by omega), y138, q694 k (l := col) (by omega) (by omega), y138]
 by_cases h4 : wP row
 rotate_left
 ·rw [y0 h4, y150, y136, if_pos (.inl h4)]
 rw [y135 h4, y145, y137]
 by_cases h5 : wP col
 rotate_left
 ·rw [y0 h5, y150, y136, if_pos (.inr (.inl h5))]
 rw [y135 h5, y145, y137]
 by_cases h6 : sP s
 rotate_left
 ·rw [y0 (show ¬ (0 <= s /\ s <= 24) from h6), y150, y136, if_pos (.inr (.inr (.inl h6)))]
 rw [y135 (show 0 <= s /\ s <= 24 from h6), y145, y137]
 by_cases h9 : sP s2
 rotate_left
 ·rw [y0 (show ¬ (0 <= s2 /\ s2 <= 24) from h9), y150, y136, if_pos (.inr (.inr (.inr h9)))]
 rw [y135 (show 0 <= s2 /\ s2 <= 24 from h9), y145, y137, if_neg (fun h => h.elim (fun h => h h4) (fun h => h.elim (fun h => h h5) (fun h => h.elim (fun h => h h6) (fun h => h h9))))]
 by_cases h7 : vP m
 rotate_left
 ·rw [y0 (show ¬ (1 <= m /\ m <= 4294967296) from h7), y150, y136, if_pos (.inl h7)]
 rw [y135 (show 1 <= m /\ m <= 4294967296 from h7), y145, y137]
 by_cases h8 : vP o
 rotate_left
 ·rw [y0 (show ¬ (1 <= o /\ o <= 4294967296) from h8), y150, y136, if_pos (.inr h8)]
 rw [y135 (show 1 <= o /\ o <= 4294967296 from h8), y145, y137, if_neg (fun h => h.elim (fun h => h h7) (fun h => h h8))]
 unfold F89.join7 q745
 simp only [rb_ok k hk, y138]
 cases hb : (q56 row 0 m).2.2 with
 | false => rfl
 | true =>
  obtain ⟨i1, i2⟩ := q327 hb
  rw [y145, y137, q435 k i1 i2 h6.1 h6.2, y138, if_pos rfl]
  cases (q56 col (shf (q56 row 0 m).1 s) (shf (q56 row 0 m).2.1 s)).2.2 <;> rfl
abbrev Tp' := Int × List Int
def q117 (t : Tp') : Int := if t.2.length = 0 \/ 8 < t.2.length then 9 else if ¬ wP t.2 then 10 else if -128 <= t.1 /\ t.1 <= 256 then 0 else 2
def tgo : List Tp' -> Int
 | [] => 0
 | t :: l => if q117 t = 0 then tgo l else q117 t
theorem q590 {l : List Tp'} {i : Nat} (hi : i < l.length) : tgo (l.drop i) = if q117 l[i] = 0 then tgo (l.drop (i + 1)) else q117 l[i] := by
 rw [y147 hi]; rfl
theorem tv1_loop {R : Type} (k : Nat) (l : List Int) (e0 : Int -> Option R) (e1 : Unit -> Option R) (hl : l.length <= 4294967296) : ∀ (n i j : Nat), l.length - i = n -> i <= l.length -> n < j ->
  F53.loop1 k j l l.length i e0 e1 = if wP (l.drop i) then e1 () else e0 10 := by
 intro n
 induction n with
 | zero =>
  intro i j hn hi hj
  obtain ⟨j, rfl⟩ : ∃ j', j = j' + 1 := ⟨j - 1, by omega⟩
  rw [F53.loop1_s, y0 (by omega), y137, show i = l.length by omega, y157, if_pos q655]
 | succ n ih =>
  intro i j hn hi hj
  obtain ⟨j, rfl⟩ : ∃ j', j = j' + 1 := ⟨j - 1, by omega⟩
  have hlt : i < l.length := by omega
  rw [F53.loop1_s, y135 (by omega), y136, if_pos (by omega), y139, y140 hlt, y138, q22 i (by omega), ih (i + 1) j (by omega) (by omega) (by omega)]
  by_cases h1 : l[i] < -32767
  ·rw [y135 h1, y136, if_neg (fun h => by have := ((q144 hlt).1 h).1; omega)]
  rw [y0 h1, y137]
  by_cases h2 : l[i] > 32767
  ·rw [y135 h2, y136, if_neg (fun h => by have := ((q144 hlt).1 h).1; omega)]
  rw [y0 h2, y137]
  by_cases h3 : wP (l.drop (i + 1))
  ·rw [if_pos h3, if_pos ((q144 hlt).2 ⟨by omega, h3⟩)]
  ·rw [if_neg h3, if_neg (fun h => h3 ((q144 hlt).1 h).2)]
theorem tv0_loop {R : Type} (k : Nat) (hk : 9 <= k) (l : List Tp') (e0 : Int -> Option R) (e1 : Unit -> Option R) (hl : l.length <= 4294967296) : ∀ (n i j : Nat), l.length - i = n -> i <= l.length -> n < j ->
  F53.loop0 k j l l.length i e0 e1 = if tgo (l.drop i) = 0 then e1 () else e0 (tgo (l.drop i)) := by
 intro n
 induction n with
 | zero =>
  intro i j hn hi hj
  obtain ⟨j, rfl⟩ : ∃ j', j = j' + 1 := ⟨j - 1, by omega⟩
  rw [F53.loop0_s, y0 (by omega), y137, show i = l.length by omega, y157, if_pos (show tgo [] = 0 from rfl)]
 | succ n ih =>
  intro i j hn hi hj
  obtain ⟨j, rfl⟩ : ∃ j', j = j' + 1 := ⟨j - 1, by omega⟩
  have hlt : i < l.length := by omega
  rw [F53.loop0_s, y135 (by omega), y136, if_pos (by omega), y139, y140 hlt, y138, q22 i (by omega), ih (i + 1) j (by omega) (by omega) (by omega), q590 hlt]
  generalize l[i] = t
  have put : ∀ c, q117 t = c -> c ≠ 0 -> e0 c = if (if q117 t = 0 then tgo (l.drop (i + 1)) else q117 t) = 0 then e1 () else e0 (if q117 t = 0 then tgo (l.drop (i + 1)) else q117 t) := by
   intro c hc h0
   rw [hc, if_neg h0, if_neg h0]
  by_cases h0 : t.2.length = 0
  ·have e : ((t.2.length : Int) == 0) = true := beq_iff_eq.2 (by omega)
   rw [e, y136]
   exact put 9 (by unfold q117; rw [if_pos (.inl h0)]) (by omega)
  have e : ((t.2.length : Int) == 0) = false := y165.2 (by omega)
  rw [e, y137]
  by_cases h8 : 8 < t.2.length
  ·rw [y135 (p := (t.2.length : Int) > 8) (by omega), y136]
   exact put 9 (by unfold q117; rw [if_pos (.inr h8)]) (by omega)
  rw [y0 (p := (t.2.length : Int) > 8) (by omega), y137]
  have t1 := tv1_loop k t.2 e0 (fun (_ : Unit) => ((F52 k t.1).bind fun (y5 : (Bool × Unit) × Unit) => bif !y5.1.1 then (e0 2) else (if tgo (l.drop (i + 1)) = 0 then e1 () else e0 (tgo (l.drop (i + 1)))))) (by omega) t.2.length 0 k rfl (by omega) (by omega)
  refine Eq.trans t1 ?_
  rw [y152]
  have hd : ¬ (t.2.length = 0 \/ 8 < t.2.length) := by omega
  by_cases hw : wP t.2
  ·rw [if_pos hw, q725, y138]
   by_cases hf : -128 <= t.1 /\ t.1 <= 256
   ·have : q117 t = 0 := by unfold q117; rw [if_neg hd, if_neg (fun h => h hw), if_pos hf]
    rw [y135 hf, y145, y137, if_pos this]
   ·rw [y0 hf, y150, y136]
    exact put 2 (by unfold q117; rw [if_neg hd, if_neg (fun h => h hw), if_neg hf]) (by omega)
  ·rw [if_neg hw]
   exact put 10 (by unfold q117; rw [if_neg hd, if_pos hw]) (by omega)
theorem rtv_loop {R : Type} (k : Nat) (hk : 9 <= k) (l : List Tp') (e0 : Int -> Option R) (e1 : Unit -> Option R) (hl : l.length <= 4294967296) : ∀ (n i j : Nat), l.length - i = n -> i <= l.length -> n < j ->
  F92.loop0 k j l i e0 e1 = if tgo (l.drop i) = 0 then e1 () else e0 (tgo (l.drop i)) := by
 intro n
 induction n with
 | zero =>
  intro i j hn hi hj
  obtain ⟨j, rfl⟩ : ∃ j', j = j' + 1 := ⟨j - 1, by omega⟩
  rw [F92.loop0_s, y0 (by omega), y137, show i = l.length by omega, y157, if_pos (show tgo [] = 0 from rfl)]
 | succ n ih =>
  intro i j hn hi hj
  obtain ⟨j, rfl⟩ : ∃ j', j = j' + 1 := ⟨j - 1, by omega⟩
  have hlt : i < l.length := by omega
  rw [F92.loop0_s, y135 (by omega), y136, if_pos (by omega), y139, y140 hlt, y138, q22 i (by omega), ih (i + 1) j (by omega) (by omega) (by omega), q590 hlt]
  generalize l[i] = t
  have put : ∀ c, q117 t = c -> c ≠ 0 -> e0 c = if (if q117 t = 0 then tgo (l.drop (i + 1)) else q117 t) = 0 then e1 () else e0 (if q117 t = 0 then tgo (l.drop (i + 1)) else q117 t) := by
   intro c hc h0
   rw [hc, if_neg h0, if_neg h0]
  by_cases h0 : t.2.length = 0
  ·have e : ((t.2.length : Int) == 0) = true := beq_iff_eq.2 (by omega)
   rw [e, y136]
   exact put 9 (by unfold q117; rw [if_pos (.inl h0)]) (by omega)
  have e : ((t.2.length : Int) == 0) = false := y165.2 (by omega)
  rw [e, y137]
  by_cases h8 : 8 < t.2.length
  ·rw [y135 (p := (t.2.length : Int) > 8) (by omega), y136]
   exact put 9 (by unfold q117; rw [if_pos (.inr h8)]) (by omega)
  rw [y0 (p := (t.2.length : Int) > 8) (by omega), y137, q694 k (by omega) (by omega), y138]
  have hd : ¬ (t.2.length = 0 \/ 8 < t.2.length) := by omega
  by_cases hw : wP t.2
  ·rw [y135 hw, y145, y137, q617, y138]
   by_cases hf : -128 <= t.1 /\ t.1 <= 256
   ·have : q117 t = 0 := by unfold q117; rw [if_neg hd, if_neg (fun h => h hw), if_pos hf]
    rw [y135 hf, y145, y137, if_pos this]
   ·rw [y0 hf, y150, y136]
    exact put 2 (by unfold q117; rw [if_neg hd, if_neg (fun h => h hw), if_neg hf]) (by omega)
  ·rw [y0 hw, y150, y136]
   exact put 10 (by unfold q117; rw [if_neg hd, if_pos hw]) (by omega)
def lP (n : Int) : Prop := 1 <= n /\ n <= 128
instance (n : Int) : Decidable (lP n) := inferInstanceAs (Decidable (_ /\ _))
def q162 (l : List Tp') (n : Int) : Int := if ¬ lP n \/ ¬ lP l.length then 8 else tgo l
theorem tv_ok (k : Nat) (hk : 129 <= k) (l : List Tp') (n : Int) : F53 k l n = some ((q162 l n, ()), ()) := by
 unfold F53 q162
 rw [q592, q592, y138, y138]
 by_cases h1 : lP n
 rotate_left
 ·rw [y0 (show ¬ (1 <= n /\ n <= 128) from h1), y150, y136, if_pos (.inl h1)]
 rw [y135 (show 1 <= n /\ n <= 128 from h1), y145, y137]
 by_cases h2 : lP l.length
 rotate_left
 ·rw [y0 (show ¬ (1 <= (l.length : Int) /\ (l.length : Int) <= 128) from h2), y150, y136, if_pos (.inr h2)]
 rw [y135 (show 1 <= (l.length : Int) /\ (l.length : Int) <= 128 from h2), y145, y137, if_neg (fun h => h.elim (fun h => h h1) (fun h => h h2))]
 have e2 := h2.2
 refine (tv0_loop k (by omega) l _ _ (by omega) l.length 0 k rfl (by omega) (by omega)).trans ?_
 rw [y152]
 by_cases h : tgo l = 0
 ·rw [if_pos h, h]
 ·rw [if_neg h]
theorem rtv_ok (k : Nat) (hk : 129 <= k) (l : List Tp') (n : Int) : F92 k l n = some ((q162 l n, ()), ()) := by
 unfold F92 q162
 rw [q453, q453, y138, y138]
 by_cases h1 : lP n
 rotate_left
 ·rw [y0 (show ¬ (1 <= n /\ n <= 128) from h1), y150, y136, if_pos (.inl h1)]
 rw [y135 (show 1 <= n /\ n <= 128 from h1), y145, y137]
 by_cases h2 : lP l.length
 rotate_left
 ·rw [y0 (show ¬ (1 <= (l.length : Int) /\ (l.length : Int) <= 128) from h2), y150, y136, if_pos (.inr h2)]
 rw [y135 (show 1 <= (l.length : Int) /\ (l.length : Int) <= 128 from h2), y145, y137, if_neg (fun h => h.elim (fun h => h h1) (fun h => h h2))]
 have e2 := h2.2
 refine (rtv_loop k (by omega) l _ _ (by omega) l.length 0 k rfl (by omega) (by omega)).trans ?_
 rw [y152]
 by_cases h : tgo l = 0
 ·rw [if_pos h, h]
 ·rw [if_neg h]
def rx (m s : Int) : List Tp' -> Bool -> Int -> Int -> Option (Int × Int)
 | [], _, lo, hi => some (lo, hi)
 | t :: l, f, lo, hi => if (q56 t.2 0 m).2.2 = true then
   if f = true then rx m s l false (mm false (shf (q56 t.2 0 m).1 s) (shf (q56 t.2 0 m).1 s)) (mm true (shf (q56 t.2 0 m).2.1 s) (shf (q56 t.2 0 m).2.1 s))
   else rx m s l false (mm false lo (shf (q56 t.2 0 m).1 s)) (mm true hi (shf (q56 t.2 0 m).2.1 s))
  else none
theorem q734 (m s : Int) (t : Tp') (l : List Tp') (f : Bool) (lo hi : Int) : rx m s (t :: l) f lo hi = if (q56 t.2 0 m).2.2 = true then
   if f = true then rx m s l false (mm false (shf (q56 t.2 0 m).1 s) (shf (q56 t.2 0 m).1 s)) (mm true (shf (q56 t.2 0 m).2.1 s) (shf (q56 t.2 0 m).2.1 s))
   else rx m s l false (mm false lo (shf (q56 t.2 0 m).1 s)) (mm true hi (shf (q56 t.2 0 m).2.1 s))
  else none := rfl
def ry (lo hi : Int) (l : List Tp') : Prop := ∀ t ∈ l, (q56 t.2 lo hi).2.2 = true
instance (lo hi : Int) (l : List Tp') : Decidable (ry lo hi l) := inferInstanceAs (Decidable (∀ t ∈ l, _))
theorem ry_nil (lo hi : Int) : ry lo hi [] := fun x h => by cases h
theorem q300 {lo hi : Int} {l : List Tp'} {i : Nat} (hi' : i < l.length) : ry lo hi (l.drop i) ↔ (q56 l[i].2 lo hi).2.2 = true /\ ry lo hi (l.drop (i + 1)) := by
 unfold ry
 constructor
 ·intro h
  rw [y147 hi'] at h
  exact ⟨h _ (y169), fun x hx => h x (y155 _ hx)⟩
 ·rintro ⟨h1, h2⟩ x hx
  rw [y147 hi'] at hx
  rcases y166.1 hx with rfl | hx
  ·exact h1
  ·exact h2 x hx
def outc {R : Type} (e0 : Int -> Option R) (e1 : Int -> Int -> Option R) : Option (Int × Int) -> Option R
 | some (a, b) => e1 a b
 | none => e0 11
theorem z0_loop {R : Type} (k : Nat) (hk : 82 <= k) (l : List Tp') {s : Int} (hs : sP s) (b0 b1 m : Int) (e0 : Int -> Option R) (e1 : Int -> Int -> Option R) (hl : l.length <= 4294967296) : ∀ (n i j : Nat) (lo hi : Int), l.length - i = n -> i <= l.length -> n < j ->
  F56.loop0 k j s lo hi l l.length i b0 b1 m e0 e1 = outc e0 e1 (rx m s (l.drop i) (decide (i = 0)) lo hi) := by
 intro n
 induction n with
 | zero =>
  intro i j lo hi hn hi' hj
  obtain ⟨j, rfl⟩ : ∃ j', j = j' + 1 := ⟨j - 1, by omega⟩
  rw [F56.loop0_s, y0 (p := (i : Int) < _) (by omega), y137, List.drop_eq_nil_of_le (by omega)]
  rfl
 | succ n ih =>
  intro i j lo hi hn hi' hj
  obtain ⟨j, rfl⟩ : ∃ j', j = j' + 1 := ⟨j - 1, by omega⟩
  have hlt : i < l.length := by omega
  rw [F56.loop0_s, y135 (p := (i : Int) < _) (by omega), y136, if_pos (by omega), y139, y140 hlt, y138, q22 i (by omega), fb_ok k hk, y138, y147 hlt]
  simp only [ih (i + 1) j _ _ (by omega) (by omega) (by omega)]
  have h1 : decide (i + 1 = 0) = false := y0 (by omega)
  rw [h1, q734]
  cases hb : (q56 l[i].2 0 m).2.2 with
  | false => rw [if_neg (by simp)]; rfl
  | true =>
   obtain ⟨i1, i2⟩ := q327 hb
   rw [y145, y137, q524 k i1 i2 hs.1 hs.2, y138, if_pos rfl]
   by_cases h0 : i = 0
   ·have e : ((i : Int) == 0) = true := beq_iff_eq.2 (by omega)
    rw [e, y136, if_pos (y135 h0)]
   ·have e : ((i : Int) == 0) = false := y165.2 (by omega)
    rw [e, y137, if_neg (by rw [y0 h0]; simp)]
theorem rz0_loop {R : Type} (k : Nat) (hk : 82 <= k) (l : List Tp') {s : Int} (hs : sP s) (b0 b1 m : Int) (e0 : Int -> Option R) (e1 : Int -> Int -> Option R) (hl : l.length <= 4294967296) : ∀ (n i j : Nat) (lo hi : Int), l.length - i = n -> i <= l.length -> n < j ->
  F93.loop0 k j l s lo hi i b0 b1 m e0 e1 = outc e0 e1 (rx m s (l.drop i) (decide (i = 0)) lo hi) := by
 intro n
 induction n with
 | zero =>
  intro i j lo hi hn hi' hj
  obtain ⟨j, rfl⟩ : ∃ j', j = j' + 1 := ⟨j - 1, by omega⟩
  rw [F93.loop0_s, y0 (p := (i : Int) < _) (by omega), y137, List.drop_eq_nil_of_le (by omega)]
  rfl
 | succ n ih =>
  intro i j lo hi hn hi' hj
  obtain ⟨j, rfl⟩ : ∃ j', j = j' + 1 := ⟨j - 1, by omega⟩
  have hlt : i < l.length := by omega
  rw [F93.loop0_s, y135 (p := (i : Int) < _) (by omega), y136, if_pos (by omega), y139, y140 hlt, y138, q22 i (by omega), rb_ok k hk, y138, y147 hlt]
  simp only [ih (i + 1) j _ _ (by omega) (by omega) (by omega)]
  have h1 : decide (i + 1 = 0) = false := y0 (by omega)
  rw [h1, q734]
  cases hb : (q56 l[i].2 0 m).2.2 with
  | false => rw [if_neg (by simp)]; rfl
  | true =>
   obtain ⟨i1, i2⟩ := q327 hb
   rw [y145, y137, q435 k i1 i2 hs.1 hs.2, y138, if_pos rfl]
   by_cases h0 : i = 0
   ·have e : ((i : Int) == 0) = true := beq_iff_eq.2 (by omega)
    rw [e, y136, if_pos (y135 h0)]
   ·have e : ((i : Int) == 0) = false := y165.2 (by omega)
    rw [e, y137, if_neg (by rw [y0 h0]; simp)]
theorem z1_loop {R : Type} (k : Nat) (hk : 82 <= k) (l : List Tp') (lo hi : Int) (e0 : Int -> Option R) (e1 : Unit -> Option R) (hl : l.length <= 4294967296) : ∀ (n i j : Nat), l.length - i = n -> i <= l.length -> n < j ->
  F56.loop1 k j lo hi l l.length i e0 e1 = if ry lo hi (l.drop i) then e1 () else e0 11 := by
 intro n
 induction n with
 | zero =>
  intro i j hn hi' hj
  obtain ⟨j, rfl⟩ : ∃ j', j = j' + 1 := ⟨j - 1, by omega⟩
  rw [F56.loop1_s, y0 (by omega), y137, List.drop_eq_nil_of_le (by omega), if_pos (ry_nil _ _)]
 | succ n ih =>
  intro i j hn hi' hj
  obtain ⟨j, rfl⟩ : ∃ j', j = j' + 1 := ⟨j - 1, by omega⟩
  have hlt : i < l.length := by omega
  rw [F56.loop1_s, y135 (by omega), y136, if_pos (by omega), y139, y140 hlt, y138, q22 i (by omega), fb_ok k hk, y138, ih (i + 1) j (by omega) (by omega) (by omega)]
  cases hb : (q56 l[i].2 lo hi).2.2 with
  | false => rw [y150, y136, if_neg (fun h => by have := ((q300 hlt).1 h).1; rw [hb] at this; cases this)]
  | true =>
   rw [y145, y137]
   by_cases h3 : ry lo hi (l.drop (i + 1))
   ·rw [if_pos h3, if_pos ((q300 hlt).2 ⟨hb, h3⟩)]
   ·rw [if_neg h3, if_neg (fun h => h3 ((q300 hlt).1 h).2)]
theorem rz1_loop {R : Type} (k : Nat) (hk : 82 <= k) (l : List Tp') (lo hi : Int) (e0 : Int -> Option R) (e1 : Unit -> Option R) (hl : l.length <= 4294967296) : ∀ (n i j : Nat), l.length - i = n -> i <= l.length -> n < j ->
  F93.loop1 k j l lo hi i e0 e1 = if ry lo hi (l.drop i) then e1 () else e0 11 := by
 intro n
 induction n with
 | zero =>
  intro i j hn hi' hj
  obtain ⟨j, rfl⟩ : ∃ j', j = j' + 1 := ⟨j - 1, by omega⟩
  rw [F93.loop1_s, y0 (by omega), y137, List.drop_eq_nil_of_le (by omega), if_pos (ry_nil _ _)]
 | succ n ih =>
  intro i j hn hi' hj
  obtain ⟨j, rfl⟩ : ∃ j', j = j' + 1 := ⟨j - 1, by omega⟩
  have hlt : i < l.length := by omega
  rw [F93.loop1_s, y135 (by omega), y136, if_pos (by omega), y139, y140 hlt, y138, q22 i (by omega), rb_ok k hk, y138, ih (i + 1) j (by omega) (by omega) (by omega)]
  cases hb : (q56 l[i].2 lo hi).2.2 with
  | false => rw [y150, y136, if_neg (fun h => by have := ((q300 hlt).1 h).1; rw [hb] at this; cases this)]
  | true =>
   rw [y145, y137]
   by_cases h3 : ry lo hi (l.drop (i + 1))
   ·rw [if_pos h3, if_pos ((q300 hlt).2 ⟨hb, h3⟩)]
   ·rw [if_neg h3, if_neg (fun h => h3 ((q300 hlt).1 h).2)]
def zend (m s : Int) (x y : List Tp') : Int := match rx m s x true 0 0 with
 | some (a, b) => if ry a b y then 0 else 11
 | none => 11
def q711 (sh : Int × Int × Int) (x y : List Tp') (s s2 o : Int) : Int :=
 if q162 x sh.1 ≠ 0 then q162 x sh.1 else if q162 y sh.2.1 ≠ 0 then q162 y sh.2.1 else if 4096 < x.length * y.length then 8
 else if ¬ sP s \/ ¬ sP s2 then 10 else if ¬ vP sh.2.2 \/ ¬ vP o then 2 else zend sh.2.2 s x y
theorem q427 {l : List Tp'} {n : Int} (h : q162 l n = 0) : l.length <= 128 := by
 unfold q162 at h
 by_cases h1 : ¬ lP n \/ ¬ lP l.length
 ·rw [if_pos h1] at h; omega
 ·by_cases h2 : lP l.length
  ·have := h2.2; omega
  ·exact absurd (.inr h2) h1
theorem res_ok (k : Nat) (hk : 129 <= k) (sh : Int × Int × Int) (x y : List Tp') (s s2 o : Int) : F56 k sh x y s s2 o = some ((q711 sh x y s s2 o, ()), ()) := by
 unfold F56 q711
 rw [tv_ok k hk, y138]
 by_cases h1 : q162 x sh.1 = 0
 rotate_left
 ·simp only [q70 h1]; rw [y136, if_pos h1]
 simp only [q66 h1]
 rw [y137, if_neg (fun h => h h1), tv_ok k hk, y138]
 by_cases h2 : q162 y sh.2.1 = 0
 rotate_left
 ·simp only [q70 h2]; rw [y136, if_pos h2]
 simp only [q66 h2]
 rw [y137, if_neg (fun h => h h2)]
 have l1 := q427 h1
 have l2 := q427 h2
 have hxy : x.length * y.length <= 128 * 128 := Nat.mul_le_mul l1 l2
 have ec : ((x.length : Int) * (y.length : Int)) = ((x.length * y.length : Nat) : Int) := by simp
 obtain ⟨v, hv, _⟩ := q477 k (a := (x.length : Int)) (b := (y.length : Int)) (c := 4096) (by omega) (by omega)
 rw [hv, y138]
 by_cases h3 : 4096 < x.length * y.length
 ·rw [y0 (fun h => by have := h.2.2; omega), y150, y136, if_pos h3]
 rw [y135 (⟨by omega, by omega, by omega⟩ : 0 <= (x.length : Int) /\ 0 <= (y.length : Int) /\ (x.length : Int) * (y.length : Int) <= 4096), y145, y137, if_neg h3]
 simp only [zshf_ok, zval_ok, y138]
 by_cases h6 : sP s
 rotate_left
 ·rw [y0 (show ¬ (0 <= s /\ s <= 24) from h6), y150, y136, if_pos (.inl h6)]
 rw [y135 (show 0 <= s /\ s <= 24 from h6), y145, y137]
 by_cases h9 : sP s2
 rotate_left
 ·rw [y0 (show ¬ (0 <= s2 /\ s2 <= 24) from h9), y150, y136, if_pos (.inr h9)]
 rw [y135 (show 0 <= s2 /\ s2 <= 24 from h9), y145, y137, if_neg (fun h => h.elim (fun h => h h6) (fun h => h h9))]
 by_cases h7 : vP sh.2.2
 rotate_left
 ·rw [y0 (show ¬ (1 <= sh.2.2 /\ sh.2.2 <= 4294967296) from h7), y150, y136, if_pos (.inl h7)]
 rw [y135 (show 1 <= sh.2.2 /\ sh.2.2 <= 4294967296 from h7), y145, y137]
 by_cases h8 : vP o
 rotate_left
 ·rw [y0 (show ¬ (1 <= o /\ o <= 4294967296) from h8), y150, y136, if_pos (.inr h8)]
 rw [y135 (show 1 <= o /\ o <= 4294967296 from h8), y145, y137, if_neg (fun h => h.elim (fun h => h h7) (fun h => h h8))]
 refine (z0_loop k (by omega) x h6 _ _ _ _ _ (by omega) x.length 0 k 0 0 rfl (by omega) (by omega)).trans ?_
 rw [y152]
 unfold zend
 rw [show decide ((0 : Nat) = 0) = true from rfl]
 cases rx sh.2.2 s x true 0 0 with
 | none => rfl
 | some ab =>
  obtain ⟨a, b⟩ := ab
  refine (z1_loop k (by omega) y a b _ _ (by omega) y.length 0 k rfl (by omega) (by omega)).trans ?_
  rw [y152]
  simp only
  by_cases h : ry a b y
  ·rw [if_pos h, if_pos h]
  ·rw [if_neg h, if_neg h]
theorem rres_ok (k : Nat) (hk : 129 <= k) (sh : Int × Int × Int) (x y : List Tp') (s s2 o : Int) : F93 k sh x y s s2 o = some ((q711 sh x y s s2 o, ()), ()) := by
 unfold F93 q711
 rw [rtv_ok k hk, y138]
 by_cases h1 : q162 x sh.1 = 0
 rotate_left
 ·simp only [q70 h1]; rw [y136, if_pos h1]
 simp only [q66 h1]
 rw [y137, if_neg (fun h => h h1), rtv_ok k hk, y138]
 by_cases h2 : q162 y sh.2.1 = 0
 rotate_left
 ·simp only [q70 h2]; rw [y136, if_pos h2]
 simp only [q66 h2]
 rw [y137, if_neg (fun h => h h2)]
 have l1 := q427 h1
 have l2 := q427 h2
 have hxy : x.length * y.length <= 128 * 128 := Nat.mul_le_mul l1 l2
 have ec : ((x.length : Int) * (y.length : Int)) = ((x.length * y.length : Nat) : Int) := by simp
 rw [ec, q28 (by omega) (by omega)]
 by_cases h3 : 4096 < x.length * y.length
 ·rw [y135 (by omega), y136, if_pos h3]
 rw [y0 (by omega), y137, if_neg h3]
 simp only [q448, q414, y138]
 by_cases h6 : sP s
 rotate_left
 ·rw [y0 (show ¬ (0 <= s /\ s <= 24) from h6), y150, y136, if_pos (.inl h6)]
 rw [y135 (show 0 <= s /\ s <= 24 from h6), y145, y137]
 by_cases h9 : sP s2
 rotate_left
 ·rw [y0 (show ¬ (0 <= s2 /\ s2 <= 24) from h9), y150, y136, if_pos (.inr h9)]
 rw [y135 (show 0 <= s2 /\ s2 <= 24 from h9), y145, y137, if_neg (fun h => h.elim (fun h => h h6) (fun h => h h9))]
 by_cases h7 : vP sh.2.2
 rotate_left
 ·rw [y0 (show ¬ (1 <= sh.2.2 /\ sh.2.2 <= 4294967296) from h7), y150, y136, if_pos (.inl h7)]
 rw [y135 (show 1 <= sh.2.2 /\ sh.2.2 <= 4294967296 from h7), y145, y137]
 by_cases h8 : vP o
 rotate_left
 ·rw [y0 (show ¬ (1 <= o /\ o <= 4294967296) from h8), y150, y136, if_pos (.inr h8)]
 rw [y135 (show 1 <= o /\ o <= 4294967296 from h8), y145, y137, if_neg (fun h => h.elim (fun h => h h7) (fun h => h h8))]
 refine (rz0_loop k (by omega) x h6 _ _ _ _ _ (by omega) x.length 0 k 0 0 rfl (by omega) (by omega)).trans ?_
 rw [y152]
 unfold zend
 rw [show decide ((0 : Nat) = 0) = true from rfl]
 cases rx sh.2.2 s x true 0 0 with
 | none => rfl
 | some ab =>
  obtain ⟨a, b⟩ := ab
  refine (rz1_loop k (by omega) y a b _ _ (by omega) y.length 0 k rfl (by omega) (by omega)).trans ?_
  rw [y152]
  simp only
  by_cases h : ry a b y
  ·rw [if_pos h, if_pos h]
  ·rw [if_neg h, if_neg h]
abbrev Sg := Int × Int × Int × Bool × (Int × Int) × Int × Int × (List Int) × (List Int) × (List Int) × Int × Int × (List (Int × List Int)) × (List (Int × List Int)) × Int × (List (Int × Int)) × Int
abbrev Sh := Int × Int × Int
theorem q671 {α β : Type} (f : α -> β) (c : Bool) (a b : α) : (bif c then f a else f b) = f (bif c then a else b) := by cases c <;> rfl
theorem q714 (k : Nat) {a b c : Int} (hc : 0 <= c) (hc2 : c <= 4611686018427387904) : ∃ v, F95 k a b c = some ((v, decide (0 <= a /\ 0 <= b /\ a * b <= c), ()), ()) /\ (0 <= a /\ 0 <= b /\ a * b <= c -> v = a * b) := by
 unfold F95
 by_cases ha : a < 0
 ·rw [y135 ha, y136, y0 (p := 0 <= a /\ _) (fun h => by omega)]
  exact ⟨_, rfl, fun h => by omega⟩
 rw [y0 ha, y137]
 by_cases hb : b < 0
 ·rw [y135 hb, y136, y0 (p := 0 <= a /\ _) (fun h => by omega)]
  exact ⟨_, rfl, fun h => by omega⟩
 rw [y0 hb, y137, y0 (p := c < 0) (by omega), y137]
 by_cases h0 : b = 0
 ·subst h0
  rw [y0 (p := (0 : Int) > 0) (by omega), y137, Int.mul_zero, y135 (p := 0 <= a /\ _) (by omega)]
  exact ⟨_, rfl, fun _ => rfl⟩
 have hd : c.tdiv b = c / b := Int.tdiv_eq_ediv_of_nonneg hc
 have hd1 : c / b <= c := Int.ediv_le_self b hc
 have hd2 : 0 <= c / b := Int.ediv_nonneg hc (by omega)
 rw [y135 (p := b > 0) (by omega), y136, if_neg h0, hd, q28 (by omega) (by omega)]
 have key : a > c / b ↔ ¬ a * b <= c := by
  rw [<- Int.le_ediv_iff_mul_le (by omega)]; omega
 by_cases hm : a * b <= c
 ·rw [y0 (p := a > c / b) (fun h => key.1 h hm), y137, y135 (p := 0 <= a /\ _) ⟨by omega, by omega, hm⟩]
  have := Int.mul_nonneg (a := a) (b := b) (by omega) (by omega)
  exact ⟨_, rfl, fun _ => q28 (by omega) (by omega)⟩
 ·rw [y135 (p := a > c / b) (key.2 hm), y136, y0 (p := 0 <= a /\ _) (fun h => hm h.2.2)]
  exact ⟨_, rfl, fun h => (hm h.2.2).elim⟩
def q133 (s : Sh) : Prop := 1 <= s.1 /\ 1 <= s.2.1 /\ 1 <= s.2.2 /\ s.1 * s.2.1 <= 4294967296 /\ s.1 * s.2.1 * s.2.2 <= 4294967296
instance (s : Sh) : Decidable (q133 s) := inferInstanceAs (Decidable (_ /\ _))
theorem most_ok (k : Nat) (s : Sh) : ∃ v, F57 k s = some ((v, decide (q133 s), ()), ()) /\ (q133 s -> v = s.1 * s.2.1 * s.2.2) := by
 unfold F57
 by_cases h1 : s.1 < 1
 ·rw [y135 h1, y136, y0 (fun h : q133 s => by have := h.1; omega)]
  exact ⟨0, rfl, fun h => by have := h.1; omega⟩
 rw [y0 h1, y137]
 by_cases h2 : s.2.1 < 1
 ·rw [y135 h2, y136, y0 (fun h : q133 s => by have := h.2.1; omega)]
  exact ⟨0, rfl, fun h => by have := h.2.1; omega⟩
 rw [y0 h2, y137]
 by_cases h3 : s.2.2 < 1
 ·rw [y135 h3, y136, y0 (fun h : q133 s => by have := h.2.2.1; omega)]
  exact ⟨0, rfl, fun h => by have := h.2.2.1; omega⟩
 rw [y0 h3, y137]
 obtain ⟨v, hv, hv2⟩ := q477 k (a := s.1) (b := s.2.1) (c := 4294967296) (by omega) (by omega)
 rw [hv, y138]
 by_cases h4 : s.1 * s.2.1 <= 4294967296
 rotate_left
 ·rw [y0 (fun h => h4 h.2.2), y150, y136, y0 (fun h : q133 s => h4 h.2.2.2.1)]
  exact ⟨0, rfl, fun h => (h4 h.2.2.2.1).elim⟩
 have h4' : 0 <= s.1 /\ 0 <= s.2.1 /\ s.1 * s.2.1 <= 4294967296 := ⟨by omega, by omega, h4⟩
 rw [y135 h4', y145, y137, hv2 h4']
 have hn : 0 <= s.1 * s.2.1 := Int.mul_nonneg (by omega) (by omega)
 obtain ⟨u, hu, hu2⟩ := q477 k (a := s.1 * s.2.1) (b := s.2.2) (c := 4294967296) (by omega) (by omega)
 rw [hu, y138]
 by_cases h5 : s.1 * s.2.1 * s.2.2 <= 4294967296
 ·have h5' : 0 <= s.1 * s.2.1 /\ 0 <= s.2.2 /\ s.1 * s.2.1 * s.2.2 <= 4294967296 := ⟨hn, by omega, h5⟩
  rw [y135 h5', y135 (show q133 s from ⟨by omega, by omega, by omega, h4, h5⟩)]
  exact ⟨u, rfl, fun _ => hu2 h5'⟩
 ·rw [y0 (fun h => h5 h.2.2), y0 (fun h : q133 s => h5 h.2.2.2.2)]
  exact ⟨u, rfl, fun h => (h5 h.2.2.2.2).elim⟩
theorem rmost_ok (k : Nat) (s : Sh) : ∃ v, F96 k s = some ((v, decide (q133 s), ()), ()) /\ (q133 s -> v = s.1 * s.2.1 * s.2.2) := by
 unfold F96
 obtain ⟨v, hv, hv2⟩ := q714 k (a := s.1) (b := s.2.1) (c := 4294967296) (by omega) (by omega)
 rw [hv, y138]
 by_cases h4 : 0 <= s.1 /\ 0 <= s.2.1 /\ s.1 * s.2.1 <= 4294967296
 rotate_left
 ·have hn : ¬ q133 s := fun h => h4 ⟨by have := h.1; omega, by have := h.2.1; omega, h.2.2.2.1⟩
  rw [y0 h4, y150, y136, y0 hn]
  exact ⟨0, rfl, fun h => (hn h).elim⟩
 rw [y135 h4, y145, y137, hv2 h4]
 by_cases h1 : s.1 < 1
 ·rw [y135 h1, y136, y0 (fun h : q133 s => by have := h.1; omega)]
  exact ⟨0, rfl, fun h => by have := h.1; omega⟩
 rw [y0 h1, y137]
 by_cases h2 : s.2.1 < 1
 ·rw [y135 h2, y136, y0 (fun h : q133 s => by have := h.2.1; omega)]
  exact ⟨0, rfl, fun h => by have := h.2.1; omega⟩
 rw [y0 h2, y137]
 by_cases h3 : s.2.2 < 1
 ·rw [y135 h3, y136, y0 (fun h : q133 s => by have := h.2.2.1; omega)]
  exact ⟨0, rfl, fun h => by have := h.2.2.1; omega⟩
 rw [y0 h3, y137]
 have hn : 0 <= s.1 * s.2.1 := Int.mul_nonneg (by omega) (by omega)
 obtain ⟨u, hu, hu2⟩ := q714 k (a := s.1 * s.2.1) (b := s.2.2) (c := 4294967296) (by omega) (by omega)
 rw [hu, y138]
 by_cases h5 : s.1 * s.2.1 * s.2.2 <= 4294967296
 ·have h5' : 0 <= s.1 * s.2.1 /\ 0 <= s.2.2 /\ s.1 * s.2.1 * s.2.2 <= 4294967296 := ⟨hn, by omega, h5⟩
  rw [y135 h5', y135 (show q133 s from ⟨by omega, by omega, by omega, h4.2.2, h5⟩)]
  exact ⟨u, rfl, fun _ => hu2 h5'⟩
 ·rw [y0 (fun h => h5 h.2.2), y0 (fun h : q133 s => h5 h.2.2.2.2)]
  exact ⟨u, rfl, fun h => (h5 h.2.2.2.2).elim⟩
theorem int_ok (k : Nat) (s : Sh) : F58 k s = some ((if q133 s then 0 else 11, ()), ()) := by
 unfold F58
 obtain ⟨v, hv, _⟩ := most_ok k s
 rw [hv, y138]
 by_cases h : q133 s
 ·rw [y135 h, if_pos h]; rfl
 ·rw [y0 h, if_neg h]; rfl
def q254 (e : Int × Int) (m : Int) : Bool := ((e.1 == 0 || (e.1 == 1 || e.1 == 2)) && e.2 == 0) || (e.1 == 3 && (decide (0 <= e.2) && decide (e.2 <= m)))
theorem q63 {a n : Int} (h : ¬ a = n) : (a == n) = false := y165.2 h
theorem edge_ok (k : Nat) (e : Int × Int) (m : Int) : F37 k e m = some ((q254 e m, ()), ()) := by
 unfold F37 q254
 obtain ⟨a, b⟩ := e
 simp only
 by_cases h0 : a = 0
 ·subst h0; simp
 by_cases h1 : a = 1
 ·subst h1; simp
 by_cases h2 : a = 2
 ·subst h2; simp
 rw [q63 h0, q63 h1, q63 h2]
 simp only [y137, Bool.or_false, Bool.false_and, Bool.false_or]
 rw [show decide (b >= 0) = decide (0 <= b) from rfl]
 cases a == 3 <;> cases decide (0 <= b) <;> rfl
theorem redge_ok (k : Nat) (e : Int × Int) (m : Int) : F77 k e m = some ((q254 e m, ()), ()) := by
 unfold F77 q254
 obtain ⟨a, b⟩ := e
 simp only
 by_cases h3 : a = 3
 ·subst h3
  simp only [y170, y136, Bool.true_and]
  rw [show decide (b >= 0) = decide (0 <= b) from rfl]
  cases decide (0 <= b) <;> simp
 rw [q63 h3]
 simp only [y137, Bool.false_and, Bool.or_false]
 by_cases h4 : 0 <= a /\ a < 3
 ·rw [y135 (p := a >= 0) h4.1, y136, y135 h4.2, y136]
  have : (a == 0 || (a == 1 || a == 2)) = true := by
   have : a = 0 \/ a = 1 \/ a = 2 := by omega
   rcases this with rfl | rfl | rfl <;> rfl
  rw [this, Bool.true_and]
 ·rw [q63 (show ¬ a = 0 by omega), q63 (show ¬ a = 1 by omega), q63 (show ¬ a = 2 by omega)]
  by_cases h5 : 0 <= a
  ·rw [y135 (p := a >= 0) h5, y136, y0 (p := a < 3) (by omega), y137]; rfl
  ·rw [y0 (p := a >= 0) h5, y137]; rfl
theorem q739 (k : Nat) (s : Sh) : F36 k s = some ((decide (q205 s.1 s.2.1 s.2.2), ()), ()) := by
 unfold F36
 obtain ⟨v, hv, _⟩ := q477 k (a := s.1) (b := s.2.1) (c := 4096) (by omega) (by omega)
 rw [hv, y138]
 simp only [q575, y138]
 by_cases h : q205 s.1 s.2.1 s.2.2
 ·rw [y135 h]
  obtain ⟨h1, h2, h3, h4, h5, h6, h7⟩ := h
  rw [y135 (p := 0 <= s.1 /\ _) ⟨by omega, by omega, h5⟩, y136, y135 (p := 1 <= s.1 /\ _) ⟨h1, h2⟩, y136, y135 (p := 1 <= s.2.1 /\ _) ⟨h3, h4⟩, y136, y135 (p := 1 <= s.2.2 /\ _) ⟨h6, h7⟩]
 ·rw [y0 h]
  by_cases h1 : 0 <= s.1 /\ 0 <= s.2.1 /\ s.1 * s.2.1 <= 4096
  ·rw [y135 h1, y136]
   by_cases h2 : 1 <= s.1 /\ s.1 <= 128
   ·rw [y135 h2, y136]
    by_cases h3 : 1 <= s.2.1 /\ s.2.1 <= 128
    ·rw [y135 h3, y136, y0 (fun h4 => h ⟨h2.1, h2.2, h3.1, h3.2, h1.2.2, h4.1, h4.2⟩)]
    ·rw [y0 h3, y137]
   ·rw [y0 h2, y137]
  ·rw [y0 h1, y137]
theorem q632 (k : Nat) (s : Sh) : F76 k s = some ((decide (q205 s.1 s.2.1 s.2.2), ()), ()) := by
 unfold F76
 rw [q554, y138]
def twoB (s : Sg) : Bool := s.1 == 6 && s.2.2.1 != (-1)
theorem two_ok (k : Nat) (s : Sg) : F10 k s = some ((twoB s, ()), ()) := by
 unfold F10 twoB
 cases s.1 == 6 <;> rfl
theorem q519 (k : Nat) (s : Sg) : F24 k s = some ((twoB s, ()), ()) := by
 unfold F24 twoB
 cases s.1 == 6 <;> rfl
def edB (n : Int) : Bool := n == 1 || (n == 2 || n == 3)
theorem q583 (k : Nat) (n : Int) : F33 k n = some ((edB n, ()), ()) := by
 unfold F33 edB
 cases n == 1 <;> cases n == 2 <;> rfl
theorem q364 (k : Nat) (n : Int) : F74 k n = some ((edB n, ()), ()) := by
 unfold F74 edB
 cases n == 1 <;> cases n == 2 <;> rfl
theorem q651 {R : Type} (k : Nat) (l : List Int) (n : Int) (e0 : Bool -> Int -> Option R) (e1 : Int -> Option R) (hl : l.length <= 1000) : ∀ (m i j : Nat), l.length - i = m -> i <= l.length -> m < j ->
  F34.loop0 k j l l.length i n e0 e1 = if n ∈ l.drop i then e0 true n else e1 n := by
 intro m
 induction m with
 | zero =>
  intro i j hm hi hj
  obtain ⟨j, rfl⟩ : ∃ j', j = j' + 1 := ⟨j - 1, by omega⟩
  rw [F34.loop0_s, y0 (by omega), y137, List.drop_eq_nil_of_le (by omega), if_neg (by simp)]
 | succ m ih =>
  intro i j hm hi hj
  obtain ⟨j, rfl⟩ : ∃ j', j = j' + 1 := ⟨j - 1, by omega⟩
  have hlt : i < l.length := by omega
  rw [F34.loop0_s, y135 (by omega), y136, if_pos (by omega), y139, y140 hlt, y138, q22 i (by omega), ih (i + 1) j (by omega) (by omega) (by omega), y147 hlt]
  by_cases h : l[i] = n
  ·rw [beq_iff_eq.2 h, y136, if_pos (by rw [h]; exact y169)]
  ·rw [y165.2 h, y137]
   by_cases h2 : n ∈ l.drop (i + 1)
   ·rw [if_pos h2, if_pos (y155 _ h2)]
   ·rw [if_neg h2, if_neg (fun hh => by rcases y166.1 hh with h3 | h3; exact h h3.symm; exact h2 h3)]
theorem q444 (k : Nat) (z : Bool) (l : List Int) (n : Int) (hl : l.length <= 30) (hk : 31 <= k) : F34 k z l n = some ((decide (n ∈ l) || z, ()), (n, ())) := by
 unfold F34
 refine (q651 k l n _ _ (by omega) l.length 0 k rfl (by omega) (by omega)).trans ?_
 rw [y152]
 by_cases h : n ∈ l
 ·rw [if_pos h, y135 h]; rfl
 ·rw [if_neg h, y0 h]; rfl
def q100 (s : Sg) : Bool :=
 (edB s.1 || (s.2.2.2.2.1.1 == 0 && s.2.2.2.2.1.2 == 0)) &&
 ((s.1 == 1 || (s.2.2.2.2.2.1 == 0 && (s.2.2.2.2.2.2.1 == 0 && (s.2.2.2.2.2.2.2.1.length : Int) == 0))) &&
 ((edB s.1 || s.2.2.2.2.2.2.2.2.2.2.1 == 0) &&
 ((s.1 == 2 || ((s.2.2.2.2.2.2.2.2.1.length : Int) == 0 && (s.2.2.2.2.2.2.2.2.2.1.length : Int) == 0)) &&
 (((s.1 == 2 || s.1 == 3) || s.2.2.2.2.2.2.2.2.2.2.2.1 == 0) &&
 ((s.1 == 3 || ((s.2.2.2.2.2.2.2.2.2.2.2.2.1.length : Int) == 0 && (s.2.2.2.2.2.2.2.2.2.2.2.2.2.1.length : Int) == 0)) &&
 ((s.1 == 4 || s.2.2.2.2.2.2.2.2.2.2.2.2.2.2.1 == 0) &&
 ((s.1 == 6 || (s.2.2.2.2.2.2.2.2.2.2.2.2.2.2.2.1.length : Int) == 0) &&
 (((s.1 == 1 || s.1 == 2) || (s.1 == 3 || s.1 == 6)) || s.2.2.2.2.2.2.2.2.2.2.2.2.2.2.2.2 == 0))))))))
def q123 (s : Sg) : Prop := (1 <= s.1 /\ s.1 <= 6) /\ (s.1 = 6 \/ s.2.2.1 = -1) /\ q100 s = true
instance (s : Sg) : Decidable (q123 s) := inferInstanceAs (Decidable (_ /\ _))
theorem mem1 (n a : Int) : decide (n ∈ [a]) = (n == a) := by
 rw [Bool.eq_iff_iff]; simp
theorem mem2 (n a b : Int) : decide (n ∈ [a, b]) = (n == a || n == b) := by
 rw [Bool.eq_iff_iff]; simp
theorem mem3 (n a b c : Int) : decide (n ∈ [a, b, c]) = (n == a || (n == b || n == c)) := by
 rw [Bool.eq_iff_iff]; simp
theorem mem4 (n a b c d : Int) : decide (n ∈ [a, b, c, d]) = ((n == a || n == b) || (n == c || n == d)) := by
 rw [Bool.eq_iff_iff]; simp [or_assoc]
theorem q574 {n : Nat} : decide ((n : Int) > 0) = !((n : Int) == 0) := by
 by_cases h : n = 0
 ·subst h; rfl
 ·rw [y135 (by omega), y165.2 (by omega)]; rfl
theorem q681 (g k h r : Bool) : (bif g then ((k || h) && r) else ((k || false) && r)) = ((k || (g && h)) && r) := by cases g <;> cases k <;> cases h <;> cases r <;> rfl
theorem cond_and (g r : Bool) : (bif g then r else false) = (g && r) := by cases g <;> rfl
theorem cond_or (g f h r : Bool) : (bif g then r else (f && (h && r))) = ((g || (f && h)) && r) := by cases g <;> cases f <;> cases h <;> cases r <;> rfl
theorem join4_ok {R : Type} (k : Nat) (hk : 31 <= k) (s : Sg) (e0 : Bool -> Option R) : F35.join4 k s.1 s.2.1 s.2.2.1 s.2.2.2.1 s.2.2.2.2.1.1 s.2.2.2.2.1.2 s.2.2.2.2.2.1 s.2.2.2.2.2.2.1 s.2.2.2.2.2.2.2.1 s.2.2.2.2.2.2.2.2.1 s.2.2.2.2.2.2.2.2.2.1 s.2.2.2.2.2.2.2.2.2.2.1 s.2.2.2.2.2.2.2.2.2.2.2.1 s.2.2.2.2.2.2.2.2.2.2.2.2.1 s.2.2.2.2.2.2.2.2.2.2.2.2.2.1 s.2.2.2.2.2.2.2.2.2.2.2.2.2.2.1 s.2.2.2.2.2.2.2.2.2.2.2.2.2.2.2.1 s.2.2.2.2.2.2.2.2.2.2.2.2.2.2.2.2 s.1 e0 = e0 (q100 s) := by
 unfold F35.join4 q100
 simp only [q583, q444 k _ [_] _ (by simp) hk, q444 k _ [_, _] _ (by simp) hk, q444 k _ [_, _, _] _ (by simp) hk, q444 k _ [_, _, _, _] _ (by simp) hk, y138, mem1, mem2, mem3, mem4, q671 e0, edB]
 refine congrArg e0 ?_
 generalize (s.1 == 1) = k1
 generalize (s.1 == 2) = k2
 generalize (s.1 == 3) = k3
 generalize (s.1 == 4) = k4
 generalize (s.1 == 6) = k6
 generalize (s.2.2.2.2.1.1 == 0) = f1
 generalize (s.2.2.2.2.1.2 == 0) = f2
 generalize (s.2.2.2.2.2.1 == 0) = f3
 generalize (s.2.2.2.2.2.2.1 == 0) = f4
 generalize ((s.2.2.2.2.2.2.2.1.length : Int) == 0) = f5
 generalize (s.2.2.2.2.2.2.2.2.2.2.1 == 0) = f6
 generalize ((s.2.2.2.2.2.2.2.2.1.length : Int) == 0) = f7
 generalize ((s.2.2.2.2.2.2.2.2.2.1.length : Int) == 0) = f8
 generalize (s.2.2.2.2.2.2.2.2.2.2.2.1 == 0) = f9
 generalize ((s.2.2.2.2.2.2.2.2.2.2.2.2.1.length : Int) == 0) = g1
 generalize ((s.2.2.2.2.2.2.2.2.2.2.2.2.2.1.length : Int) == 0) = g2
 generalize (s.2.2.2.2.2.2.2.2.2.2.2.2.2.2.1 == 0) = g3
 generalize ((s.2.2.2.2.2.2.2.2.2.2.2.2.2.2.2.1.length : Int) == 0) = g4
 generalize (s.2.2.2.2.2.2.2.2.2.2.2.2.2.2.2.2 == 0) = g5
 simp only [cond_and, Bool.and_assoc, Bool.true_and, q681, cond_or]
def leaf {R : Type} (e0 : Unit -> Option R) (e1 : Bool -> Option R) (b : Bool) : Option R := bif b then e1 true else e0 ()
theorem leaf_t {R : Type} (e0 : Unit -> Option R) (e1 : Bool -> Option R) : e1 true = leaf e0 e1 true := rfl
theorem leaf_f {R : Type} (e0 : Unit -> Option R) (e1 : Bool -> Option R) : e0 () = leaf e0 e1 false := rfl
def q10 (s4 s5 s93 : Bool) (kd sh2 bins ops mx : Int) : Bool := !s93 && ((s4 || s5 || sh2 == 0) && ((kd == 4 || bins == 0) && ((kd == 6 || ops == 0) && (!(kd == 4 || kd == 5) || mx == 0))))
theorem rjoin10 {R : Type} (k : Nat) (s4 s5 s93 : Bool) (b1_0 b1_1 b1_2 : Int) (b1_3 : Bool) (b1_4 b1_5 b1_6 b1_7 : Int) (b1_8 b1_9 b1_10 : List Int) (b1_11 b1_12 : Int) (b1_13 b1_14 : List (Int × List Int)) (b1_15 : Int) (b1_16 : List (Int × Int)) (b1_17 : Int) (e0 : Unit -> Option R) (e1 : Bool -> Option R) :
  F75.join10 k s4 s5 s93 b1_0 b1_1 b1_2 b1_3 b1_4 b1_5 b1_6 b1_7 b1_8 b1_9 b1_10 b1_11 b1_12 b1_13 b1_14 b1_15 b1_16 b1_17 e0 e1 = leaf e0 e1 (q10 s4 s5 s93 b1_0 b1_12 b1_15 b1_16.length b1_17) := by
 unfold F75.join10 q10
 simp only [bne, q574, leaf_t e0 e1, leaf_f e0 e1, q671 (leaf e0 e1)]
 refine congrArg (leaf e0 e1) ?_
 generalize (b1_0 == 4) = k4
 generalize (b1_0 == 5) = k5
 generalize (b1_0 == 6) = k6
 generalize (b1_12 == 0) = f1
 generalize (b1_15 == 0) = f2
 generalize ((b1_16.length : Int) == 0) = f3
 generalize (b1_17 == 0) = f4
 cases s93
 ·cases s4 <;> cases s5 <;> cases f1 <;> cases k4 <;> cases f2 <;> cases k6 <;> cases f3 <;> cases k5 <;> cases f4 <;> rfl
 ·rfl
theorem rjoin9 {R : Type} (k : Nat) (s4 s5 s78 : Bool) (b1_0 b1_1 b1_2 : Int) (b1_3 : Bool) (b1_4 b1_5 b1_6 b1_7 : Int) (b1_8 b1_9 b1_10 : List Int) (b1_11 b1_12 : Int) (b1_13 b1_14 : List (Int × List Int)) (b1_15 : Int) (b1_16 : List (Int × Int)) (b1_17 : Int) (e0 : Unit -> Option R) (e1 : Bool -> Option R) :
  F75.join9 k s4 s5 s78 b1_0 b1_1 b1_2 b1_3 b1_4 b1_5 b1_6 b1_7 b1_8 b1_9 b1_10 b1_11 b1_12 b1_13 b1_14 b1_15 b1_16 b1_17 e0 e1 = leaf e0 e1 (!s78 && q10 s4 s5 (!edB b1_0 && !(b1_11 == 0)) b1_0 b1_12 b1_15 b1_16.length b1_17) := by
 unfold F75.join9
 simp only [rjoin10, q364, y138]
 cases s78 with
 | true => rfl
 | false =>
  rw [y137]
  cases edB b1_0 with
  | true => rfl
  | false => rfl
theorem rjoin8 {R : Type} (k : Nat) (s4 s5 s63 : Bool) (b1_0 b1_1 b1_2 : Int) (b1_3 : Bool) (b1_4 b1_5 b1_6 b1_7 : Int) (b1_8 b1_9 b1_10 : List Int) (b1_11 b1_12 : Int) (b1_13 b1_14 : List (Int × List Int)) (b1_15 : Int) (b1_16 : List (Int × Int)) (b1_17 : Int) (e0 : Unit -> Option R) (e1 : Bool -> Option R) :
  F75.join8 k s4 s5 s63 b1_0 b1_1 b1_2 b1_3 b1_4 b1_5 b1_6 b1_7 b1_8 b1_9 b1_10 b1_11 b1_12 b1_13 b1_14 b1_15 b1_16 b1_17 e0 e1 = leaf e0 e1 (!s63 && (!(!s5 && !((b1_13.length : Int) == 0 && (b1_14.length : Int) == 0)) && q10 s4 s5 (!edB b1_0 && !(b1_11 == 0)) b1_0 b1_12 b1_15 b1_16.length b1_17)) := by
 unfold F75.join8
 simp only [rjoin9, q574]
 generalize q10 s4 s5 (!edB b1_0 && !(b1_11 == 0)) b1_0 b1_12 b1_15 b1_16.length b1_17 = q
 cases s63 <;> cases s5 <;> cases ((b1_13.length : Int) == 0) <;> cases ((b1_14.length : Int) == 0) <;> rfl
theorem rjoin7 {R : Type} (k : Nat) (s4 s5 s44 : Bool) (b1_0 b1_1 b1_2 : Int) (b1_3 : Bool) (b1_4 b1_5 b1_6 b1_7 : Int) (b1_8 b1_9 b1_10 : List Int) (b1_11 b1_12 : Int) (b1_13 b1_14 : List (Int × List Int)) (b1_15 : Int) (b1_16 : List (Int × Int)) (b1_17 : Int) (e0 : Unit -> Option R) (e1 : Bool -> Option R) :
  F75.join7 k s4 s5 s44 b1_0 b1_1 b1_2 b1_3 b1_4 b1_5 b1_6 b1_7 b1_8 b1_9 b1_10 b1_11 b1_12 b1_13 b1_14 b1_15 b1_16 b1_17 e0 e1 = leaf e0 e1 (!s44 && (!(!s4 && !((b1_9.length : Int) == 0 && (b1_10.length : Int) == 0)) && (!(!s5 && !((b1_13.length : Int) == 0 && (b1_14.length : Int) == 0)) && q10 s4 s5 (!edB b1_0 && !(b1_11 == 0)) b1_0 b1_12 b1_15 b1_16.length b1_17))) := by
 unfold F75.join7
 simp only [rjoin8, q574]
 generalize (!(!s5 && !((b1_13.length : Int) == 0 && (b1_14.length : Int) == 0)) && q10 s4 s5 (!edB b1_0 && !(b1_11 == 0)) b1_0 b1_12 b1_15 b1_16.length b1_17) = q
 cases s44 <;> cases s4 <;> cases ((b1_9.length : Int) == 0) <;> cases ((b1_10.length : Int) == 0) <;> rfl
theorem rjoin6 {R : Type} (k : Nat) (s3 s4 s5 s33 : Bool) (b1_0 b1_1 b1_2 : Int) (b1_3 : Bool) (b1_4 b1_5 b1_6 b1_7 : Int) (b1_8 b1_9 b1_10 : List Int) (b1_11 b1_12 : Int) (b1_13 b1_14 : List (Int × List Int)) (b1_15 : Int) (b1_16 : List (Int × Int)) (b1_17 : Int) (e0 : Unit -> Option R) (e1 : Bool -> Option R) :
  F75.join6 k s3 s4 s5 s33 b1_0 b1_1 b1_2 b1_3 b1_4 b1_5 b1_6 b1_7 b1_8 b1_9 b1_10 b1_11 b1_12 b1_13 b1_14 b1_15 b1_16 b1_17 e0 e1 = leaf e0 e1 (!s33 && (!(!s3 && !(b1_6 == 0 && (b1_7 == 0 && (b1_8.length : Int) == 0))) && (!(!s4 && !((b1_9.length : Int) == 0 && (b1_10.length : Int) == 0)) && (!(!s5 && !((b1_13.length : Int) == 0 && (b1_14.length : Int) == 0)) && q10 s4 s5 (!edB b1_0 && !(b1_11 == 0)) b1_0 b1_12 b1_15 b1_16.length b1_17)))) := by
 unfold F75.join6
 simp only [rjoin7, q574, bne]
 generalize (!(!s4 && !((b1_9.length : Int) == 0 && (b1_10.length : Int) == 0)) && (!(!s5 && !((b1_13.length : Int) == 0 && (b1_14.length : Int) == 0)) && q10 s4 s5 (!edB b1_0 && !(b1_11 == 0)) b1_0 b1_12 b1_15 b1_16.length b1_17)) = q
 cases s33 <;> cases s3 <;> cases (b1_6 == 0) <;> cases (b1_7 == 0) <;> cases ((b1_8.length : Int) == 0) <;> rfl
theorem rjoin3 {R : Type} (k : Nat) (s : Sg) (hs : 1 <= s.1 /\ s.1 <= 6) (e0 : Bool -> Option R) : F75.join3 k s.1 s.2.1 s.2.2.1 s.2.2.2.1 s.2.2.2.2.1.1 s.2.2.2.2.1.2 s.2.2.2.2.2.1 s.2.2.2.2.2.2.1 s.2.2.2.2.2.2.2.1 s.2.2.2.2.2.2.2.2.1 s.2.2.2.2.2.2.2.2.2.1 s.2.2.2.2.2.2.2.2.2.2.1 s.2.2.2.2.2.2.2.2.2.2.2.1 s.2.2.2.2.2.2.2.2.2.2.2.2.1 s.2.2.2.2.2.2.2.2.2.2.2.2.2.1 s.2.2.2.2.2.2.2.2.2.2.2.2.2.2.1 s.2.2.2.2.2.2.2.2.2.2.2.2.2.2.2.1 s.2.2.2.2.2.2.2.2.2.2.2.2.2.2.2.2 e0 = e0 (q100 s) := by
 unfold F75.join3 q100
 simp only [q364, y138, rjoin6]
 have hl : ∀ b, leaf (fun _ => e0 false) (fun z => e0 z) b = e0 b := fun b => by cases b <;> rfl
 simp only [hl, q671 e0]
 refine congrArg e0 ?_
 unfold q10 edB
 generalize (s.2.2.2.2.1.1 == 0) = f1
 generalize (s.2.2.2.2.1.2 == 0) = f2
 generalize (s.2.2.2.2.2.1 == 0 && (s.2.2.2.2.2.2.1 == 0 && (s.2.2.2.2.2.2.2.1.length : Int) == 0)) = f3
 generalize (s.2.2.2.2.2.2.2.2.2.2.1 == 0) = f6
 generalize ((s.2.2.2.2.2.2.2.2.1.length : Int) == 0 && (s.2.2.2.2.2.2.2.2.2.1.length : Int) == 0) = f7
 generalize (s.2.2.2.2.2.2.2.2.2.2.2.1 == 0) = f9
 generalize ((s.2.2.2.2.2.2.2.2.2.2.2.2.1.length : Int) == 0 && (s.2.2.2.2.2.2.2.2.2.2.2.2.2.1.length : Int) == 0) = g1
 generalize (s.2.2.2.2.2.2.2.2.2.2.2.2.2.2.1 == 0) = g3
 generalize ((s.2.2.2.2.2.2.2.2.2.2.2.2.2.2.2.1.length : Int) == 0) = g4
 generalize (s.2.2.2.2.2.2.2.2.2.2.2.2.2.2.2.2 == 0) = g5
 have : s.1 = 1 \/ s.1 = 2 \/ s.1 = 3 \/ s.1 = 4 \/ s.1 = 5 \/ s.1 = 6 := by omega
 rcases this with h | h | h | h | h | h <;> (rw [h]; simp)
 all_goals (try (cases f1 <;> cases f2 <;> cases f3 <;> cases f6 <;> simp))
 all_goals (cases f7 <;> cases g1 <;> cases f9 <;> rfl)
theorem q255 (k : Nat) (hk : 31 <= k) (s : Sg) : F35 k s = some ((decide (q123 s), ()), ()) := by
 unfold F35
 simp only [join4_ok k hk, q575, y138]
 by_cases h : 1 <= s.1 /\ s.1 <= 6
 rotate_left
 ·rw [y0 h, y150, y136, y0 (fun g : q123 s => h g.1)]
 rw [y135 h, y145, y137]
 have fin : (s.1 = 6 \/ s.2.2.1 = -1) -> decide (q123 s) = q100 s := fun h6 => by
  cases hb : q100 s with
  | true => exact y135 ⟨h, h6, hb⟩
  | false => exact y0 fun g => by have := g.2.2; rw [hb] at this; cases this
 by_cases h6 : s.1 = 6
 ·rw [q66 h6, y137, fin (.inl h6)]
 ·rw [q70 h6, y136]
  by_cases h7 : s.2.2.1 = -1
  ·rw [q66 h7, y137, fin (.inr h7)]
  ·rw [q70 h7, y136, y0 (fun g : q123 s => g.2.1.elim h6 h7)]
theorem q404 (k : Nat) (s : Sg) : F75 k s = some ((decide (q123 s), ()), ()) := by
 unfold F75
 by_cases h : 1 <= s.1 /\ s.1 <= 6
 rotate_left
 ·rw [y0 (fun g : q123 s => h g.1)]
  by_cases h1 : s.1 < 1
  ·rw [y135 h1, y136]
  ·rw [y0 h1, y137, y135 (p := s.1 > 6) (by omega), y136]
 simp only [rjoin3 k s h]
 rw [y0 (p := s.1 < 1) (by omega), y137, y0 (p := s.1 > 6) (by omega), y137]
 have fin : (s.1 = 6 \/ s.2.2.1 = -1) -> decide (q123 s) = q100 s := fun h6 => by
  cases hb : q100 s with
  | true => exact y135 ⟨h, h6, hb⟩
  | false => exact y0 fun g => by have := g.2.2; rw [hb] at this; cases this
 by_cases h6 : s.1 = 6
 ·rw [q66 h6, y137, fin (.inl h6)]
 ·rw [q70 h6, y136]
  by_cases h7 : s.2.2.1 = -1
  ·rw [q66 h7, y137, fin (.inr h7)]
  ·rw [q70 h7, y136, y0 (fun g : q123 s => g.2.1.elim h6 h7)]
abbrev Sg.ops (s : Sg) : List (Int × Int) := s.2.2.2.2.2.2.2.2.2.2.2.2.2.2.2.1
abbrev Sg.mx (s : Sg) : Int := s.2.2.2.2.2.2.2.2.2.2.2.2.2.2.2.2
abbrev Sg.bins (s : Sg) : Int := s.2.2.2.2.2.2.2.2.2.2.2.2.2.2.1
abbrev Sg.x (s : Sg) : List (Int × List Int) := s.2.2.2.2.2.2.2.2.2.2.2.2.1
abbrev Sg.y (s : Sg) : List (Int × List Int) := s.2.2.2.2.2.2.2.2.2.2.2.2.2.1
abbrev Sg.sh (s : Sg) : Int := s.2.2.2.2.2.2.2.2.2.2.1
abbrev Sg.sh2 (s : Sg) : Int := s.2.2.2.2.2.2.2.2.2.2.2.1
def q451 (l : List (Int × Int)) (two : Bool) (a b out : Int) : Int :=
 if q98 l two ≠ 0 then q98 l two else if 1 <= out /\ out <= 4294967296 then (iv l a (if two = true then b else 1)).2.2 else 2
def pcode (s : Sg) (a b : Sh) : Int :=
 if q451 s.ops (twoB s) a.2.2 b.2.2 s.mx ≠ 0 then q451 s.ops (twoB s) a.2.2 b.2.2 s.mx
 else if twoB s = true /\ (a.1 ≠ b.1 \/ a.2.1 ≠ b.2.1) then 8 else 0
def q59 (s : Sg) (a b : Sh) : Int :=
 if s.1 = 1 then q695 a.2.2 s.2.2.2.2.2.1 s.2.2.2.2.2.2.1 s.2.2.2.2.2.2.2.1 s.sh s.mx
 else if s.1 = 2 then q643 a.2.2 s.2.2.2.2.2.2.2.2.1 s.2.2.2.2.2.2.2.2.2.1 s.sh s.sh2 s.mx
 else if s.1 = 3 then q711 a s.x s.y s.sh s.sh2 s.mx
 else if s.1 = 4 then (if 1 <= s.bins /\ s.bins <= 128 then 0 else 9)
 else if s.1 = 5 then (if q133 a then 0 else 11)
 else pcode s a b
theorem q281 {a b : Int} (h : a = b) : (a == b) = true := beq_iff_eq.2 h
theorem q668 (k : Nat) (hk : 129 <= k) (s : Sg) (a b : Sh) : F68 k s a b = some ((q59 s a b, ()), ()) := by
 unfold F68 q59
 by_cases h1 : s.1 = 1
 ·rw [q281 h1, y136, if_pos h1, conv_ok k (by omega), y138]
 rw [q63 h1, y137, if_neg h1]
 by_cases h2 : s.1 = 2
 ·rw [q281 h2, y136, if_pos h2, sep_ok k (by omega), y138]
 rw [q63 h2, y137, if_neg h2]
 by_cases h3 : s.1 = 3
 ·rw [q281 h3, y136, if_pos h3, res_ok k hk, y138]
 rw [q63 h3, y137, if_neg h3]
 by_cases h4 : s.1 = 4
 ·rw [q281 h4, y136, if_pos h4, q575, y138]
  by_cases h : 1 <= s.bins /\ s.bins <= 128
  ·rw [y135 h, if_pos h]; rfl
  ·rw [y0 h, if_neg h]; rfl
 rw [q63 h4, y137, if_neg h4]
 by_cases h5 : s.1 = 5
 ·rw [q281 h5, y136, if_pos h5, int_ok, y138]
 rw [q63 h5, y137, if_neg h5]
 unfold pcode q451
 simp only [two_ok, q575, q598 k _ _ (show 33 <= k by omega), q532 k _ _ _ (show 33 <= k by omega), y138]
 by_cases hv : q98 s.ops (twoB s) = 0
 rotate_left
 ·have hv' : q98 s.ops (twoB s) ≠ 0 := hv
  rw [q70 hv, y136, if_pos hv', if_pos hv']
 have hv' : ¬ q98 s.ops (twoB s) ≠ 0 := fun h => h hv
 rw [q66 hv, y137, if_neg hv']
 by_cases ho : 1 <= s.mx /\ s.mx <= 4294967296
 rotate_left
 ·rw [y0 ho, y150, y136, if_neg ho]; rfl
 rw [y135 ho, y145, y137, if_pos ho]
 cases ht : twoB s with
 | true =>
  rw [y136, if_pos rfl]
  by_cases hi : (iv s.ops a.2.2 b.2.2).2.2 = 0
  rotate_left
  ·have hi' : (iv s.ops a.2.2 b.2.2).2.2 ≠ 0 := hi
   rw [q70 hi, y136, if_pos hi']
  have hi' : ¬ (iv s.ops a.2.2 b.2.2).2.2 ≠ 0 := fun h => h hi
  rw [q66 hi, y137, y136, if_neg hi']
  by_cases d1 : a.1 = b.1
  rotate_left
  ·rw [q70 d1, y136, if_pos ⟨rfl, .inl d1⟩]
  rw [q66 d1, y137]
  by_cases d2 : a.2.1 = b.2.1
  rotate_left
  ·rw [q70 d2, y136, if_pos ⟨rfl, .inr d2⟩]
  rw [q66 d2, y137, if_neg (fun h => h.2.elim (fun h => h d1) (fun h => h d2))]
 | false =>
  rw [y137, if_neg Bool.false_ne_true]
  by_cases hi : (iv s.ops a.2.2 1).2.2 = 0
  rotate_left
  ·have hi' : (iv s.ops a.2.2 1).2.2 ≠ 0 := hi
   rw [q70 hi, y136, if_pos hi']
  have hi' : ¬ (iv s.ops a.2.2 1).2.2 ≠ 0 := fun h => h hi
  rw [q66 hi, y137, y137, if_neg hi', if_neg (show ¬ (false = true /\ (a.1 ≠ b.1 \/ a.2.1 ≠ b.2.1)) from fun h => absurd h.1 Bool.false_ne_true)]
def q174 (s : Sg) (a : Sh) : Sh :=
 if s.1 = 3 then ((s.x.length : Int), (s.y.length : Int), s.mx) else if s.1 = 4 then (s.bins, 1, w64 (a.1 * a.2.1)) else if s.1 = 5 then (a.1, a.2.1, a.1 * a.2.1 * a.2.2) else (a.1, a.2.1, s.mx)
def q71 (s : Sg) (a b : Sh) : Sh × Int :=
 if ¬ q123 s then ((0, 0, 0), 1) else if ¬ q205 a.1 a.2.1 a.2.2 \/ (twoB s = true /\ ¬ q205 b.1 b.2.1 b.2.2) then ((0, 0, 0), 2)
 else if edB s.1 = true /\ q254 s.2.2.2.2.1 a.2.2 = false then ((0, 0, 0), 1) else if q59 s a b ≠ 0 then ((0, 0, 0), q59 s a b) else (q174 s a, 0)
theorem most_w64 {a : Sh} (h : q133 a) : w64 (w64 (a.2.2 * a.1) * a.2.1) = a.1 * a.2.1 * a.2.2 := by
 obtain ⟨h1, h2, h3, h4, h5⟩ := h
 have e : a.2.2 * a.1 * a.2.1 = a.1 * a.2.1 * a.2.2 := by rw [Int.mul_assoc, Int.mul_comm]
 have k1 : 0 <= a.2.2 * a.1 := Int.mul_nonneg (by omega) (by omega)
 have k2 : a.2.2 * a.1 * 1 <= a.2.2 * a.1 * a.2.1 := Int.mul_le_mul_of_nonneg_left h2 k1
 have k3 : 0 <= a.1 * a.2.1 * a.2.2 := by rw [<- e]; exact Int.mul_nonneg k1 (by omega)
 rw [Int.mul_one] at k2
 rw [q28 (n := a.2.2 * a.1) (by omega) (by omega), e, q28 (by omega) (by omega)]
theorem otail (s : Sg) (a b : Sh) (hk : q59 s a b = 0) :
  (bif s.1 == 3 then (some (((((s.x.length : Int), (s.y.length : Int), s.mx) : Sh), (0 : Int), ()), ())) else (bif s.1 == 4 then (some (((s.bins, 1, w64 (a.1 * a.2.1)), 0, ()), ())) else (bif s.1 == 5 then (some (((a.1, a.2.1, w64 ((w64 (a.2.2 * a.1)) * a.2.1)), 0, ()), ())) else (some (((a.1, a.2.1, s.mx), 0, ()), ()))))) = some ((q174 s a, 0, ()), ()) := by
 unfold q174
 by_cases h3 : s.1 = 3
 ·rw [q281 h3, y136, if_pos h3]
 rw [q63 h3, y137, if_neg h3]
 by_cases h4 : s.1 = 4
 ·rw [q281 h4, y136, if_pos h4]
 rw [q63 h4, y137, if_neg h4]
 by_cases h5 : s.1 = 5
 ·rw [q281 h5, y136, if_pos h5]
  have hm : q133 a := by
   unfold q59 at hk
   rw [if_neg (by omega), if_neg (by omega), if_neg h3, if_neg h4, if_pos h5] at hk
   by_cases hm : q133 a
   ·exact hm
   ·rw [if_neg hm] at hk; omega
  rw [most_w64 hm]
 rw [q63 h5, y137, if_neg h5]
theorem of_ok (k : Nat) (hk : 129 <= k) (s : Sg) (a b : Sh) : F69 k s a b = some (((q71 s a b).1, (q71 s a b).2, ()), ()) := by
 unfold F69 q71
 simp only [q255 k (show 31 <= k by omega), q739, two_ok, q583, edge_ok, q668 k hk, y138]
 by_cases hf : q123 s
 rotate_left
 ·rw [y0 hf, y150, y136, if_pos hf]
 rw [y135 hf, y145, y137, if_neg (fun h => h hf)]
 by_cases ha : q205 a.1 a.2.1 a.2.2
 rotate_left
 ·rw [y0 ha, y150, y136, if_pos (.inl ha)]
 rw [y135 ha, y145, y137]
 have tail : (bif edB s.1 then (bif !q254 s.2.2.2.2.1 a.2.2 then (some ((((0, 0, 0) : Sh), (1 : Int), ()), ())) else (bif q59 s a b != 0 then (some (((0, 0, 0), q59 s a b, ()), ())) else
    (bif s.1 == 3 then (some (((((s.x.length : Int), (s.y.length : Int), s.mx) : Sh), (0 : Int), ()), ())) else (bif s.1 == 4 then (some (((s.bins, 1, w64 (a.1 * a.2.1)), 0, ()), ())) else (bif s.1 == 5 then (some (((a.1, a.2.1, w64 ((w64 (a.2.2 * a.1)) * a.2.1)), 0, ()), ())) else (some (((a.1, a.2.1, s.mx), 0, ()), ())))))))
   else (bif q59 s a b != 0 then (some (((0, 0, 0), q59 s a b, ()), ())) else
    (bif s.1 == 3 then (some (((((s.x.length : Int), (s.y.length : Int), s.mx) : Sh), (0 : Int), ()), ())) else (bif s.1 == 4 then (some (((s.bins, 1, w64 (a.1 * a.2.1)), 0, ()), ())) else (bif s.1 == 5 then (some (((a.1, a.2.1, w64 ((w64 (a.2.2 * a.1)) * a.2.1)), 0, ()), ())) else (some (((a.1, a.2.1, s.mx), 0, ()), ()))))))) =
   some (((if edB s.1 = true /\ q254 s.2.2.2.2.1 a.2.2 = false then (((0, 0, 0) : Sh), (1 : Int)) else if q59 s a b ≠ 0 then ((0, 0, 0), q59 s a b) else (q174 s a, 0)).1, (if edB s.1 = true /\ q254 s.2.2.2.2.1 a.2.2 = false then (((0, 0, 0) : Sh), (1 : Int)) else if q59 s a b ≠ 0 then ((0, 0, 0), q59 s a b) else (q174 s a, 0)).2, ()), ()) := by
  have go : (bif q59 s a b != 0 then (some ((((0, 0, 0) : Sh), q59 s a b, ()), ())) else
    (bif s.1 == 3 then (some (((((s.x.length : Int), (s.y.length : Int), s.mx) : Sh), (0 : Int), ()), ())) else (bif s.1 == 4 then (some (((s.bins, 1, w64 (a.1 * a.2.1)), 0, ()), ())) else (bif s.1 == 5 then (some (((a.1, a.2.1, w64 ((w64 (a.2.2 * a.1)) * a.2.1)), 0, ()), ())) else (some (((a.1, a.2.1, s.mx), 0, ()), ())))))) =
    some (((if q59 s a b ≠ 0 then (((0, 0, 0) : Sh), q59 s a b) else (q174 s a, 0)).1, (if q59 s a b ≠ 0 then (((0, 0, 0) : Sh), q59 s a b) else (q174 s a, 0)).2, ()), ()) := by
   by_cases hc : q59 s a b = 0
   ·have hc' : ¬ q59 s a b ≠ 0 := fun h => h hc
    rw [q66 hc, y137, if_neg hc', otail s a b hc]
   ·have hc' : q59 s a b ≠ 0 := hc
    rw [q70 hc, y136, if_pos hc']
  rw [go]
  cases hb : edB s.1 with
  | false => rw [y137, if_neg (show ¬ (false = true /\ q254 s.2.2.2.2.1 a.2.2 = false) from fun h => absurd h.1 Bool.false_ne_true)]
  | true =>
   rw [y136]
   cases he : q254 s.2.2.2.2.1 a.2.2 with
   | true => rw [y145, y137, if_neg (show ¬ (true = true /\ true = false) from fun h => absurd h.2 (by simp))]
   | false => rw [y150, y136, if_pos ⟨rfl, rfl⟩]
 cases ht : twoB s with
 | true =>
  rw [y136]
  by_cases hb : q205 b.1 b.2.1 b.2.2
  rotate_left
  ·rw [y0 hb, y150, y136, if_pos (.inr ⟨rfl, hb⟩)]
  rw [y135 hb, y145, y137, if_neg (fun h => h.elim (fun h => h ha) (fun h => h.2 hb))]
  exact tail
 | false =>
  rw [y137, if_neg (fun h => h.elim (fun h => h ha) (fun h => absurd h.1 (by simp)))]
  exact tail
theorem q633 (k : Nat) (hk : 33 <= k) (l : List (Int × Int)) (two : Bool) (a b out : Int) : F105 k l two a b out = some ((q451 l two a b out, ()), ()) := check_ok k hk l two a b out
theorem q619 (k : Nat) (hk : 129 <= k) (s : Sg) (hs : 1 <= s.1 /\ s.1 <= 6) (a b : Sh) : ∃ o, F106 k s a b = some ((o, q59 s a b, ()), ()) /\ (q59 s a b = 0 -> o = q174 s a) := by
 unfold F106 q59 q174
 by_cases h1 : s.1 = 1
 ·rw [q281 h1, y136, if_pos h1, rconv_ok k (by omega), y138]
  exact ⟨_, rfl, fun _ => by rw [if_neg (by omega), if_neg (by omega), if_neg (by omega)]⟩
 rw [q63 h1, y137, if_neg h1]
 by_cases h2 : s.1 = 2
 ·rw [q281 h2, y136, if_pos h2, rsep_ok k (by omega), y138]
  exact ⟨_, rfl, fun _ => by rw [if_neg (by omega), if_neg (by omega), if_neg (by omega)]⟩
 rw [q63 h2, y137, if_neg h2]
 by_cases h3 : s.1 = 3
 ·rw [q281 h3, y136, if_pos h3, rres_ok k hk, y138]
  exact ⟨_, rfl, fun _ => by rw [if_pos h3]⟩
 rw [q63 h3, y137, if_neg h3]
 by_cases h4 : s.1 = 4
 ·rw [q281 h4, y136, if_pos h4, r12_ok, y138]
  by_cases h : 1 <= s.bins /\ s.bins <= 128
  ·rw [y135 h, y145, y137, if_pos h]
   exact ⟨_, rfl, fun _ => by rw [if_neg h3, if_pos h4]⟩
  ·rw [y0 h, y150, y136, if_neg h]
   exact ⟨_, rfl, fun h => by cases h⟩
 rw [q63 h4, y137, if_neg h4]
 by_cases h5 : s.1 = 5
 ·rw [q281 h5, y136, if_pos h5]
  obtain ⟨v, hv, hv2⟩ := rmost_ok k a
  rw [hv, y138]
  by_cases h : q133 a
  ·rw [y135 h, y145, y137, if_pos h]
   exact ⟨_, rfl, fun _ => by rw [if_neg h3, if_neg h4, if_pos h5, hv2 h]⟩
  ·rw [y0 h, y150, y136, if_neg h]
   exact ⟨_, rfl, fun h => by cases h⟩
 rw [q63 h5, y137, if_neg h5]
 have put : ∀ o, o = ((a.1, a.2.1, s.mx) : Sh) -> o = if s.1 = 3 then ((s.x.length : Int), (s.y.length : Int), s.mx) else if s.1 = 4 then (s.bins, 1, w64 (a.1 * a.2.1)) else if s.1 = 5 then (a.1, a.2.1, a.1 * a.2.1 * a.2.2) else (a.1, a.2.1, s.mx) := fun o h => by rw [if_neg h3, if_neg h4, if_neg h5, h]
 unfold pcode
 simp only [q519, q633 k (show 33 <= k by omega), y138]
 by_cases hi : q451 s.ops (twoB s) a.2.2 b.2.2 s.mx = 0
 rotate_left
 ·have hi' : q451 s.ops (twoB s) a.2.2 b.2.2 s.mx ≠ 0 := hi
  rw [q70 hi, y136, if_pos hi']
  exact ⟨_, rfl, fun h => (hi h).elim⟩
 have hi' : ¬ q451 s.ops (twoB s) a.2.2 b.2.2 s.mx ≠ 0 := fun h => h hi
 rw [q66 hi, y137, if_neg hi']
 cases ht : twoB s with
 | true =>
  rw [y136]
  by_cases d1 : a.1 = b.1
  rotate_left
  ·rw [q70 d1, y136, if_pos ⟨rfl, .inl d1⟩]
   exact ⟨_, rfl, fun h => by cases h⟩
  rw [q66 d1, y137]
  by_cases d2 : a.2.1 = b.2.1
  rotate_left
  ·rw [q70 d2, y136, if_pos ⟨rfl, .inr d2⟩]
   exact ⟨_, rfl, fun h => by cases h⟩
  rw [q66 d2, y137, if_neg (fun h => h.2.elim (fun h => h d1) (fun h => h d2))]
  exact ⟨_, rfl, fun _ => put _ rfl⟩
 | false =>
  rw [y137, if_neg (show ¬ (false = true /\ (a.1 ≠ b.1 \/ a.2.1 ≠ b.2.1)) from fun h => absurd h.1 Bool.false_ne_true)]
  exact ⟨_, rfl, fun _ => put _ rfl⟩
theorem rof_ok (k : Nat) (hk : 129 <= k) (s : Sg) (a b : Sh) : F107 k s a b = some (((q71 s a b).1, (q71 s a b).2, ()), ()) := by
 unfold F107 q71
 by_cases hf : q123 s
 rotate_left
 ·rw [q404, y138, y0 hf, y150, y136, if_pos hf]
 obtain ⟨o, ho, ho2⟩ := q619 k hk s hf.1 a b
 simp only [q404, q632, q519, q364, redge_ok, ho, y138]
 rw [y135 hf, y145, y137, if_neg (fun h => h hf)]
 by_cases ha : q205 a.1 a.2.1 a.2.2
 rotate_left
 ·rw [y0 ha, y150, y136, if_pos (.inl ha)]
 rw [y135 ha, y145, y137]
 have go : (bif q59 s a b != 0 then (some ((((0, 0, 0) : Sh), q59 s a b, ()), ())) else (some ((o, 0, ()), ()))) =
   some (((if q59 s a b ≠ 0 then (((0, 0, 0) : Sh), q59 s a b) else (q174 s a, 0)).1, (if q59 s a b ≠ 0 then (((0, 0, 0) : Sh), q59 s a b) else (q174 s a, 0)).2, ()), ()) := by
  by_cases hc : q59 s a b = 0
  ·have hc' : ¬ q59 s a b ≠ 0 := fun h => h hc
   rw [q66 hc, y137, if_neg hc', ho2 hc]
  ·have hc' : q59 s a b ≠ 0 := hc
   rw [q70 hc, y136, if_pos hc']
 have tail : (bif edB s.1 then (bif !q254 s.2.2.2.2.1 a.2.2 then (some ((((0, 0, 0) : Sh), (1 : Int), ()), ())) else (bif q59 s a b != 0 then (some ((((0, 0, 0) : Sh), q59 s a b, ()), ())) else (some ((o, 0, ()), ()))))
   else (bif q59 s a b != 0 then (some ((((0, 0, 0) : Sh), q59 s a b, ()), ())) else (some ((o, 0, ()), ())))) =
   some (((if edB s.1 = true /\ q254 s.2.2.2.2.1 a.2.2 = false then (((0, 0, 0) : Sh), (1 : Int)) else if q59 s a b ≠ 0 then ((0, 0, 0), q59 s a b) else (q174 s a, 0)).1, (if edB s.1 = true /\ q254 s.2.2.2.2.1 a.2.2 = false then (((0, 0, 0) : Sh), (1 : Int)) else if q59 s a b ≠ 0 then ((0, 0, 0), q59 s a b) else (q174 s a, 0)).2, ()), ()) := by
  rw [go]
  cases hb : edB s.1 with
  | false => rw [y137, if_neg (show ¬ (false = true /\ q254 s.2.2.2.2.1 a.2.2 = false) from fun h => absurd h.1 Bool.false_ne_true)]
  | true =>
   rw [y136]
   cases he : q254 s.2.2.2.2.1 a.2.2 with
   | true => rw [y145, y137, if_neg (show ¬ (true = true /\ true = false) from fun h => absurd h.2 (by simp))]
   | false => rw [y150, y136, if_pos ⟨rfl, rfl⟩]
 cases ht : twoB s with
 | true =>
  rw [y136]
  by_cases hb : q205 b.1 b.2.1 b.2.2
  rotate_left
  ·rw [y0 hb, y150, y136, if_pos (.inr ⟨rfl, hb⟩)]
  rw [y135 hb, y145, y137, if_neg (fun h => h.elim (fun h => h ha) (fun h => h.2 hb))]
  exact tail
 | false =>
  rw [y137, if_neg (fun h => h.elim (fun h => h ha) (fun h => absurd h.1 (by simp)))]
  exact tail
end Go.Lf.T

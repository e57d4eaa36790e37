import Derived.Test.YtmndobcnlakglaaGreatLfQ17y
import Derived.Test.YtmndobcnlakglaaGreatLfCc
set_option linter.unusedVariables false
set_option maxRecDepth 100000
namespace Go.Lf.T
open Go Go.Lf
theorem q480 : F114 5000 = some ((true, ()), ()) := by kernel_rfl
abbrev Stg := Int × Int × Int × Bool × (Int × Int) × Int × Int × (List Int) × (List Int) × (List Int) × Int × Int × (List (Int × List Int)) × (List (Int × List Int)) × Int × (List (Int × Int)) × Int
abbrev Pln := Int × Int × Int × List Int
def srcs (s : Stg) : List Int := bif s.1 == 6 && s.2.2.1 != (-1) then [s.2.1, s.2.2.1] else [s.2.1]
theorem q115 (s : Stg) : (srcs s).length = 1 \/ (srcs s).length = 2 := by
 unfold srcs
 cases s.1 == 6 && s.2.2.1 != (-1) <;> simp
theorem q136 (k : Nat) (s : Stg) : F11 k s = some ((srcs s, ()), ()) := by
 unfold F11 F10 srcs
 cases h : s.1 == 6 with
 | false => rfl
 | true => cases h2 : s.2.2.1 != (-1) <;> simp only [y136, y138, y137, Bool.and_true, Bool.and_false]
theorem q143 (k : Nat) (s : Stg) : F25 k s = some ((srcs s, ()), ()) := by
 unfold F25 F24 srcs
 cases h : s.1 == 6 with
 | false => rfl
 | true => cases h2 : s.2.2.1 != (-1) <;> simp only [y136, y138, y137, Bool.and_true, Bool.and_false]
def has (p : Nat) (out : List Int) (x : Int) : Bool := decide (x < p) || out.contains x
def lst (p n : Nat) (out : List Int) : List Bool := (List.range (p + n)).map fun (j : Nat) => has p out (j : Int)
theorem q124 (p n : Nat) (out : List Int) : (lst p n out).length = p + n := by simp [lst]
theorem q166 {p n : Nat} {out : List Int} {j : Nat} (h : j < p + n) : (lst p n out)[j]? = some (has p out j) := by
 unfold lst
 rw [List.getElem?_map, List.getElem?_range h]; rfl
theorem q568 (p : Nat) (out : List Int) (y x : Int) : has p (out ++ [y]) x = (has p out x || x == y) := by
 unfold has
 rw [List.contains_append, <- Bool.or_assoc]
 congr 1
 simp only [List.contains_cons, List.contains_nil, Bool.or_false]
theorem lst_set {p n i : Nat} {out : List Int} (h : i < n) : (lst p n out).set (p + i) true = lst p n (out ++ [((p + i : Nat) : Int)]) := by
 apply List.ext_getElem?
 intro j
 by_cases hj : j < p + n
 ·rw [q166 hj, List.getElem?_set, q124]
  by_cases e : p + i = j
  ·subst e; rw [if_pos rfl, if_pos hj, q568]; simp
  ·rw [if_neg e, q166 hj, q568]
   have : ((j : Int) == ((p + i : Nat) : Int)) = false := by simp; omega
   rw [this, Bool.or_false]
 ·rw [y158 (by rw [List.length_set, q124]; omega), y158 (by rw [q124]; omega)]
theorem cf_loop {R : Type} (k p n : Nat) (out l : List Int) (e0 : Int -> List Bool -> Option R) (e1 : List Bool -> Option R) (hl : ∀ x ∈ l, 0 <= x /\ x < (p : Int) + n) (hlen : l.length <= 1000) : ∀ (m i j : Nat), l.length - i = m -> i <= l.length -> m < j ->
  ∃ r : Option Nat, r.isNone = (l.drop i).all (has p out) /\ F14.loop0 k j l l.length i (lst p n out) e0 e1 = match r with | none => e1 (lst p n out) | some q => e0 (q : Nat) (lst p n out) := by
 intro m
 induction m with
 | zero =>
  intro i j hm hi hj
  obtain ⟨j, rfl⟩ : ∃ j', j = j' + 1 := ⟨j - 1, by omega⟩
  refine ⟨none, ?_, ?_⟩
  ·rw [show i = l.length by omega, y157]; rfl
  ·rw [F14.loop0_s, y0 (by omega), y137]
 | succ m ih =>
  intro i j hm hi hj
  obtain ⟨j, rfl⟩ : ∃ j', j = j' + 1 := ⟨j - 1, by omega⟩
  have hlt : i < l.length := by omega
  obtain ⟨b1, b2⟩ := hl l[i] (y160 hlt)
  have hd : l.drop i = l[i] :: l.drop (i + 1) := y147 hlt
  have hcall : F13 k l[i] (lst p n out) = some ((!(has p out l[i]), ()), (lst p n out, ())) := by
   unfold F13
   rw [if_pos (by rw [q124]; omega), q166 (j := l[i].toNat) (by omega), y138, Int.toNat_of_nonneg b1]
  rw [F14.loop0_s, y135 (by omega), y136, if_pos (by omega), y139, y140 hlt, y138, hcall]
  simp only [y138]
  cases hh : has p out l[i] with
  | false => exact ⟨some i, by rw [hd, List.all_cons, hh]; rfl, rfl⟩
  | true =>
   obtain ⟨r, h1, h2⟩ := ih (i + 1) j (by omega) (by omega) (by omega)
   refine ⟨r, by rw [hd, List.all_cons, hh, Bool.true_and]; exact h1, ?_⟩
   rw [y145, y137, q22 i (by omega)]
   exact h2
theorem cf_ok {k p n : Nat} {out l : List Int} (hl : ∀ x ∈ l, 0 <= x /\ x < (p : Int) + n) (hlen : l.length <= 1000) (hk : 1001 <= k) : F15 k l (lst p n out) = some ((!(l.all (has p out)), ()), (lst p n out, ())) := by
 unfold F15 F14
 obtain ⟨r, h1, h2⟩ := cf_loop k p n out l (fun (z3 : Int) (z4 : List Bool) => (some ((z3, ()), (z4, ())))) (fun (z5 : List Bool) => (some (((-1), ()), (z5, ())))) hl hlen l.length 0 k (by omega) (by omega) (by omega)
 rw [show ((0 : Nat) : Int) = 0 from rfl] at h2
 rw [h2]
 rw [y152] at h1
 cases r with
 | none => simp only [y138, <- h1]; rfl
 | some q => simp only [y138, <- h1]; rw [y135 (by omega)]; rfl
def rdy (p : Nat) (out : List Int) (s : Stg) : Bool := (srcs s).all (has p out)
def pk (p : Nat) (out : List Int) : List Stg -> Nat -> Option Nat
 | [], _ => none
 | s :: l, i => bif !out.contains ((p + i : Nat) : Int) && rdy p out s then some i else pk p out l (i + 1)
theorem q518 {p : Nat} {out : List Int} : ∀ {l : List Stg} {i q : Nat}, pk p out l i = some q -> i <= q /\ (∃ s, l[q - i]? = some s /\ rdy p out s = true) /\ ((p + q : Nat) : Int) ∉ out /\ ∀ r s, i <= r -> r < q -> l[r - i]? = some s -> ((p + r : Nat) : Int) ∈ out \/ rdy p out s = false
 | [], _, _, h => by cases h
 | s :: l, i, q, h => by
  unfold pk at h
  cases hc : (!out.contains ((p + i : Nat) : Int) && rdy p out s) with
  | true =>
   rw [hc] at h
   injection h with h; subst h
   rw [y144] at hc
   refine ⟨Nat.le_refl _, ⟨s, by simp, hc.2⟩, ?_, fun r s' h1 h2 => absurd h1 (by omega)⟩
   have := hc.1
   simpa using this
  | false =>
   rw [hc] at h
   obtain ⟨h1, ⟨s', h2, h3⟩, h4, h5⟩ := q518 (l := l) (show pk p out l (i + 1) = some q from h)
   refine ⟨by omega, ⟨s', ?_, h3⟩, h4, fun r s'' hr1 hr2 hr3 => ?_⟩
   ·rw [show q - i = (q - (i + 1)) + 1 by omega, List.getElem?_cons_succ]; exact h2
   ·by_cases e : r = i
    ·subst e
     rw [Nat.sub_self] at hr3
     simp at hr3; subst hr3
     rw [Bool.and_eq_false_iff] at hc
     exact hc.imp (fun h => by simpa using h) id
    ·rw [show r - i = (r - (i + 1)) + 1 by omega, List.getElem?_cons_succ] at hr3
     exact h5 r s'' (by omega) hr2 hr3
theorem q675 {p : Nat} {out : List Int} : ∀ {l : List Stg} {i : Nat}, pk p out l i = none -> ∀ r s, l[r]? = some s -> ((p + (i + r) : Nat) : Int) ∈ out \/ rdy p out s = false
 | [], _, _, r, s, h => by simp at h
 | s0 :: l, i, h, r, s, hr => by
  unfold pk at h
  cases hc : (!out.contains ((p + i : Nat) : Int) && rdy p out s0) with
  | true => rw [hc] at h; cases h
  | false =>
   rw [hc] at h
   cases r with
   | zero =>
    simp at hr; subst hr
    rw [Bool.and_eq_false_iff] at hc
    exact hc.imp (fun h => by simpa using h) id
   | succ r =>
    rw [List.getElem?_cons_succ] at hr
    have := q675 (l := l) (show pk p out l (i + 1) = none from h) r s hr
    rw [show i + (r + 1) = i + 1 + r by omega]
    exact this
theorem pk_lt {p : Nat} {out : List Int} {l : List Stg} {q : Nat} (h : pk p out l 0 = some q) : q < l.length := by
 obtain ⟨_, ⟨s, hs, _⟩, _⟩ := q518 h
 exact (y149.1 hs).1
def Good (n : Nat) (ss : List Stg) : Prop := ∀ s ∈ ss, ∀ x ∈ srcs s, 0 <= x /\ x < (n : Int)
def pkI (p : Nat) : Option Nat -> Int
 | some q => ((p + q : Nat) : Int)
 | none => -1
theorem q704 {R : Type} (k p : Nat) (ss : List Stg) (out : List Int) (e0 : Int -> List Bool -> Option R) (hg : Good (p + ss.length) ss) (hlen : p + ss.length <= 1000) (hk : 1001 <= k) : ∀ (m i j : Nat), ss.length - i = m -> i <= ss.length -> m < j ->
  F16.loop5 k j p (-1) ss ss.length i (lst p ss.length out) e0 = e0 (pkI p (pk p out (ss.drop i) i)) (lst p ss.length out) := by
 intro m
 induction m with
 | zero =>
  intro i j hm hi hj
  obtain ⟨j, rfl⟩ : ∃ j', j = j' + 1 := ⟨j - 1, by omega⟩
  rw [F16.loop5_s, y0 (by omega), y137, show i = ss.length by omega, y157]
  rfl
 | succ m ih =>
  intro i j hm hi hj
  obtain ⟨j, rfl⟩ : ∃ j', j = j' + 1 := ⟨j - 1, by omega⟩
  have hlt : i < ss.length := by omega
  have hd : ss.drop i = ss[i] :: ss.drop (i + 1) := y147 hlt
  have hsl := q115 ss[i]
  rw [F16.loop5_s, y135 (by omega), y136, if_pos (by omega), y139, y140 hlt, y138, q136]
  simp only [y138]
  rw [cf_ok (fun x hx => by have := hg ss[i] (y160 hlt) x hx; omega) (by omega) hk]
  simp only [y138]
  rw [<- Int.natCast_add, q86 (p + i) (by omega), if_pos (by rw [q124]; omega), y139, q166 (by omega), y138, hd, q22 i (by omega)]
  have hh : has p out ((p + i : Nat) : Int) = out.contains ((p + i : Nat) : Int) := by unfold has; rw [y0 (by omega), Bool.false_or]
  rw [hh]
  show _ = e0 (pkI p (bif !out.contains ((p + i : Nat) : Int) && rdy p out ss[i] then some i else pk p out (ss.drop (i + 1)) (i + 1))) _
  unfold rdy
  cases out.contains ((p + i : Nat) : Int) with
  | true => simp only [y145, Bool.false_and, y137]; exact ih (i + 1) j (by omega) (by omega) (by omega)
  | false =>
   cases (srcs ss[i]).all (has p out) with
   | true => rfl
   | false => simp only [y145, y150, Bool.true_and, y137, y136]; exact ih (i + 1) j (by omega) (by omega) (by omega)
def go (p : Nat) (ss : List Stg) : Nat -> List Int -> Option (List Int)
 | 0, out => some out
 | f + 1, out => match pk p out ss 0 with
  | some q => go p ss f (out ++ [((p + q : Nat) : Int)])
  | none => none
theorem q401 {R : Type} (k p : Nat) (pl : List Pln) (ss : List Stg) (os : List Int) (pr : Int) (e0 : Int -> List Int -> Option R) (e1 : List Int -> Option R) (hg : Good (p + ss.length) ss) (hlen : p + ss.length <= 1000) (hk : 1001 <= k) : ∀ (f j : Nat) (out : List Int), out.length + f = ss.length -> f < j ->
  F16.loop4 k j p pl ss os pr out (lst p ss.length out) e0 e1 = match go p ss f out with | some l => e1 l | none => e0 7 [] := by
 intro f
 induction f with
 | zero =>
  intro j out hm hj
  obtain ⟨j, rfl⟩ : ∃ j', j = j' + 1 := ⟨j - 1, by omega⟩
  rw [F16.loop4_s, y0 (by omega), y137]
  rfl
 | succ f ih =>
  intro j out hm hj
  obtain ⟨j, rfl⟩ : ∃ j', j = j' + 1 := ⟨j - 1, by omega⟩
  rw [F16.loop4_s, y135 (by omega), y136]
  have hp := q704 k p ss out (fun (z16 : Int) (z17 : List Bool) => (bif decide (z16 < 0) then (e0 7 ([] : List Int)) else (if (out ++ [z16]).length * 8 <= 140737488355328 then if 0 <= z16 /\ z16 < ((z17.length : Nat) : Int) then (z17[z16.toNat]?).bind fun (x18 : Bool) => F16.loop4 k j p pl ss os pr (out ++ [z16]) (z17.set z16.toNat true) e0 e1 else none else none))) hg hlen hk ss.length 0 k (by omega) (by omega) (by omega)
  rw [show ((0 : Nat) : Int) = 0 from rfl, y152] at hp
  rw [hp]
  show _ = match (match pk p out ss 0 with | some q => go p ss f (out ++ [((p + q : Nat) : Int)]) | none => none) with | some l => e1 l | none => e0 7 []
  cases hq : pk p out ss 0 with
  | none => rfl
  | some q =>
   have hql := pk_lt hq
   rw [show pkI p (some q) = ((p + q : Nat) : Int) from rfl]
   rw [y0 (p := ((p + q : Nat) : Int) < 0) (by omega), y137, if_pos (by rw [y148, y159]; omega), if_pos (by rw [q124]; omega), y139, q166 (by omega), y138, lst_set hql]
   exact ih j _ (by rw [y148, y159]; omega) (by omega)
theorem q416 (k : Nat) (x n : Int) : F12 k x n = some ((decide (0 <= x /\ x < n), ()), (n, ())) := by
 unfold F12
 by_cases h : x >= 0
 ·rw [y135 h, y136]
  by_cases h2 : x < n
  ·rw [y135 h2, y135 ⟨h, h2⟩]
  ·rw [y0 h2, y0 (fun hh => h2 hh.2)]
 ·rw [y0 h, y137, y0 (fun hh => h hh.1)]
theorem in_loop {R : Type} (k : Nat) (n : Int) (l : List Int) (e0 : Int -> List Int -> Option R) (e1 : Int -> Option R) (hl : ∀ x ∈ l, 0 <= x /\ x < n) (hlen : l.length <= 1000) : ∀ (m i j : Nat), l.length - i = m -> i <= l.length -> m < j ->
  F16.loop1 k j l.length i n l e0 e1 = e1 n := by
 intro m
 induction m with
 | zero =>
  intro i j hm hi hj
  obtain ⟨j, rfl⟩ : ∃ j', j = j' + 1 := ⟨j - 1, by omega⟩
  rw [F16.loop1_s, y0 (by omega), y137]
 | succ m ih =>
  intro i j hm hi hj
  obtain ⟨j, rfl⟩ : ∃ j', j = j' + 1 := ⟨j - 1, by omega⟩
  have hlt : i < l.length := by omega
  rw [F16.loop1_s, y135 (by omega), y136, if_pos (by omega), y139, y140 hlt, y138, q416, y135 (hl _ (y160 hlt))]
  simp only [y138, y145, y137]
  rw [q22 i (by omega)]
  exact ih (i + 1) j (by omega) (by omega) (by omega)
theorem ins_loop {R : Type} (k n : Nat) (ss : List Stg) (e0 : Int -> List Int -> Option R) (e1 : Int -> Option R) (hg : Good n ss) (hlen : ss.length <= 1000) (hk : 1001 <= k) : ∀ (m i j : Nat), ss.length - i = m -> i <= ss.length -> m < j ->
  F16.loop0 k j ss ss.length i n e0 e1 = e1 n := by
 intro m
 induction m with
 | zero =>
  intro i j hm hi hj
  obtain ⟨j, rfl⟩ : ∃ j', j = j' + 1 := ⟨j - 1, by omega⟩
  rw [F16.loop0_s, y0 (by omega), y137]
 | succ m ih =>
  intro i j hm hi hj
  obtain ⟨j, rfl⟩ : ∃ j', j = j' + 1 := ⟨j - 1, by omega⟩
  have hlt : i < ss.length := by omega
  have hsl := q115 ss[i]
  rw [F16.loop0_s, y135 (by omega), y136, if_pos (by omega), y139, y140 hlt, y138, q136]
  simp only [y138]
  have h := in_loop k (n : Int) (srcs ss[i]) (fun (z3 : Int) (z4 : List Int) => (e0 z3 z4)) (fun (z5 : Int) => F16.loop0 k j ss ss.length (w64 ((i : Int) + 1)) z5 e0 e1) (hg _ (y160 hlt)) (by omega) (srcs ss[i]).length 0 k (by omega) (by omega) (by omega)
  rw [show ((0 : Nat) : Int) = 0 from rfl] at h
  rw [h, q22 i (by omega)]
  exact ih (i + 1) j (by omega) (by omega) (by omega)
theorem q650 (n : Nat) : (List.replicate (1 + n) false).set 0 true = lst 1 n [] := by
 apply List.ext_getElem?
 intro j
 by_cases hj : j < 1 + n
 ·rw [q166 hj, List.getElem?_set]
  by_cases e : 0 = j
  ·subst e; rw [if_pos rfl, if_pos (by simp; omega)]; rfl
  ·rw [if_neg e, List.getElem?_replicate, if_pos hj]
   unfold has
   rw [y0 (by omega)]; rfl
 ·rw [y158 (by simp; omega), y158 (by rw [q124]; omega)]
abbrev pl0 : List Pln := [(1, 1, 9, [5])]
def ans (r : Option (List Int)) : List Int × Int := match r with | some l => (l, 0) | none => ([], 7)
theorem order_ok {k : Nat} {ss : List Stg} (hg : Good (1 + ss.length) ss) (h1 : 1 <= ss.length) (h2 : ss.length <= 15) (hk : 1001 <= k) :
  F16 k (pl0, ss, [0], 0) = some (((ans (go 1 ss ss.length [])).1, (ans (go 1 ss ss.length [])).2, ()), ()) := by
 unfold F16
 have e1 : ((pl0.length : Int) == 0) = false := rfl
 have e2 : ((ss.length : Int) == 0) = false := y165.2 (by omega)
 have e3 : w64 ((pl0.length : Int) + (ss.length : Int)) = ((1 + ss.length : Nat) : Int) := by rw [<- Int.natCast_add]; exact q86 _ (by show 1 + ss.length < _; omega)
 have e4 : ((([0] : List Int).length : Int) == 0) = false := rfl
 rw [e1, y137, e2, y137, e3, y0 (by omega), y137, e4, y137, y0 (p := (([0] : List Int).length : Int) > 16) (by decide), y137, y0 (p := (0 : Int) < 0) (by decide), y137, y0 (p := (0 : Int) >= 4) (by decide), y137]
 have l0 := ins_loop (R := (List Int × Int × Unit) × Unit) k (1 + ss.length) ss (fun (z6 : Int) (z7 : List Int) => (some ((z7, z6, ()), ()))) (fun (z8 : Int) => (F16.loop2 k k [0] ((1 : Nat) : Int) 0 z8 (fun (z11 : Int) (z12 : List Int) => (some ((z12, z11, ()), ()))) (fun (z13 : Int) => (if 0 <= z13 /\ z13 <= z13 /\ z13 * ((1 : Nat) : Int) <= 140737488355328 then F16.loop3 k k ((1 : Nat) : Int) 0 (List.replicate z13.toNat false) (fun (z15 : List Bool) => (F16.loop4 k k ((1 : Nat) : Int) pl0 ss [0] 0 ([] : List Int) z15 (fun (z19 : Int) (z20 : List Int) => (some ((z20, z19, ()), ()))) (fun (z21 : List Int) => (some ((z21, 0, ()), ()))))) else none)))) hg (by omega) hk ss.length 0 k (by omega) (by omega) (by omega)
 rw [show ((0 : Nat) : Int) = 0 from rfl] at l0
 refine Eq.trans l0 ?_
 obtain ⟨k1, rfl⟩ : ∃ k', k = k' + 1 + 1 := ⟨k - 2, by omega⟩
 rw [F16.loop2_s, y135 (by omega), y136, if_pos (by omega), show ([(0 : Int)][(0 : Int).toNat]?) = some 0 from rfl, y138, q416, y135 (by omega)]
 simp only [y138, y145, y137]
 rw [show w64 (0 + 1) = 1 from rfl, F16.loop2_s, y0 (by omega), y137, if_pos (by omega), y139]
 rw [F16.loop3_s, y135 (by omega), y136, if_pos (by rw [List.length_replicate]; omega), show (List.replicate (1 + ss.length) false)[(0 : Int).toNat]? = some false from by rw [List.getElem?_replicate, if_pos (show (0 : Int).toNat < 1 + ss.length by show 0 < _; omega)]]
 simp only [y138]
 rw [show (0 : Int).toNat = 0 from rfl, q650, show w64 (0 + 1) = 1 from rfl, F16.loop3_s, y0 (by omega), y137]
 have l4 := q401 (R := (List Int × Int × Unit) × Unit) (k1 + 1 + 1) 1 pl0 ss [0] 0 (fun (z19 : Int) (z20 : List Int) => (some ((z20, z19, ()), ()))) (fun (z21 : List Int) => (some ((z21, 0, ()), ()))) hg (by omega) hk ss.length (k1 + 1 + 1) [] (by simp) (by omega)
 rw [l4]
 unfold ans
 cases go 1 ss ss.length [] <;> rfl
def q390 (n : Nat) (s : Stg) : Prop := s.1 = 6 /\ (0 <= s.2.1 /\ s.2.1 <= n) /\ (s.2.2.1 = -1 \/ (0 <= s.2.2.1 /\ s.2.2.1 <= n))
theorem q649 {n : Nat} {ss : List Stg} (h : ∀ s ∈ ss, q390 n s) : Good (1 + n) ss := by
 intro s hs x hx
 obtain ⟨h1, h2, h3⟩ := h s hs
 unfold srcs at hx
 rw [h1] at hx
 cases hb : s.2.2.1 != (-1) with
 | false =>
  rw [hb] at hx
  simp at hx; subst hx; omega
 | true =>
  rw [hb] at hx
  have hne : s.2.2.1 ≠ -1 := by simpa using hb
  simp at hx
  rcases hx with rfl | rfl <;> omega
theorem q534 {R : Type} (k n : Nat) (l : List Int) (pl : List Pln) (os : List Int) (pr : Int) (e0 : List Pln -> List Stg -> List Int -> Int -> Option R) (hl : ∀ x ∈ l, 0 <= x /\ x <= (n : Int)) (hlen : l.length <= 1000) : ∀ (m i j : Nat) (ss : List Stg), l.length - i = m -> i <= l.length -> m < j -> ss.length = i -> (∀ s ∈ ss, q390 n s) ->
  ∃ ss', F8.loop0 k j l i pl ss os pr e0 = e0 pl ss' os pr /\ ss'.length = l.length /\ ∀ s ∈ ss', q390 n s := by
 intro m
 induction m with
 | zero =>
  intro i j ss hm hi hj hs hss
  obtain ⟨j, rfl⟩ : ∃ j', j = j' + 1 := ⟨j - 1, by omega⟩
  refine ⟨ss, ?_, by omega, hss⟩
  rw [F8.loop0_s, y0 (by omega), y137]
 | succ m ih =>
  intro i j ss hm hi hj hs hss
  obtain ⟨j, rfl⟩ : ∃ j', j = j' + 1 := ⟨j - 1, by omega⟩
  have hlt : i < l.length := by omega
  have hx := hl _ (y160 hlt)
  rw [F8.loop0_s, y135 (by omega), y136, if_pos (by omega), y139, y140 hlt, y138]
  unfold F7
  simp only [y138]
  rw [if_pos (by rw [y148, y159]; omega), q22 i (by omega)]
  refine ih (i + 1) j _ (by omega) (by omega) (by omega) (by rw [y148, y159, hs]) fun s hs' => ?_
  rcases y151.1 hs' with h | h
  ·exact hss s h
  ·rw [y161.1 h]
   exact ⟨rfl, hx, .inl rfl⟩
theorem q676 {R : Type} (k n : Nat) (hn : n <= 1000) (e0 : List Int -> Int -> List Int -> Option R) : ∀ (m i j : Nat) (t : List Int × Int) (l : List Int), n - i = m -> i <= n -> m < j -> l.length = i -> (∀ x ∈ l, 0 <= x /\ x <= (n : Int)) -> Tp t ->
  ∃ t' l', F9.loop0 k j n i t.1 t.2 l e0 = e0 t'.1 t'.2 l' /\ l'.length = n /\ (∀ x ∈ l', 0 <= x /\ x <= (n : Int)) /\ Tp t' := by
 intro m
 induction m with
 | zero =>
  intro i j t l hm hi hj hl hx ht
  obtain ⟨j, rfl⟩ : ∃ j', j = j' + 1 := ⟨j - 1, by omega⟩
  refine ⟨t, l, ?_, by omega, hx, ht⟩
  rw [F9.loop0_s, y0 (by omega), y137]
 | succ m ih =>
  intro i j t l hm hi hj hl hx ht
  obtain ⟨j, rfl⟩ : ∃ j', j = j' + 1 := ⟨j - 1, by omega⟩
  obtain ⟨v, t', hv, v1, v2, ht'⟩ := q507 k ht (n := ((n + 1 : Nat) : Int)) (by omega) (by omega)
  rw [F9.loop0_s, y135 (by omega), y136, q22 n (by omega), hv]
  simp only [y138]
  rw [if_pos (by rw [y148, y159]; omega), q22 i (by omega)]
  refine ih (i + 1) j t' _ (by omega) (by omega) (by omega) (by rw [y148, y159, hl]) (fun x hx' => ?_) ht'
  rcases y151.1 hx' with h | h
  ·exact hx x h
  ·rw [y161.1 h]; omega
theorem q523 {R : Type} (k n : Nat) (hn : n <= 1000) (pl : List Pln) (os : List Int) (pr : Int) (e0 : List Int -> Int -> List Pln -> List Stg -> List Int -> Int -> Option R) : ∀ (m i j : Nat) (t : List Int × Int) (ss : List Stg), n - i = m -> i <= n -> m < j -> ss.length = n -> (∀ s ∈ ss, q390 n s) -> Tp t ->
  ∃ t' ss', F9.loop1 k j n i t.1 t.2 pl ss os pr e0 = e0 t'.1 t'.2 pl ss' os pr /\ ss'.length = n /\ (∀ s ∈ ss', q390 n s) /\ Tp t' := by
 intro m
 induction m with
 | zero =>
  intro i j t ss hm hi hj hl hx ht
  obtain ⟨j, rfl⟩ : ∃ j', j = j' + 1 := ⟨j - 1, by omega⟩
  refine ⟨t, ss, ?_, by omega, hx, ht⟩
  rw [F9.loop1_s, y0 (by omega), y137]
 | succ m ih =>
  intro i j t ss hm hi hj hl hx ht
  obtain ⟨j, rfl⟩ : ∃ j', j = j' + 1 := ⟨j - 1, by omega⟩
  obtain ⟨v, t', hv, v1, v2, ht'⟩ := q507 k ht (n := 3) (by omega) (by omega)
  rw [F9.loop1_s, y135 (by omega), y136, hv]
  simp only [y138]
  cases hb : v == 0 with
  | false =>
   rw [y137, q22 i (by omega)]
   exact ih (i + 1) j t' ss (by omega) (by omega) (by omega) hl hx ht'
  | true =>
   obtain ⟨u, t2, hu, u1, u2, ht2⟩ := q507 k ht' (n := ((n + 1 : Nat) : Int)) (by omega) (by omega)
   have hlt : i < ss.length := by omega
   rw [y136, q22 n (by omega), hu]
   simp only [y138]
   rw [if_pos (by omega), y139, y140 hlt, y138, q22 i (by omega)]
   refine ih (i + 1) j t2 _ (by omega) (by omega) (by omega) (by rw [List.length_set]; exact hl) (fun s hs => ?_) ht2
   rcases List.mem_or_eq_of_mem_set hs with h | h
   ·exact hx s h
   ·rw [h]
    obtain ⟨g1, g2, _⟩ := hx _ (y160 hlt)
    exact ⟨g1, g2, .inr ⟨u1, show u <= (n : Int) by omega⟩⟩
theorem links_ok {k n : Nat} {t : List Int × Int} (ht : Tp t) (hn : n <= 1000) (hk : 1001 <= k) : ∃ ss t', F9 k t n = some (((pl0, ss, [0], 0), ()), (t', ())) /\ ss.length = n /\ ∀ s ∈ ss, q390 n s := by
 unfold F9
 obtain ⟨t1, l, h1, hl, hx, ht1⟩ := q676 (R := ((List Pln × List Stg × List Int × Int) × Unit) × ((List Int × Int) × Unit)) k n hn (fun (z2 : List Int) (z3 : Int) (z4 : List Int) => ((F8 k z4).bind fun y5 => F9.loop1 k k n 0 z2 z3 y5.1.1.1 y5.1.1.2.1 y5.1.1.2.2.1 y5.1.1.2.2.2 (fun z9 z10 z11 z12 z13 z14 => (some (((z11, z12, z13, z14), ()), ((z9, z10), ())))))) n 0 k t [] (by omega) (by omega) (by omega) rfl (fun x h => by cases h) ht
 rw [show ((0 : Nat) : Int) = 0 from rfl] at h1
 rw [h1]
 unfold F8
 obtain ⟨ss, h2, hs, hss⟩ := q534 (R := ((List Pln × List Stg × List Int × Int) × Unit) × Unit) k n l pl0 [0] 0 (fun z3 z4 z5 z6 => (some (((z3, z4, z5, z6), ()), ()))) hx (by omega) l.length 0 k [] (by omega) (by omega) (by omega) rfl (fun x h => by cases h)
 rw [show ((0 : Nat) : Int) = 0 from rfl] at h2
 rw [h2]
 simp only [y138]
 obtain ⟨t2, ss2, h3, hs2, hss2, ht2⟩ := q523 (R := ((List Pln × List Stg × List Int × Int) × Unit) × ((List Int × Int) × Unit)) k n hn pl0 [0] 0 (fun z9 z10 z11 z12 z13 z14 => (some (((z11, z12, z13, z14), ()), ((z9, z10), ())))) n 0 k t1 ss (by omega) (by omega) (by omega) (by omega) hss ht1
 rw [show ((0 : Nat) : Int) = 0 from rfl] at h3
 rw [h3]
 exact ⟨ss2, t2, rfl, hs2, hss2⟩
theorem q674 : ∀ (n : Nat) (l : List Int), l.Nodup -> (∀ x ∈ l, 1 <= x /\ x <= (n : Int)) -> l.length <= n
 | 0, [], _, _ => Nat.le_refl _
 | 0, x :: l, _, h => by have := h x (y169); omega
 | n + 1, l, hn, h => by
  by_cases hm : ((n + 1 : Nat) : Int) ∈ l
  ·have h1 := q674 n (l.erase ((n + 1 : Nat) : Int)) (hn.erase _) fun x hx => by
    have h2 := (hn.mem_erase_iff).1 hx
    have h3 := h x h2.2
    have h4 := h2.1
    omega
   rw [List.length_erase_of_mem hm] at h1
   omega
  ·have h1 := q674 n l hn fun x hx => by
    have h3 := h x hx
    have h4 : x ≠ ((n + 1 : Nat) : Int) := fun e => hm (e ▸ hx)
    omega
   omega
structure Inv (n : Nat) (out : List Int) : Prop where
 nd : out.Nodup
 rg : ∀ x ∈ out, 1 <= x /\ x <= (n : Int)
theorem Inv.snoc {ss : List Stg} {out : List Int} {q : Nat} (h : Inv ss.length out) (hq : pk 1 out ss 0 = some q) : Inv ss.length (out ++ [((1 + q : Nat) : Int)]) := by
 have hl := pk_lt hq
 obtain ⟨_, _, h3, _⟩ := q518 hq
 refine ⟨List.nodup_append.2 ⟨h.nd, (by simp), fun a ha b hb => ?_⟩, fun x hx => ?_⟩
 ·rw [y161.1 hb]
  exact fun e => h3 (e ▸ ha)
 ·rcases y151.1 hx with hx | hx
  ·exact h.rg x hx
  ·rw [y161.1 hx]; omega
theorem go_inv {ss : List Stg} : ∀ (f : Nat) (out l : List Int), Inv ss.length out -> go 1 ss f out = some l -> Inv ss.length l /\ l.length = out.length + f
 | 0, out, l, hi, h => by injection h with h; subst h; exact ⟨hi, rfl⟩
 | f + 1, out, l, hi, h => by
  have h' : (match pk 1 out ss 0 with | some q => go 1 ss f (out ++ [((1 + q : Nat) : Int)]) | none => none) = some l := h
  cases hq : pk 1 out ss 0 with
  | none => rw [hq] at h'; cases h'
  | some q =>
   rw [hq] at h'
   obtain ⟨h1, h2⟩ := go_inv f _ l (hi.snoc hq) h'
   exact ⟨h1, by rw [h2, y148, y159]; omega⟩
theorem q723 (n : Nat) : Inv n [] := ⟨List.nodup_nil, fun x h => by cases h⟩
def Led (ss : List Stg) (out : List Int) : Prop := ∀ t, t < out.length -> ∃ q, out[t]? = some ((1 + q : Nat) : Int) /\ pk 1 (out.take t) ss 0 = some q
theorem Led.snoc {ss : List Stg} {out : List Int} {q : Nat} (h : Led ss out) (hq : pk 1 out ss 0 = some q) : Led ss (out ++ [((1 + q : Nat) : Int)]) := by
 intro t ht
 rw [y148, y159] at ht
 by_cases e : t = out.length
 ·subst e
  exact ⟨q, by rw [List.getElem?_append_right (Nat.le_refl _), Nat.sub_self]; rfl, by rw [List.take_left']; exact hq; rfl⟩
 ·obtain ⟨q', h1, h2⟩ := h t (by omega)
  exact ⟨q', by rw [List.getElem?_append_left (by omega)]; exact h1, by rw [List.take_append_of_le_length (by omega)]; exact h2⟩
end Go.Lf.T

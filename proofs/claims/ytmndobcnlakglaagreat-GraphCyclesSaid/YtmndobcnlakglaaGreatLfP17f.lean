import Derived.Test.YtmndobcnlakglaaGreatLfP17z
set_option linter.unusedVariables false
set_option maxRecDepth 100000
namespace Go.Lf.T
open Go Go.Lf
def inNd (n x : Int) : Bool := decide (0 <= x /\ x < n)
def inSt (n : Int) (s : Stg) : Bool := (srcs s).all (inNd n)
theorem in_loopG {R : Type} (k : Nat) (n : Int) (l : List Int) (e0 : Int -> List Int -> Option R) (e1 : Int -> Option R) (hlen : l.length <= 1000) : ∀ (m i j : Nat), l.length - i = m -> i <= l.length -> m < j ->
  F16.loop1 k j l.length i n l e0 e1 = bif (l.drop i).all (inNd n) then e1 n else e0 6 [] := by
 intro m
 induction m with
 | zero =>
  intro i j hm hi hj
  obtain ⟨j, rfl⟩ : ∃ j', j = j' + 1 := ⟨j - 1, by omega⟩
  rw [F16.loop1_s, y0 (by omega), y137, show i = l.length by omega, y157]; rfl
 | succ m ih =>
  intro i j hm hi hj
  obtain ⟨j, rfl⟩ : ∃ j', j = j' + 1 := ⟨j - 1, by omega⟩
  have hlt : i < l.length := by omega
  rw [F16.loop1_s, y135 (by omega), y136, if_pos (by omega), y139, y140 hlt, y138, q416, y147 hlt, List.all_cons]
  simp only [y138]
  rw [q22 i (by omega), ih (i + 1) j (by omega) (by omega) (by omega)]
  show (bif !inNd n l[i] then _ else _) = _
  cases inNd n l[i] <;> rfl
theorem q645 {R : Type} (k n : Nat) (ss : List Stg) (e0 : Int -> List Int -> Option R) (e1 : Int -> Option R) (hlen : ss.length <= 1000) (hk : 1001 <= k) : ∀ (m i j : Nat), ss.length - i = m -> i <= ss.length -> m < j ->
  F16.loop0 k j ss ss.length i n e0 e1 = bif (ss.drop i).all (inSt n) then e1 n else e0 6 [] := by
 intro m
 induction m with
 | zero =>
  intro i j hm hi hj
  obtain ⟨j, rfl⟩ : ∃ j', j = j' + 1 := ⟨j - 1, by omega⟩
  rw [F16.loop0_s, y0 (by omega), y137, show i = ss.length by omega, y157]; rfl
 | succ m ih =>
  intro i j hm hi hj
  obtain ⟨j, rfl⟩ : ∃ j', j = j' + 1 := ⟨j - 1, by omega⟩
  have hlt : i < ss.length := by omega
  have hsl := q115 ss[i]
  rw [F16.loop0_s, y135 (by omega), y136, if_pos (by omega), y139, y140 hlt, y138, q136, y147 hlt, List.all_cons]
  simp only [y138]
  have h := in_loopG k (n : Int) (srcs ss[i]) (fun (z3 : Int) (z4 : List Int) => (e0 z3 z4)) (fun (z5 : Int) => F16.loop0 k j ss ss.length (w64 ((i : Int) + 1)) z5 e0 e1) (by omega) (srcs ss[i]).length 0 k (by omega) (by omega) (by omega)
  rw [show ((0 : Nat) : Int) = 0 from rfl, y152] at h
  rw [h, q22 i (by omega), ih (i + 1) j (by omega) (by omega) (by omega)]
  show (bif inSt n ss[i] then _ else _) = _
  cases inSt n ss[i] <;> rfl
theorem q602 {R : Type} (k : Nat) (n : Int) (l : List Int) (e0 : Int -> List Int -> Option R) (e1 : Int -> Option R) (hlen : l.length <= 1000) : ∀ (m i j : Nat), l.length - i = m -> i <= l.length -> m < j ->
  F16.loop2 k j l l.length i n e0 e1 = bif (l.drop i).all (inNd n) then e1 n else e0 6 [] := by
 intro m
 induction m with
 | zero =>
  intro i j hm hi hj
  obtain ⟨j, rfl⟩ : ∃ j', j = j' + 1 := ⟨j - 1, by omega⟩
  rw [F16.loop2_s, y0 (by omega), y137, show i = l.length by omega, y157]; rfl
 | succ m ih =>
  intro i j hm hi hj
  obtain ⟨j, rfl⟩ : ∃ j', j = j' + 1 := ⟨j - 1, by omega⟩
  have hlt : i < l.length := by omega
  rw [F16.loop2_s, y135 (by omega), y136, if_pos (by omega), y139, y140 hlt, y138, q416, y147 hlt, List.all_cons]
  simp only [y138]
  rw [q22 i (by omega), ih (i + 1) j (by omega) (by omega) (by omega)]
  show (bif !inNd n l[i] then _ else _) = _
  cases inNd n l[i] <;> rfl
theorem lst_next {N i : Nat} (h : i < N) : (lst i (N - i) []).set i true = lst (i + 1) (N - (i + 1)) [] := by
 apply List.ext_getElem?
 intro j
 by_cases hj : j < N
 ·rw [q166 (by omega), List.getElem?_set, q124]
  by_cases e : i = j
  ·subst e
   rw [if_pos rfl, if_pos (by omega)]
   unfold has
   rw [y135 (by omega)]; rfl
  ·rw [if_neg e, q166 (by omega)]
   unfold has
   by_cases h2 : j < i
   ·rw [y135 (by omega), y135 (by omega)]
   ·rw [y0 (by omega), y0 (by omega)]
 ·rw [y158 (by rw [List.length_set, q124]; omega), y158 (by rw [q124]; omega)]
theorem lst_zero (N : Nat) : List.replicate N false = lst 0 N [] := by
 apply List.ext_getElem?
 intro j
 by_cases hj : j < N
 ·rw [q166 (by omega), List.getElem?_replicate, if_pos hj]
  unfold has
  rw [y0 (by omega)]; rfl
 ·rw [y158 (by simp; omega), y158 (by rw [q124]; omega)]
theorem q637 {R : Type} (k p N : Nat) (e0 : List Bool -> Option R) (hp : p <= N) (hN : N <= 1000) : ∀ (m i j : Nat), p - i = m -> i <= p -> m < j ->
  F16.loop3 k j p i (lst i (N - i) []) e0 = e0 (lst p (N - p) []) := by
 intro m
 induction m with
 | zero =>
  intro i j hm hi hj
  obtain ⟨j, rfl⟩ : ∃ j', j = j' + 1 := ⟨j - 1, by omega⟩
  rw [F16.loop3_s, y0 (by omega), y137, show i = p by omega]
 | succ m ih =>
  intro i j hm hi hj
  obtain ⟨j, rfl⟩ : ∃ j', j = j' + 1 := ⟨j - 1, by omega⟩
  rw [F16.loop3_s, y135 (by omega), y136, if_pos (by rw [q124]; omega), y139, q166 (by omega), y138, lst_next (by omega), q22 i (by omega)]
  exact ih (i + 1) j (by omega) (by omega) (by omega)
theorem goodG {n : Nat} {ss : List Stg} (h : ss.all (inSt n) = true) : Good n ss := by
 intro s hs x hx
 have h1 : inSt n s = true := List.all_eq_true.1 h s hs
 exact of_decide_eq_true (List.all_eq_true.1 h1 x hx)
def ordr (pl : List Pln) (ss : List Stg) (os : List Int) (pr : Int) : List Int × Int :=
 bif (pl.length : Int) == 0 then ([], 5) else bif (ss.length : Int) == 0 then ([], 5) else bif decide (((pl.length + ss.length : Nat) : Int) > 16) then ([], 5) else
 bif (os.length : Int) == 0 then ([], 5) else bif decide ((os.length : Int) > 16) then ([], 5) else bif decide (pr < 0) then ([], 2) else bif decide (pr >= 4) then ([], 2) else
 bif !ss.all (inSt ((pl.length + ss.length : Nat) : Int)) then ([], 6) else bif !os.all (inNd ((pl.length + ss.length : Nat) : Int)) then ([], 6) else ans (go pl.length ss ss.length [])
theorem q461 {k : Nat} (pl : List Pln) (ss : List Stg) (os : List Int) (pr : Int) (hp : pl.length <= 100) (hs : ss.length <= 100) (ho : os.length <= 100) (hk : 1001 <= k) :
  F16 k (pl, ss, os, pr) = some (((ordr pl ss os pr).1, (ordr pl ss os pr).2, ()), ()) := by
 have e3 : w64 ((pl.length : Int) + (ss.length : Int)) = ((pl.length + ss.length : Nat) : Int) := by rw [<- Int.natCast_add]; exact q86 _ (by omega)
 unfold F16 ordr
 rw [e3]
 cases ((pl.length : Int) == 0) with
 | true => rfl
 | false =>
 cases ((ss.length : Int) == 0) with
 | true => rfl
 | false =>
 simp only [y137]
 cases h3 : decide (((pl.length + ss.length : Nat) : Int) > 16) with
 | true => rfl
 | false =>
 cases ((os.length : Int) == 0) with
 | true => rfl
 | false =>
 cases decide ((os.length : Int) > 16) with
 | true => rfl
 | false =>
 cases decide (pr < 0) with
 | true => rfl
 | false =>
 cases decide (pr >= 4) with
 | true => rfl
 | false =>
 simp only [y137]
 have l0 := q645 (R := (List Int × Int × Unit) × Unit) k (pl.length + ss.length) ss (fun (z6 : Int) (z7 : List Int) => (some ((z7, z6, ()), ()))) (fun (z8 : Int) => (F16.loop2 k k os (os.length : Int) 0 z8 (fun (z11 : Int) (z12 : List Int) => (some ((z12, z11, ()), ()))) (fun (z13 : Int) => (if 0 <= z13 /\ z13 <= z13 /\ z13 * ((1 : Nat) : Int) <= 140737488355328 then F16.loop3 k k (pl.length : Int) 0 (List.replicate z13.toNat false) (fun (z15 : List Bool) => (F16.loop4 k k (pl.length : Int) pl ss os pr ([] : List Int) z15 (fun (z19 : Int) (z20 : List Int) => (some ((z20, z19, ()), ()))) (fun (z21 : List Int) => (some ((z21, 0, ()), ()))))) else none)))) (by omega) hk ss.length 0 k (by omega) (by omega) (by omega)
 rw [show ((0 : Nat) : Int) = 0 from rfl, y152] at l0
 refine Eq.trans l0 ?_
 cases hg : ss.all (inSt ((pl.length + ss.length : Nat) : Int)) with
 | false => rfl
 | true =>
 simp only [y136, y145, y137]
 have l2 := q602 (R := (List Int × Int × Unit) × Unit) k ((pl.length + ss.length : Nat) : Int) os (fun (z11 : Int) (z12 : List Int) => (some ((z12, z11, ()), ()))) (fun (z13 : Int) => (if 0 <= z13 /\ z13 <= z13 /\ z13 * ((1 : Nat) : Int) <= 140737488355328 then F16.loop3 k k (pl.length : Int) 0 (List.replicate z13.toNat false) (fun (z15 : List Bool) => (F16.loop4 k k (pl.length : Int) pl ss os pr ([] : List Int) z15 (fun (z19 : Int) (z20 : List Int) => (some ((z20, z19, ()), ()))) (fun (z21 : List Int) => (some ((z21, 0, ()), ()))))) else none)) (by omega) os.length 0 k (by omega) (by omega) (by omega)
 rw [show ((0 : Nat) : Int) = 0 from rfl, y152] at l2
 refine Eq.trans l2 ?_
 cases os.all (inNd ((pl.length + ss.length : Nat) : Int)) with
 | false => rfl
 | true =>
 simp only [y136, y145, y137]
 rw [if_pos (by omega), y139, lst_zero]
 have l3 := q637 (R := (List Int × Int × Unit) × Unit) k pl.length (pl.length + ss.length) (fun (z15 : List Bool) => (F16.loop4 k k (pl.length : Int) pl ss os pr ([] : List Int) z15 (fun (z19 : Int) (z20 : List Int) => (some ((z20, z19, ()), ()))) (fun (z21 : List Int) => (some ((z21, 0, ()), ()))))) (by omega) (by omega) pl.length 0 k (by omega) (by omega) (by omega)
 rw [show ((0 : Nat) : Int) = 0 from rfl, Nat.sub_zero] at l3
 refine Eq.trans l3 ?_
 rw [show pl.length + ss.length - pl.length = ss.length by omega]
 have l4 := q401 (R := (List Int × Int × Unit) × Unit) k pl.length pl ss os pr (fun (z19 : Int) (z20 : List Int) => (some ((z20, z19, ()), ()))) (fun (z21 : List Int) => (some ((z21, 0, ()), ()))) (goodG hg) (by omega) hk ss.length k [] (by simp) (by omega)
 rw [l4]
 unfold ans
 cases go pl.length ss ss.length [] <;> rfl
theorem rin_loop {R : Type} (k : Nat) (n : Int) (l : List Int) (e0 : Int -> Option R) (e1 : Unit -> Option R) (hlen : l.length <= 1000) : ∀ (m i j : Nat), l.length - i = m -> i <= l.length -> m < j ->
  F26.loop1 k j n i l e0 e1 = bif (l.drop i).all (inNd n) then e1 () else e0 6 := by
 intro m
 induction m with
 | zero =>
  intro i j hm hi hj
  obtain ⟨j, rfl⟩ : ∃ j', j = j' + 1 := ⟨j - 1, by omega⟩
  rw [F26.loop1_s, y0 (by omega), y137, show i = l.length by omega, y157]; rfl
 | succ m ih =>
  intro i j hm hi hj
  obtain ⟨j, rfl⟩ : ∃ j', j = j' + 1 := ⟨j - 1, by omega⟩
  have hlt : i < l.length := by omega
  rw [F26.loop1_s, y135 (by omega), y136, if_pos (by omega), y139, y140 hlt, y138, y147 hlt, List.all_cons]
  unfold inNd
  by_cases h1 : l[i] < 0
  ·rw [y135 h1, y0 (fun h => by omega)]; rfl
  ·rw [y0 h1, y137, if_pos (by omega), y138]
   by_cases h2 : l[i] >= n
   ·rw [y135 h2, y0 (fun h => by omega)]; rfl
   ·rw [y0 h2, y137, y135 (by omega), Bool.true_and, q22 i (by omega)]
    exact ih (i + 1) j (by omega) (by omega) (by omega)
theorem q707 {R : Type} (k : Nat) (n : Int) (pl : List Pln) (ss : List Stg) (l : List Int) (pr : Int) (e0 : Int -> Option R) (e1 : Unit -> Option R) (hlen : l.length <= 1000) : ∀ (m i j : Nat), l.length - i = m -> i <= l.length -> m < j ->
  F26.loop2 k j n i pl ss l pr e0 e1 = bif (l.drop i).all (inNd n) then e1 () else e0 6 := by
 intro m
 induction m with
 | zero =>
  intro i j hm hi hj
  obtain ⟨j, rfl⟩ : ∃ j', j = j' + 1 := ⟨j - 1, by omega⟩
  rw [F26.loop2_s, y0 (by omega), y137, show i = l.length by omega, y157]; rfl
 | succ m ih =>
  intro i j hm hi hj
  obtain ⟨j, rfl⟩ : ∃ j', j = j' + 1 := ⟨j - 1, by omega⟩
  have hlt : i < l.length := by omega
  rw [F26.loop2_s, y135 (by omega), y136, if_pos (by omega), y139, y140 hlt, y138, y147 hlt, List.all_cons]
  unfold inNd
  by_cases h1 : l[i] < 0
  ·rw [y135 h1, y0 (fun h => by omega)]; rfl
  ·rw [y0 h1, y137, if_pos (by omega), y138]
   by_cases h2 : l[i] >= n
   ·rw [y135 h2, y0 (fun h => by omega)]; rfl
   ·rw [y0 h2, y137, y135 (by omega), Bool.true_and, q22 i (by omega)]
    exact ih (i + 1) j (by omega) (by omega) (by omega)
theorem q670 {R : Type} (k : Nat) (n : Int) (pl : List Pln) (ss : List Stg) (os : List Int) (pr : Int) (e0 : Int -> Option R) (e1 : List Pln -> List Stg -> List Int -> Int -> Option R) (hlen : ss.length <= 1000) (hk : 1001 <= k) : ∀ (m i j : Nat), ss.length - i = m -> i <= ss.length -> m < j ->
  F26.loop0 k j n i pl ss os pr e0 e1 = bif (ss.drop i).all (inSt n) then e1 pl ss os pr else e0 6 := by
 intro m
 induction m with
 | zero =>
  intro i j hm hi hj
  obtain ⟨j, rfl⟩ : ∃ j', j = j' + 1 := ⟨j - 1, by omega⟩
  rw [F26.loop0_s, y0 (by omega), y137, show i = ss.length by omega, y157]; rfl
 | succ m ih =>
  intro i j hm hi hj
  obtain ⟨j, rfl⟩ : ∃ j', j = j' + 1 := ⟨j - 1, by omega⟩
  have hlt : i < ss.length := by omega
  have hsl := q115 ss[i]
  rw [F26.loop0_s, y135 (by omega), y136, if_pos (by omega), y139, y140 hlt, y138, q143, y147 hlt, List.all_cons]
  simp only [y138]
  have h := rin_loop k n (srcs ss[i]) (fun (z3 : Int) => (e0 z3)) (fun (_ : Unit) => (F26.loop0 k j n (w64 ((i : Int) + 1)) pl ss os pr e0 e1)) (by omega) (srcs ss[i]).length 0 k (by omega) (by omega) (by omega)
  rw [show ((0 : Nat) : Int) = 0 from rfl, y152] at h
  rw [h, q22 i (by omega), ih (i + 1) j (by omega) (by omega) (by omega)]
  show (bif inSt n ss[i] then _ else _) = _
  cases inSt n ss[i] <;> rfl
theorem q672 {R : Type} (k : Nat) (l : List Int) (x : Int) (e0 : Bool -> Option R) (e1 : Unit -> Option R) (hlen : l.length <= 1000) : ∀ (m i j : Nat), l.length - i = m -> i <= l.length -> m < j ->
  F27.loop0 k j l x i e0 e1 = bif (l.drop i).contains x then e0 true else e1 () := by
 intro m
 induction m with
 | zero =>
  intro i j hm hi hj
  obtain ⟨j, rfl⟩ : ∃ j', j = j' + 1 := ⟨j - 1, by omega⟩
  rw [F27.loop0_s, y0 (by omega), y137, show i = l.length by omega, y157]; rfl
 | succ m ih =>
  intro i j hm hi hj
  obtain ⟨j, rfl⟩ : ∃ j', j = j' + 1 := ⟨j - 1, by omega⟩
  have hlt : i < l.length := by omega
  rw [F27.loop0_s, y135 (by omega), y136, if_pos (by omega), y139, y140 hlt, y138, y147 hlt, List.contains_cons, q22 i (by omega), ih (i + 1) j (by omega) (by omega) (by omega), BEq.comm (a := l[i]) (b := x)]
  cases x == l[i] <;> rfl
theorem q740 {k : Nat} {l : List Int} (x : Int) (hlen : l.length <= 1000) (hk : 1001 <= k) : F27 k l x = some ((l.contains x, ()), ()) := by
 unfold F27
 have h := q672 k l x (fun (z2 : Bool) => (some ((z2, ()), ()))) (fun (_ : Unit) => (some ((false, ()), ()))) hlen l.length 0 k (by omega) (by omega) (by omega)
 rw [show ((0 : Nat) : Int) = 0 from rfl, y152] at h
 rw [h]
 cases l.contains x <;> rfl
theorem q684 {R : Type} (k : Nat) (pl : List Pln) (ss : List Stg) (os : List Int) (pr : Int) (out l : List Int) (e0 : Bool -> List Pln -> List Stg -> List Int -> Int -> List Int -> Option R) (hol : out.length <= 1000) (hlen : l.length <= 1000) (hk : 1001 <= k) : ∀ (m i j : Nat) (b : Bool), l.length - i = m -> i <= l.length -> m < j ->
  F28.loop2 k j b i pl ss os pr out l e0 = e0 (b && (l.drop i).all (has pl.length out)) pl ss os pr out := by
 intro m
 induction m with
 | zero =>
  intro i j b hm hi hj
  obtain ⟨j, rfl⟩ : ∃ j', j = j' + 1 := ⟨j - 1, by omega⟩
  rw [F28.loop2_s, y0 (by omega), y137, show i = l.length by omega, y157, List.all_nil, Bool.and_true]
 | succ m ih =>
  intro i j b hm hi hj
  obtain ⟨j, rfl⟩ : ∃ j', j = j' + 1 := ⟨j - 1, by omega⟩
  have hlt : i < l.length := by omega
  rw [F28.loop2_s, y135 (by omega), y136, q22 i (by omega), y147 hlt, List.all_cons]
  cases b with
  | false => rw [y137, ih (i + 1) j false (by omega) (by omega) (by omega)]; rfl
  | true =>
   rw [y136, if_pos (by omega), y139, y140 hlt, y138]
   unfold has
   by_cases h1 : l[i] < (pl.length : Int)
   ·rw [y135 h1, y136, ih (i + 1) j true (by omega) (by omega) (by omega)]; rfl
   ·rw [y0 h1, y137, if_pos (by omega), y138, q740 _ hol hk]
    simp only [y138]
    rw [ih (i + 1) j _ (by omega) (by omega) (by omega)]; rfl
theorem q621 {R : Type} (k j : Nat) (x i : Int) (pl : List Pln) (ss : List Stg) (os : List Int) (pr : Int) (out : List Int) (e0 : Int -> List Pln -> List Stg -> List Int -> Int -> List Int -> Option R) (hx : 0 <= x) (hj : 0 < j) :
  F28.loop1 k j x i pl ss os pr out e0 = e0 x pl ss os pr out := by
 obtain ⟨j, rfl⟩ : ∃ j', j = j' + 1 := ⟨j - 1, by omega⟩
 rw [F28.loop1_s, y0 (p := x < 0) (by omega), y137]
 cases decide (i < (ss.length : Int)) <;> rfl
theorem q638 {R : Type} (k : Nat) (pl : List Pln) (ss : List Stg) (os : List Int) (pr : Int) (out : List Int) (e0 : Int -> List Pln -> List Stg -> List Int -> Int -> List Int -> Option R) (hol : out.length <= 1000) (hlen : pl.length + ss.length <= 1000) (hk : 1001 <= k) : ∀ (m i j : Nat), ss.length - i = m -> i <= ss.length -> m < j ->
  F28.loop1 k j (-1) i pl ss os pr out e0 = e0 (pkI pl.length (pk pl.length out (ss.drop i) i)) pl ss os pr out := by
 intro m
 induction m with
 | zero =>
  intro i j hm hi hj
  obtain ⟨j, rfl⟩ : ∃ j', j = j' + 1 := ⟨j - 1, by omega⟩
  rw [F28.loop1_s, y0 (by omega), y137, show i = ss.length by omega, y157]; rfl
 | succ m ih =>
  intro i j hm hi hj
  obtain ⟨j, rfl⟩ : ∃ j', j = j' + 1 := ⟨j - 1, by omega⟩
  have hlt : i < ss.length := by omega
  have hsl := q115 ss[i]
  rw [F28.loop1_s, y135 (by omega), y136, y135 (by omega), y136, <- Int.natCast_add, q86 (pl.length + i) (by omega), q740 _ hol hk]
  simp only [y138]
  rw [if_pos (by omega), y139, y140 hlt, y138, q143]
  simp only [y138]
  have h := q684 k pl ss os pr out (srcs ss[i]) (fun (z5 : Bool) (z6 : List Pln) (z7 : List Stg) (z8 : List Int) (z9 : Int) (z10 : List Int) => (bif z5 then (F28.loop1 k j ((pl.length + i : Nat) : Int) (w64 ((i : Int) + 1)) z6 z7 z8 z9 z10 e0) else (F28.loop1 k j (-1) (w64 ((i : Int) + 1)) z6 z7 z8 z9 z10 e0))) hol (by omega) hk (srcs ss[i]).length 0 k (!out.contains ((pl.length + i : Nat) : Int)) (by omega) (by omega) (by omega)
  rw [show ((0 : Nat) : Int) = 0 from rfl, y152] at h
  rw [h, y147 hlt, q22 i (by omega)]
  show (bif !out.contains ((pl.length + i : Nat) : Int) && rdy pl.length out ss[i] then _ else _) = e0 (pkI pl.length (bif !out.contains ((pl.length + i : Nat) : Int) && rdy pl.length out ss[i] then some i else pk pl.length out (ss.drop (i + 1)) (i + 1))) _ _ _ _ _
  cases (!out.contains ((pl.length + i : Nat) : Int) && rdy pl.length out ss[i]) with
  | true => rw [y136, y136, q621 _ _ _ _ _ _ _ _ _ _ (by omega) (by omega)]; rfl
  | false => exact ih (i + 1) j (by omega) (by omega) (by omega)
theorem q531 {R : Type} (k : Nat) (pl : List Pln) (ss : List Stg) (os : List Int) (pr : Int) (e0 : Int -> List Int -> Option R) (e1 : List Int -> Option R) (hlen : pl.length + ss.length <= 1000) (hk : 1001 <= k) : ∀ (f j : Nat) (out : List Int), out.length + f = ss.length -> f < j ->
  F28.loop0 k j pl ss os pr out e0 e1 = match go pl.length ss f out with | some l => e1 l | none => e0 7 [] := by
 intro f
 induction f with
 | zero =>
  intro j out hm hj
  obtain ⟨j, rfl⟩ : ∃ j', j = j' + 1 := ⟨j - 1, by omega⟩
  rw [F28.loop0_s, y0 (by omega), y137]
  rfl
 | succ f ih =>
  intro j out hm hj
  obtain ⟨j, rfl⟩ : ∃ j', j = j' + 1 := ⟨j - 1, by omega⟩
  rw [F28.loop0_s, y135 (by omega), y136]
  have hp := q638 k pl ss os pr out (fun (z2 : Int) (z3 : List Pln) (z4 : List Stg) (z5 : List Int) (z6 : Int) (z7 : List Int) => (bif decide (z2 < 0) then (e0 7 ([] : List Int)) else (if (z7 ++ [z2]).length * 8 <= 140737488355328 then F28.loop0 k j z3 z4 z5 z6 (z7 ++ [z2]) e0 e1 else none))) (by omega) hlen hk ss.length 0 k (by omega) (by omega) (by omega)
  rw [show ((0 : Nat) : Int) = 0 from rfl, y152] at hp
  rw [hp]
  show _ = match (match pk pl.length out ss 0 with | some q => go pl.length ss f (out ++ [((pl.length + q : Nat) : Int)]) | none => none) with | some l => e1 l | none => e0 7 []
  cases hq : pk pl.length out ss 0 with
  | none => rfl
  | some q =>
   have hql := pk_lt hq
   rw [show pkI pl.length (some q) = ((pl.length + q : Nat) : Int) from rfl]
   rw [y0 (p := ((pl.length + q : Nat) : Int) < 0) (by omega), y137, if_pos (by rw [y148, y159]; omega)]
   exact ih j _ (by rw [y148, y159]; omega) (by omega)
theorem q527 {k : Nat} (pl : List Pln) (ss : List Stg) (os : List Int) (pr : Int) (hp : pl.length <= 100) (hs : ss.length <= 100) (ho : os.length <= 100) (hk : 1001 <= k) :
  F28 k (pl, ss, os, pr) = some (((ordr pl ss os pr).1, (ordr pl ss os pr).2, ()), ()) := by
 have e3 : w64 ((pl.length : Int) + (ss.length : Int)) = ((pl.length + ss.length : Nat) : Int) := by rw [<- Int.natCast_add]; exact q86 _ (by omega)
 unfold F28 F26 ordr
 rw [e3]
 cases ((pl.length : Int) == 0) with
 | true => rfl
 | false =>
 cases ((ss.length : Int) == 0) with
 | true => rfl
 | false =>
 simp only [y137]
 cases h3 : decide (((pl.length + ss.length : Nat) : Int) > 16) with
 | true => rfl
 | false =>
 cases ((os.length : Int) == 0) with
 | true => rfl
 | false =>
 cases decide ((os.length : Int) > 16) with
 | true => rfl
 | false =>
 cases decide (pr < 0) with
 | true => rfl
 | false =>
 cases decide (pr >= 4) with
 | true => rfl
 | false =>
 simp only [y137]
 have l0 := q670 (R := (Int × Unit) × Unit) k ((pl.length + ss.length : Nat) : Int) pl ss os pr (fun (z4 : Int) => (some ((z4, ()), ()))) (fun (z5 : List Pln) (z6 : List Stg) (z7 : List Int) (z8 : Int) => (F26.loop2 k k ((pl.length + ss.length : Nat) : Int) 0 z5 z6 z7 z8 (fun (z11 : Int) => (some ((z11, ()), ()))) (fun (_ : Unit) => (some ((0, ()), ()))))) (by omega) hk ss.length 0 k (by omega) (by omega) (by omega)
 rw [show ((0 : Nat) : Int) = 0 from rfl, y152] at l0
 rw [l0]
 cases hg : ss.all (inSt ((pl.length + ss.length : Nat) : Int)) with
 | false => rfl
 | true =>
 simp only [y136, y145, y137]
 have l2 := q707 (R := (Int × Unit) × Unit) k ((pl.length + ss.length : Nat) : Int) pl ss os pr (fun (z11 : Int) => (some ((z11, ()), ()))) (fun (_ : Unit) => (some ((0, ()), ()))) (by omega) os.length 0 k (by omega) (by omega) (by omega)
 rw [show ((0 : Nat) : Int) = 0 from rfl, y152] at l2
 rw [l2]
 cases os.all (inNd ((pl.length + ss.length : Nat) : Int)) with
 | false => rfl
 | true =>
 simp only [y136, y145, y137, y138]
 rw [show ((0 : Int) != 0) = false from rfl, y137]
 have l4 := q531 (R := (List Int × Int × Unit) × Unit) k pl ss os pr (fun (z19 : Int) (z20 : List Int) => (some ((z20, z19, ()), ()))) (fun (z21 : List Int) => (some ((z21, 0, ()), ()))) (by omega) hk ss.length k [] (by simp) (by omega)
 rw [l4]
 unfold ans
 cases go pl.length ss ss.length [] <;> rfl
end Go.Lf.T

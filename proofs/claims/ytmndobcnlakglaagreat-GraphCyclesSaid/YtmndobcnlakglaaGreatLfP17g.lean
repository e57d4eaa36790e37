import Derived.Test.YtmndobcnlakglaaGreatLfP17f
set_option linter.unusedVariables false
set_option maxRecDepth 100000
namespace Go.Lf.T
open Go Go.Lf
def shOf (p : Pln) : Sh := (p.1, p.2.1, p.2.2.1)
def shin : List Pln -> Nat -> Option Nat
 | [], _ => none
 | p :: l, i => bif decide (q107 p) then shin l (i + 1) else some i
def bOf (s : Stg) (out : List Sh) : Sh := bif twoB s then out.getD s.2.2.1.toNat (0, 0, 0) else (0, 0, 0)
def shst (ss : List Stg) (p : Nat) : List Int -> List Sh -> List Sh × Int × Int
 | [], out => (out, 0, 0)
 | x :: o, out => match ss[(x - p).toNat]? with
  | none => ([], 0, 0)
  | some s => bif (q71 s (out.getD s.2.1.toNat (0, 0, 0)) (bOf s out)).2 != 0 then ([], x, (q71 s (out.getD s.2.1.toNat (0, 0, 0)) (bOf s out)).2)
   else shst ss p o (out.set x.toNat (q71 s (out.getD s.2.1.toNat (0, 0, 0)) (bOf s out)).1)
def shps (pl : List Pln) (ss : List Stg) (os : List Int) (pr : Int) : List Sh × Int × Int :=
 bif (ordr pl ss os pr).2 != 0 then ([], 0, (ordr pl ss os pr).2) else match shin pl 0 with
  | some i => ([], i, 1)
  | none => shst ss pl.length (ordr pl ss os pr).1 (pl.map shOf ++ List.replicate ss.length (0, 0, 0))
theorem of_one {s : Stg} (h : twoB s = false) (a b b' : Sh) : q71 s a b = q71 s a b' := by
 have hk : q59 s a b = q59 s a b' := by
  unfold q59 pcode q451
  rw [h]
  simp only [Bool.false_eq_true, if_false, false_and]
 unfold q71
 rw [h, hk]
 simp only [Bool.false_eq_true, false_and]
theorem q213 (s : Stg) : srcs s = bif twoB s then [s.2.1, s.2.2.1] else [s.2.1] := rfl
def shB (pl : List Pln) (n i : Nat) : List Sh := (pl.take i).map shOf ++ List.replicate (pl.length + n - i) (0, 0, 0)
theorem q301 {pl : List Pln} {n i : Nat} (h : i <= pl.length) : (shB pl n i).length = pl.length + n := by
 unfold shB
 rw [y148, List.length_map, y154, List.length_replicate]; omega
theorem q718 {pl : List Pln} {n i : Nat} (h : i < pl.length) : (shB pl n i).set i (shOf pl[i]) = shB pl n (i + 1) := by
 unfold shB
 have h1 : ((pl.take i).map shOf).length = i := by rw [List.length_map, y154]; omega
 rw [List.set_append_right _ _ (by omega), h1, Nat.sub_self]
 obtain ⟨q, hq⟩ : ∃ q, pl.length + n - i = q + 1 := ⟨pl.length + n - i - 1, by omega⟩
 rw [hq, show pl.length + n - (i + 1) = q by omega, List.replicate_succ, List.set_cons_zero, <- List.take_append_getElem h, List.map_append, List.append_assoc]
 rfl
theorem q692 {R : Type} (k : Nat) (pl : List Pln) (n : Nat) (e0 : Int -> Int -> List Sh -> Option R) (e1 : List Sh -> Option R) (hp : pl.length + n <= 1000) (hk : 4097 <= k) : ∀ (m i j : Nat), pl.length - i = m -> i <= pl.length -> m < j ->
  F70.loop0 k j pl pl.length i (shB pl n i) e0 e1 = match shin (pl.drop i) i with | some q => e0 q 1 [] | none => e1 (shB pl n pl.length) := by
 intro m
 induction m with
 | zero =>
  intro i j hm hi hj
  obtain ⟨j, rfl⟩ : ∃ j', j = j' + 1 := ⟨j - 1, by omega⟩
  rw [F70.loop0_s, y0 (by omega), y137, show i = pl.length by omega, y157]; rfl
 | succ m ih =>
  intro i j hm hi hj
  obtain ⟨j, rfl⟩ : ∃ j', j = j' + 1 := ⟨j - 1, by omega⟩
  have hlt : i < pl.length := by omega
  rw [F70.loop0_s, y135 (by omega), y136, if_pos (by omega), y139, y140 hlt, y138, plane_ok k hk, y147 hlt]
  simp only [y138]
  show _ = match (bif decide (q107 pl[i]) then shin (pl.drop (i + 1)) (i + 1) else some i) with | some q => e0 q 1 [] | none => e1 (shB pl n pl.length)
  cases decide (q107 pl[i]) with
  | false => rfl
  | true =>
   simp only [y145, y137, y136]
   rw [if_pos (by rw [q301 hi]; omega), y140 (by rw [q301 hi]; omega), y138]
   show F70.loop0 k j pl pl.length (w64 ((i : Int) + 1)) ((shB pl n i).set i (shOf pl[i])) e0 e1 = _
   rw [q718 hlt, q22 i (by omega)]
   exact ih (i + 1) j (by omega) (by omega) (by omega)
theorem q626 {R : Type} (k : Nat) (pl : List Pln) (ss : List Stg) (os : List Int) (pr : Int) (n : Nat) (e0 : Int -> Int -> List Sh -> Option R) (e1 : List Pln -> List Stg -> List Int -> Int -> List Sh -> Option R) (hp : pl.length + n <= 1000) (hk : 4097 <= k) : ∀ (m i j : Nat), pl.length - i = m -> i <= pl.length -> m < j ->
  F108.loop0 k j i pl ss os pr (shB pl n i) e0 e1 = match shin (pl.drop i) i with | some q => e0 q 1 [] | none => e1 pl ss os pr (shB pl n pl.length) := by
 intro m
 induction m with
 | zero =>
  intro i j hm hi hj
  obtain ⟨j, rfl⟩ : ∃ j', j = j' + 1 := ⟨j - 1, by omega⟩
  rw [F108.loop0_s, y0 (by omega), y137, show i = pl.length by omega, y157]; rfl
 | succ m ih =>
  intro i j hm hi hj
  obtain ⟨j, rfl⟩ : ∃ j', j = j' + 1 := ⟨j - 1, by omega⟩
  have hlt : i < pl.length := by omega
  rw [F108.loop0_s, y135 (by omega), y136, if_pos (by omega), y139, y140 hlt, y138, q701 k hk, y147 hlt]
  simp only [y138]
  show _ = match (bif decide (q107 pl[i]) then shin (pl.drop (i + 1)) (i + 1) else some i) with | some q => e0 q 1 [] | none => e1 pl ss os pr (shB pl n pl.length)
  cases decide (q107 pl[i]) with
  | false => rfl
  | true =>
   simp only [y145, y137, y136]
   unfold F73
   rw [if_pos (by omega)]
   simp only [y138]
   rw [if_pos (by rw [q301 hi]; omega), y140 (by rw [q301 hi]; omega), y138]
   show F108.loop0 k j (w64 ((i : Int) + 1)) pl ss os pr ((shB pl n i).set i (shOf pl[i])) e0 e1 = _
   rw [q718 hlt, q22 i (by omega)]
   exact ih (i + 1) j (by omega) (by omega) (by omega)
theorem q680 {R : Type} (k : Nat) (pl : List Pln) (ss : List Stg) (os : List Int) (pr : Int) (o : List Int) (e0 : Int -> Int -> List Sh -> Option R) (e1 : List Sh -> Option R) (hg : Good (pl.length + ss.length) ss) (ho : ∀ x ∈ o, (pl.length : Int) <= x /\ x < ((pl.length + ss.length : Nat) : Int)) (hol : o.length <= 1000) (hp : pl.length + ss.length <= 1000) (hk : 4097 <= k) : ∀ (m i j : Nat) (out : List Sh), o.length - i = m -> i <= o.length -> m < j -> out.length = pl.length + ss.length ->
  F70.loop1 k j o.length i pl ss os pr out o e0 e1 = bif (shst ss pl.length (o.drop i) out).2.2 != 0 then e0 (shst ss pl.length (o.drop i) out).2.1 (shst ss pl.length (o.drop i) out).2.2 [] else e1 (shst ss pl.length (o.drop i) out).1 := by
 intro m
 induction m with
 | zero =>
  intro i j out hm hi hj hout
  obtain ⟨j, rfl⟩ : ∃ j', j = j' + 1 := ⟨j - 1, by omega⟩
  rw [F70.loop1_s, y0 (by omega), y137, show i = o.length by omega, y157]; rfl
 | succ m ih =>
  intro i j out hm hi hj hout
  obtain ⟨j, rfl⟩ : ∃ j', j = j' + 1 := ⟨j - 1, by omega⟩
  have hlt : i < o.length := by omega
  obtain ⟨b1, b2⟩ := ho _ (y160 hlt)
  obtain ⟨q, hq⟩ : ∃ q : Nat, o[i] = ((pl.length + q : Nat) : Int) := ⟨(o[i] - pl.length).toNat, by omega⟩
  have hql : q < ss.length := by omega
  have hss := hg _ (y160 hql)
  have hA : 0 <= ss[q].2.1 /\ ss[q].2.1 < ((pl.length + ss.length : Nat) : Int) := hss _ (by rw [q213]; cases twoB ss[q] <;> simp)
  rw [F70.loop1_s, y135 (by omega), y136, if_pos (by omega), y139, y140 hlt, y138, hq, show w64 (((pl.length + q : Nat) : Int) - (pl.length : Int)) = (q : Int) by rw [q28 (by omega) (by omega)]; omega, if_pos (by omega), y139, y140 hql, y138, q136, y147 hlt, hq]
  simp only [y138]
  have hge : out[ss[q].2.1.toNat]? = some (out.getD ss[q].2.1.toNat (0, 0, 0)) := by rw [y164, y140 (by omega)]; rfl
  have step : ∀ (b : Sh), q71 ss[q] (out.getD ss[q].2.1.toNat (0, 0, 0)) b = q71 ss[q] (out.getD ss[q].2.1.toNat (0, 0, 0)) (bOf ss[q] out) ->
    ((F69 k ss[q] (out.getD ss[q].2.1.toNat (0, 0, 0)) b).bind fun (y16 : (Sh × Int × Unit) × (Unit)) => if 0 <= ((pl.length + q : Nat) : Int) /\ ((pl.length + q : Nat) : Int) < ((out.length : Nat) : Int) then (out[((pl.length + q : Nat) : Int).toNat]?).bind fun (x17 : Sh) => bif y16.1.2.1 != 0 then (e0 ((pl.length + q : Nat) : Int) y16.1.2.1 ([] : List Sh)) else (F70.loop1 k j o.length (w64 ((i : Int) + 1)) pl ss os pr (out.set ((pl.length + q : Nat) : Int).toNat y16.1.1) o e0 e1) else none) =
    bif (shst ss pl.length (((pl.length + q : Nat) : Int) :: o.drop (i + 1)) out).2.2 != 0 then e0 (shst ss pl.length (((pl.length + q : Nat) : Int) :: o.drop (i + 1)) out).2.1 (shst ss pl.length (((pl.length + q : Nat) : Int) :: o.drop (i + 1)) out).2.2 [] else e1 (shst ss pl.length (((pl.length + q : Nat) : Int) :: o.drop (i + 1)) out).1 := by
   intro b hb
   rw [of_ok k (by omega), hb]
   simp only [y138]
   rw [if_pos (by omega), y139, y140 (by omega), y138]
   have hsh : shst ss pl.length (((pl.length + q : Nat) : Int) :: o.drop (i + 1)) out = bif (q71 ss[q] (out.getD ss[q].2.1.toNat (0, 0, 0)) (bOf ss[q] out)).2 != 0 then ([], ((pl.length + q : Nat) : Int), (q71 ss[q] (out.getD ss[q].2.1.toNat (0, 0, 0)) (bOf ss[q] out)).2)
     else shst ss pl.length (o.drop (i + 1)) (out.set (pl.length + q) (q71 ss[q] (out.getD ss[q].2.1.toNat (0, 0, 0)) (bOf ss[q] out)).1) := by
    show (match ss[(((pl.length + q : Nat) : Int) - (pl.length : Int)).toNat]? with | none => _ | some s => _) = _
    rw [show (((pl.length + q : Nat) : Int) - (pl.length : Int)).toNat = q by omega, y140 hql]
    rfl
   rw [hsh]
   cases hc : (q71 ss[q] (out.getD ss[q].2.1.toNat (0, 0, 0)) (bOf ss[q] out)).2 != 0 with
   | true => simp only [y136, hc]
   | false =>
    simp only [y137]
    rw [q22 i (by omega)]
    exact ih (i + 1) j _ (by omega) (by omega) (by omega) (by rw [List.length_set]; exact hout)
  cases ht : twoB ss[q] with
  | true =>
   have hB : 0 <= ss[q].2.2.1 /\ ss[q].2.2.1 < ((pl.length + ss.length : Nat) : Int) := hss _ (by rw [q213, ht]; simp)
   have hgb : out[ss[q].2.2.1.toNat]? = some (out.getD ss[q].2.2.1.toNat (0, 0, 0)) := by rw [y164, y140 (by omega)]; rfl
   rw [q213, ht]
   simp only [y136, y167, List.length_nil]
   rw [if_pos (by omega), show ([ss[q].2.1, ss[q].2.2.1][0]?) = some ss[q].2.1 from rfl, y138, if_pos (by omega), hge, y138, show w64 (((0 + 1 + 1 : Nat) : Int) - 1) = 1 from rfl, if_pos (by omega), show ([ss[q].2.1, ss[q].2.2.1][(1 : Int).toNat]?) = some ss[q].2.2.1 from rfl, y138, if_pos (by omega), hgb, y138]
   exact step _ (by unfold bOf; rw [ht]; rfl)
  | false =>
   rw [q213, ht]
   simp only [y137, y167, List.length_nil]
   rw [if_pos (by omega), show ([ss[q].2.1][0]?) = some ss[q].2.1 from rfl, y138, if_pos (by omega), hge, y138, show w64 (((0 + 1 : Nat) : Int) - 1) = 0 from rfl, if_pos (by omega), show ([ss[q].2.1][(0 : Int).toNat]?) = some ss[q].2.1 from rfl, y138, if_pos (by omega), hge, y138]
   exact step _ (of_one ht _ _ _)
theorem q615 {R : Type} (k : Nat) (pl : List Pln) (ss : List Stg) (os : List Int) (pr : Int) (o : List Int) (e0 : Int -> Int -> List Sh -> Option R) (e1 : List Sh -> Option R) (hg : Good (pl.length + ss.length) ss) (ho : ∀ x ∈ o, (pl.length : Int) <= x /\ x < ((pl.length + ss.length : Nat) : Int)) (hol : o.length <= 1000) (hp : pl.length + ss.length <= 1000) (hk : 4097 <= k) : ∀ (m i j : Nat) (out : List Sh), o.length - i = m -> i <= o.length -> m < j -> out.length = pl.length + ss.length ->
  F108.loop1 k j i pl ss os pr o out e0 e1 = bif (shst ss pl.length (o.drop i) out).2.2 != 0 then e0 (shst ss pl.length (o.drop i) out).2.1 (shst ss pl.length (o.drop i) out).2.2 [] else e1 (shst ss pl.length (o.drop i) out).1 := by
 intro m
 induction m with
 | zero =>
  intro i j out hm hi hj hout
  obtain ⟨j, rfl⟩ : ∃ j', j = j' + 1 := ⟨j - 1, by omega⟩
  rw [F108.loop1_s, y0 (by omega), y137, show i = o.length by omega, y157]; rfl
 | succ m ih =>
  intro i j out hm hi hj hout
  obtain ⟨j, rfl⟩ : ∃ j', j = j' + 1 := ⟨j - 1, by omega⟩
  have hlt : i < o.length := by omega
  obtain ⟨b1, b2⟩ := ho _ (y160 hlt)
  obtain ⟨q, hq⟩ : ∃ q : Nat, o[i] = ((pl.length + q : Nat) : Int) := ⟨(o[i] - pl.length).toNat, by omega⟩
  have hql : q < ss.length := by omega
  have hss := hg _ (y160 hql)
  have hA : 0 <= ss[q].2.1 /\ ss[q].2.1 < ((pl.length + ss.length : Nat) : Int) := hss _ (by rw [q213]; cases twoB ss[q] <;> simp)
  have hoi : o[i]? = some ((pl.length + q : Nat) : Int) := by rw [y140 hlt, hq]
  rw [F108.loop1_s, y135 (by omega), y136, if_pos (by omega), y139, hoi, y138, show w64 (((pl.length + q : Nat) : Int) - (pl.length : Int)) = (q : Int) by rw [q28 (by omega) (by omega)]; omega, if_pos (by omega), y139, y140 hql, y138, q519, y147 hlt, hq]
  simp only [y138]
  have hge : out[ss[q].2.1.toNat]? = some (out.getD ss[q].2.1.toNat (0, 0, 0)) := by rw [y164, y140 (by omega)]; rfl
  have step : ∀ (b : Sh), b = bOf ss[q] out ->
    ((F107 k ss[q] (out.getD ss[q].2.1.toNat (0, 0, 0)) b).bind fun (y20 : (Sh × Int × Unit) × (Unit)) => bif y20.1.2.1 != 0 then (if 0 <= (i : Int) /\ (i : Int) < ((o.length : Nat) : Int) then (some ((pl.length + q : Nat) : Int)).bind fun (x21 : Int) => e0 x21 y20.1.2.1 ([] : List Sh) else none) else (if 0 <= (i : Int) /\ (i : Int) < ((o.length : Nat) : Int) then (some ((pl.length + q : Nat) : Int)).bind fun (x22 : Int) => if 0 <= x22 /\ x22 < ((out.length : Nat) : Int) then (out[x22.toNat]?).bind fun (x23 : Sh) => F108.loop1 k j (w64 ((i : Int) + 1)) pl ss os pr o (out.set x22.toNat y20.1.1) e0 e1 else none else none)) =
    bif (shst ss pl.length (((pl.length + q : Nat) : Int) :: o.drop (i + 1)) out).2.2 != 0 then e0 (shst ss pl.length (((pl.length + q : Nat) : Int) :: o.drop (i + 1)) out).2.1 (shst ss pl.length (((pl.length + q : Nat) : Int) :: o.drop (i + 1)) out).2.2 [] else e1 (shst ss pl.length (((pl.length + q : Nat) : Int) :: o.drop (i + 1)) out).1 := by
   intro b hb
   rw [rof_ok k (by omega), hb]
   simp only [y138]
   have hsh : shst ss pl.length (((pl.length + q : Nat) : Int) :: o.drop (i + 1)) out = bif (q71 ss[q] (out.getD ss[q].2.1.toNat (0, 0, 0)) (bOf ss[q] out)).2 != 0 then ([], ((pl.length + q : Nat) : Int), (q71 ss[q] (out.getD ss[q].2.1.toNat (0, 0, 0)) (bOf ss[q] out)).2)
     else shst ss pl.length (o.drop (i + 1)) (out.set (pl.length + q) (q71 ss[q] (out.getD ss[q].2.1.toNat (0, 0, 0)) (bOf ss[q] out)).1) := by
    show (match ss[(((pl.length + q : Nat) : Int) - (pl.length : Int)).toNat]? with | none => _ | some s => _) = _
    rw [show (((pl.length + q : Nat) : Int) - (pl.length : Int)).toNat = q by omega, y140 hql]
    rfl
   rw [hsh, if_pos (by omega), if_pos (by omega)]
   cases hc : (q71 ss[q] (out.getD ss[q].2.1.toNat (0, 0, 0)) (bOf ss[q] out)).2 != 0 with
   | true => simp only [y136, hc]
   | false =>
    simp only [y137]
    rw [if_pos (by omega), y139, y140 (by omega), y138, q22 i (by omega)]
    exact ih (i + 1) j _ (by omega) (by omega) (by omega) (by rw [List.length_set]; exact hout)
  cases ht : twoB ss[q] with
  | true =>
   have hB : 0 <= ss[q].2.2.1 /\ ss[q].2.2.1 < ((pl.length + ss.length : Nat) : Int) := hss _ (by rw [q213, ht]; simp)
   have hgb : out[ss[q].2.2.1.toNat]? = some (out.getD ss[q].2.2.1.toNat (0, 0, 0)) := by rw [y164, y140 (by omega)]; rfl
   rw [y136, if_pos (by omega), hgb, y138, if_pos (by omega), hge, y138]
   exact step _ (by unfold bOf; rw [ht]; rfl)
  | false =>
   rw [y137, if_pos (by omega), hge, y138]
   exact step _ (by unfold bOf; rw [ht]; rfl)
theorem go_rg {p : Nat} {ss : List Stg} : ∀ (f : Nat) (out l : List Int), (∀ x ∈ out, (p : Int) <= x /\ x < ((p + ss.length : Nat) : Int)) -> go p ss f out = some l -> (∀ x ∈ l, (p : Int) <= x /\ x < ((p + ss.length : Nat) : Int)) /\ l.length = out.length + f
 | 0, out, l, hi, h => by injection h with h; subst h; exact ⟨hi, rfl⟩
 | f + 1, out, l, hi, h => by
  have h' : (match pk p out ss 0 with | some q => go p ss f (out ++ [((p + q : Nat) : Int)]) | none => none) = some l := h
  cases hq : pk p out ss 0 with
  | none => rw [hq] at h'; cases h'
  | some q =>
   rw [hq] at h'
   have hql := pk_lt hq
   obtain ⟨h1, h2⟩ := go_rg f _ l (fun x hx => by
    rcases y151.1 hx with hx | hx
    ·exact hi x hx
    ·rw [y161.1 hx]; omega) h'
   exact ⟨h1, by rw [h2, y148, y159]; omega⟩
theorem q542 {pl : List Pln} {ss : List Stg} {os : List Int} {pr : Int} (h : (ordr pl ss os pr).2 = 0) : Good (pl.length + ss.length) ss /\ (∀ x ∈ (ordr pl ss os pr).1, (pl.length : Int) <= x /\ x < ((pl.length + ss.length : Nat) : Int)) /\ (ordr pl ss os pr).1.length = ss.length /\ go pl.length ss ss.length [] = some (ordr pl ss os pr).1 := by
 unfold ordr at h ⊢
 cases h1 : ((pl.length : Int) == 0) with
 | true => rw [h1] at h; cases h
 | false =>
 cases h2 : ((ss.length : Int) == 0) with
 | true => rw [h1, h2] at h; cases h
 | false =>
 cases h3 : decide (((pl.length + ss.length : Nat) : Int) > 16) with
 | true => rw [h1, h2, h3] at h; cases h
 | false =>
 cases h4 : ((os.length : Int) == 0) with
 | true => rw [h1, h2, h3, h4] at h; cases h
 | false =>
 cases h5 : decide ((os.length : Int) > 16) with
 | true => rw [h1, h2, h3, h4, h5] at h; cases h
 | false =>
 cases h6 : decide (pr < 0) with
 | true => rw [h1, h2, h3, h4, h5, h6] at h; cases h
 | false =>
 cases h7 : decide (pr >= 4) with
 | true => rw [h1, h2, h3, h4, h5, h6, h7] at h; cases h
 | false =>
 cases h8 : ss.all (inSt ((pl.length + ss.length : Nat) : Int)) with
 | false => rw [h1, h2, h3, h4, h5, h6, h7, h8] at h; cases h
 | true =>
 cases h9 : os.all (inNd ((pl.length + ss.length : Nat) : Int)) with
 | false => rw [h1, h2, h3, h4, h5, h6, h7, h8, h9] at h; cases h
 | true =>
 rw [h1, h2, h3, h4, h5, h6, h7, h8, h9] at h
 simp only [y137, y145] at h ⊢
 cases hgo : go pl.length ss ss.length [] with
 | none => rw [hgo] at h; cases h
 | some l =>
  obtain ⟨g1, g2⟩ := go_rg _ _ _ (fun x hx => by cases hx) hgo
  exact ⟨goodG h8, g1, by show l.length = ss.length; simpa using g2, rfl⟩
theorem q269 (pl : List Pln) (n : Nat) : List.replicate (pl.length + n) ((0, 0, 0) : Sh) = shB pl n 0 := by
 unfold shB
 rw [List.take_zero, List.map_nil, List.nil_append, Nat.sub_zero]
theorem q334 (pl : List Pln) (n : Nat) : shB pl n pl.length = pl.map shOf ++ List.replicate n (0, 0, 0) := by
 unfold shB
 rw [List.take_length, y163]
theorem q445 {ss : List Stg} {p : Nat} : ∀ (o : List Int) (out : List Sh), ((shst ss p o out).2.2 ≠ 0 -> (shst ss p o out).1 = []) /\ ((shst ss p o out).2.2 = 0 -> (shst ss p o out).2.1 = 0)
 | [], out => ⟨fun h => absurd rfl h, fun _ => rfl⟩
 | x :: o, out => by
  unfold shst
  split
  ·exact ⟨fun h => absurd rfl h, fun _ => rfl⟩
  ·rename_i s hs
   cases hc : (q71 s (out.getD s.2.1.toNat (0, 0, 0)) (bOf s out)).2 != 0 with
   | true => exact ⟨fun _ => rfl, fun h => by simp only [y136] at h; rw [h] at hc; cases hc⟩
   | false => exact q445 o _
theorem shapesG {k : Nat} (pl : List Pln) (ss : List Stg) (os : List Int) (pr : Int) (hp : pl.length <= 100) (hs : ss.length <= 100) (ho : os.length <= 100) (hk : 4097 <= k) :
  F70 k (pl, ss, os, pr) = some (((shps pl ss os pr).1, (shps pl ss os pr).2.1, (shps pl ss os pr).2.2, ()), ()) := by
 have e3 : w64 ((pl.length : Int) + (ss.length : Int)) = ((pl.length + ss.length : Nat) : Int) := by rw [<- Int.natCast_add]; exact q86 _ (by omega)
 unfold F70 shps
 rw [q461 pl ss os pr hp hs ho (by omega)]
 simp only [y138]
 cases hc : (ordr pl ss os pr).2 != 0 with
 | true => rfl
 | false =>
 obtain ⟨hg, hrg, hol, _⟩ := q542 (by simpa using hc)
 simp only [y137]
 rw [e3, if_pos (by omega), y139, q269]
 have l0 := q692 (R := (List Sh × Int × Int × Unit) × Unit) k pl ss.length (fun (z5 : Int) (z6 : Int) (z7 : List Sh) => (some ((z7, z5, z6, ()), ()))) (fun (z8 : List Sh) => (F70.loop1 k k (((ordr pl ss os pr).1.length : Nat) : Int) 0 pl ss os pr z8 (ordr pl ss os pr).1 (fun (z18 : Int) (z19 : Int) (z20 : List Sh) => (some ((z20, z18, z19, ()), ()))) (fun (z21 : List Sh) => (some ((z21, 0, 0, ()), ()))))) (by omega) hk pl.length 0 k (by omega) (by omega) (by omega)
 rw [show ((0 : Nat) : Int) = 0 from rfl, y152] at l0
 refine Eq.trans l0 ?_
 cases shin pl 0 with
 | some i => rfl
 | none =>
 simp only []
 have l1 := q680 (R := (List Sh × Int × Int × Unit) × Unit) k pl ss os pr (ordr pl ss os pr).1 (fun (z18 : Int) (z19 : Int) (z20 : List Sh) => (some ((z20, z18, z19, ()), ()))) (fun (z21 : List Sh) => (some ((z21, 0, 0, ()), ()))) hg hrg (by omega) (by omega) hk (ordr pl ss os pr).1.length 0 k (shB pl ss.length pl.length) (by omega) (by omega) (by omega) (q301 (Nat.le_refl _))
 rw [show ((0 : Nat) : Int) = 0 from rfl, y152, q334] at l1
 rw [q334, l1]
 obtain ⟨h1, h2⟩ := q445 (ss := ss) (p := pl.length) (ordr pl ss os pr).1 (pl.map shOf ++ List.replicate ss.length (0, 0, 0))
 by_cases hz : (shst ss pl.length (ordr pl ss os pr).1 (pl.map shOf ++ List.replicate ss.length (0, 0, 0))).2.2 = 0
 ·rw [h2 hz, hz]; rfl
 ·rw [q70 hz, y136, h1 hz]
theorem rshapesG {k : Nat} (pl : List Pln) (ss : List Stg) (os : List Int) (pr : Int) (hp : pl.length <= 100) (hs : ss.length <= 100) (ho : os.length <= 100) (hk : 4097 <= k) :
  F108 k (pl, ss, os, pr) = some (((shps pl ss os pr).1, (shps pl ss os pr).2.1, (shps pl ss os pr).2.2, ()), ()) := by
 have e3 : w64 ((pl.length : Int) + (ss.length : Int)) = ((pl.length + ss.length : Nat) : Int) := by rw [<- Int.natCast_add]; exact q86 _ (by omega)
 unfold F108 shps
 rw [q527 pl ss os pr hp hs ho (by omega)]
 simp only [y138]
 cases hc : (ordr pl ss os pr).2 != 0 with
 | true => rfl
 | false =>
 obtain ⟨hg, hrg, hol, _⟩ := q542 (by simpa using hc)
 simp only [y137]
 rw [e3, if_pos (by omega), y139, q269]
 have l0 := q626 (R := (List Sh × Int × Int × Unit) × Unit) k pl ss os pr ss.length (fun (z5 : Int) (z6 : Int) (z7 : List Sh) => (some ((z7, z5, z6, ()), ()))) (fun (z10 : List Pln) (z11 : List Stg) (z12 : List Int) (z13 : Int) (z14 : List Sh) => (F108.loop1 k k 0 z10 z11 z12 z13 (ordr pl ss os pr).1 z14 (fun (z29 : Int) (z30 : Int) (z31 : List Sh) => (some ((z31, z29, z30, ()), ()))) (fun (z32 : List Sh) => (some ((z32, 0, 0, ()), ()))))) (by omega) hk pl.length 0 k (by omega) (by omega) (by omega)
 rw [show ((0 : Nat) : Int) = 0 from rfl, y152] at l0
 refine Eq.trans l0 ?_
 cases shin pl 0 with
 | some i => rfl
 | none =>
 simp only []
 have l1 := q615 (R := (List Sh × Int × Int × Unit) × Unit) k pl ss os pr (ordr pl ss os pr).1 (fun (z18 : Int) (z19 : Int) (z20 : List Sh) => (some ((z20, z18, z19, ()), ()))) (fun (z21 : List Sh) => (some ((z21, 0, 0, ()), ()))) hg hrg (by omega) (by omega) hk (ordr pl ss os pr).1.length 0 k (shB pl ss.length pl.length) (by omega) (by omega) (by omega) (q301 (Nat.le_refl _))
 rw [show ((0 : Nat) : Int) = 0 from rfl, y152, q334] at l1
 rw [q334, l1]
 obtain ⟨h1, h2⟩ := q445 (ss := ss) (p := pl.length) (ordr pl ss os pr).1 (pl.map shOf ++ List.replicate ss.length (0, 0, 0))
 by_cases hz : (shst ss pl.length (ordr pl ss os pr).1 (pl.map shOf ++ List.replicate ss.length (0, 0, 0))).2.2 = 0
 ·rw [h2 hz, hz]; rfl
 ·rw [q70 hz, y136, h1 hz]
end Go.Lf.T

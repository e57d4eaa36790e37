import Derived.Test.YtmndobcnlakglaaGreatLfP17i
set_option linter.unusedVariables false
set_option maxRecDepth 100000
namespace Go.Lf.T
open Go Go.Lf
def edge (p : Nat) (ss : List Stg) (i s : Nat) : Prop := ∃ st, ss[i]? = some st /\ ((p + s : Nat) : Int) ∈ srcs st
def way' (p : Nat) (ss : List Stg) : Nat -> Nat -> Nat -> Prop
 | 0, i, j => i = j
 | m + 1, i, j => ∃ s, edge p ss i s /\ way' p ss m s j
section
variable {p : Nat} {ss : List Stg} {T : Nat}
theorem q291 (hg : Good (p + ss.length) ss) {i s : Nat} (h : edge p ss i s) : i < ss.length /\ s < ss.length := by
 obtain ⟨st, h1, h2⟩ := h
 obtain ⟨h3, h4⟩ := y149.1 h1
 have := hg st (h4 ▸ y160 h3) _ h2
 exact ⟨h3, by omega⟩
theorem q90 : ∀ {a b i j k : Nat}, way' p ss a i j -> way' p ss b j k -> way' p ss (a + b) i k
 | 0, b, i, j, k, h1, h2 => by
  have h1' : i = j := h1
  subst h1'
  rw [Nat.zero_add]; exact h2
 | a + 1, b, i, j, k, ⟨s, h1, h3⟩, h2 => by
  rw [show a + 1 + b = (a + b) + 1 by omega]
  exact ⟨s, h1, q90 h3 h2⟩
theorem hit_one {L i : Nat} (hg : Good (p + ss.length) ss) (h : hit p ss T (Dn p ss T L) L i = true) : (L = 0 /\ edge p ss i T) \/ (L ≠ 0 /\ ∃ s, edge p ss i s /\ Dn p ss T L s = L) := by
 unfold hit at h
 cases hs : ss[i]? with
 | none => rw [hs] at h; cases h
 | some st =>
  rw [hs] at h
  obtain ⟨x, hx, hx2⟩ := List.any_eq_true.1 h
  rw [y144] at hx2
  have h1 := of_decide_eq_true hx2.1
  by_cases h0 : L = 0
  ·subst h0
   have h2 : x = ((p + T : Nat) : Int) := by simpa using hx2.2
   exact .inl ⟨rfl, st, hs, by rw [<- h2]; exact hx⟩
  ·have h2 := hx2.2
   rw [y165.2 h0, y137, beq_iff_eq] at h2
   exact .inr ⟨h0, (x - p).toNat, ⟨st, hs, by rw [show ((p + (x - p).toNat : Nat) : Int) = x by omega]; exact hx⟩, h2⟩
theorem hit_of {L i : Nat} (h : (L = 0 /\ edge p ss i T) \/ (L ≠ 0 /\ ∃ s, edge p ss i s /\ Dn p ss T L s = L)) : hit p ss T (Dn p ss T L) L i = true := by
 unfold hit
 rcases h with ⟨h0, st, h1, h2⟩ | ⟨h0, s, ⟨st, h1, h2⟩, h3⟩
 ·rw [h1]
  exact List.any_eq_true.2 ⟨_, h2, by rw [h0, y135 (by omega), y170, y136, y170]; rfl⟩
 ·rw [h1]
  refine List.any_eq_true.2 ⟨_, h2, ?_⟩
  rw [y135 (by omega), y165.2 h0, y137, show (((p + s : Nat) : Int) - (p : Int)).toNat = s by omega, h3, y170]; rfl
theorem q273 (hg : Good (p + ss.length) ss) {i v : Nat} (h : dist p ss T i = v + 1) : (v = 0 /\ edge p ss i T) \/ (v ≠ 0 /\ ∃ s, edge p ss i s /\ dist p ss T s = v) := by
 obtain ⟨_, _, h3⟩ := q560 h (by omega)
 rw [Nat.add_sub_cancel] at h3
 rcases hit_one hg h3 with h4 | ⟨h0, s, h4, h5⟩
 ·exact .inl h4
 ·refine .inr ⟨h0, s, h4, ?_⟩
  have hle := q345 (p := p) (ss := ss) (T := T) ss.length i
  unfold dist at h
  exact (Dn_at h0 (by omega)).2 h5
theorem q565 (hg : Good (p + ss.length) ss) : ∀ {v i : Nat}, dist p ss T i = v + 1 -> way' p ss (v + 1) i T
 | 0, i, h => by
  rcases q273 hg h with ⟨_, h1⟩ | ⟨h0, _⟩
  ·exact ⟨T, h1, rfl⟩
  ·exact absurd rfl h0
 | v + 1, i, h => by
  rcases q273 hg h with ⟨h0, _⟩ | ⟨_, s, h1, h2⟩
  ·omega
  ·exact ⟨s, h1, q565 hg h2⟩
theorem q433 (hg : Good (p + ss.length) ss) : ∀ {m i : Nat}, way' p ss (m + 1) i T -> dist p ss T i ≠ 0 /\ dist p ss T i <= m + 1
 | 0, i, ⟨s, h1, h2⟩ => by
  have h2' : s = T := h2
  subst h2'
  have hi := (q291 hg h1).1
  have : dist p ss s i = 1 := (Dn_at (by omega) (by omega)).2 (by rw [q232 rfl, hit_of (.inl ⟨rfl, h1⟩)]; rfl)
  omega
 | m + 1, i, ⟨s, h1, h2⟩ => by
  obtain ⟨h3, h4⟩ := q433 hg h2
  have hi := (q291 hg h1).1
  have hd : Dn p ss T (dist p ss T s) s = dist p ss T s := (q560 rfl h3).1
  by_cases h0 : Dn p ss T (dist p ss T s) i = 0
  ·have h5 : Dn p ss T (dist p ss T s + 1) i = dist p ss T s + 1 := by rw [q232 h0, hit_of (.inr ⟨h3, s, h1, hd⟩)]; rfl
   have hle : dist p ss T s <= ss.length := q345 _ _
   have : dist p ss T i = dist p ss T s + 1 := by
    by_cases h6 : dist p ss T s + 1 <= ss.length
    ·exact (Dn_at (by omega) h6).2 h5
    ·have h7 : dist p ss T s = ss.length := by omega
     have h8 := q465 (T := T) hg i hi
     rw [h7] at h5 ⊢
     rw [h5] at h8
     exact h8.symm
   omega
  ·have hle : dist p ss T s <= ss.length := q345 _ _
   have h5 := q345 (p := p) (ss := ss) (T := T) (dist p ss T s) i
   have : dist p ss T i = Dn p ss T (dist p ss T s) i := by
    obtain ⟨k, hk⟩ := Nat.exists_eq_add_of_le hle
    show Dn p ss T ss.length i = _
    rw [hk, q522 h0]
   omega
def gd (p : Nat) (ss : List Stg) (T left : Nat) (x : Int) : Bool := decide ((p : Int) <= x) && dist p ss T (x - p).toNat == left
def nx (p : Nat) (ss : List Stg) (T left : Nat) : List Int -> Int -> Int
 | [], acc => acc
 | x :: l, acc => nx p ss T left l (bif gd p ss T left x && (decide (acc < 0) || decide (x < acc)) then x else acc)
theorem nx_ok {left : Nat} : ∀ {l : List Int} {acc : Int}, (acc = -1 \/ gd p ss T left acc = true) -> ((∃ x ∈ l, gd p ss T left x = true) \/ gd p ss T left acc = true) ->
  gd p ss T left (nx p ss T left l acc) = true /\ (nx p ss T left l acc ∈ l \/ nx p ss T left l acc = acc)
 | [], acc, h1, h2 => by
  rcases h2 with ⟨x, hx, _⟩ | h2
  ·cases hx
  ·exact ⟨h2, .inr rfl⟩
 | x :: l, acc, h1, h2 => by
  have hpos : ∀ y, gd p ss T left y = true -> 0 <= y := by
   intro y hy
   unfold gd at hy
   rw [y144] at hy
   have := of_decide_eq_true hy.1
   omega
  cases hx : gd p ss T left x && (decide (acc < 0) || decide (x < acc)) with
  | true =>
   have hgx : gd p ss T left x = true := (y144 _ _ ▸ hx).1
   obtain ⟨h3, h4⟩ := nx_ok (l := l) (acc := x) (.inr hgx) (.inr hgx)
   have e : nx p ss T left (x :: l) acc = nx p ss T left l x := by
    show nx p ss T left l (bif gd p ss T left x && (decide (acc < 0) || decide (x < acc)) then x else acc) = _
    rw [hx]; rfl
   rw [e]
   exact ⟨h3, .inl (h4.elim (fun h => y155 _ h) fun h => by rw [h]; exact y169)⟩
  | false =>
   have e : nx p ss T left (x :: l) acc = nx p ss T left l acc := by
    show nx p ss T left l (bif gd p ss T left x && (decide (acc < 0) || decide (x < acc)) then x else acc) = _
    rw [hx]; rfl
   rw [e]
   have h2' : (∃ x ∈ l, gd p ss T left x = true) \/ gd p ss T left acc = true := by
    rcases h2 with ⟨y, hy, hy2⟩ | h2
    ·rcases y166.1 hy with rfl | hy
     ·rcases h1 with h1 | h1
      ·rw [hy2, h1] at hx; cases hx
      ·exact .inr h1
     ·exact .inl ⟨y, hy, hy2⟩
    ·exact .inr h2
   obtain ⟨h3, h4⟩ := nx_ok (l := l) (acc := acc) h1 h2'
   exact ⟨h3, h4.imp (fun h => y155 _ h) id⟩
theorem inx_loop {R : Type} (k : Nat) (n T left : Nat) (hn : n = ss.length) (m : List (Int × Int)) (l : List Int) (e0 : Int -> List (Int × Int) -> Option R) (hm : rep p n (dist p ss T) m) (hl : ∀ x ∈ l, 0 <= x /\ x < ((p + n : Nat) : Int)) (hlen : l.length <= 1000) (hleft : left ≠ 0) (hT : dist p ss T T ≠ left) : ∀ (d i j : Nat) (acc : Int), l.length - i = d -> i <= l.length -> d < j ->
  F23.loop2 k j ((p + T : Nat) : Int) (left : Nat) acc l.length i m l e0 = e0 (nx p ss T left (l.drop i) acc) m := by
 intro d
 induction d with
 | zero =>
  intro i j acc hd hi hj
  obtain ⟨j, rfl⟩ : ∃ j', j = j' + 1 := ⟨j - 1, by omega⟩
  rw [F23.loop2_s, y0 (by omega), y137, show i = l.length by omega, y157]; rfl
 | succ d ih =>
  intro i j acc hd hi hj
  obtain ⟨j, rfl⟩ : ∃ j', j = j' + 1 := ⟨j - 1, by omega⟩
  have hlt : i < l.length := by omega
  obtain ⟨b1, b2⟩ := hl _ (y160 hlt)
  rw [F23.loop2_s, y135 (by omega), y136, if_pos (by omega), y139, y140 hlt, y138, y147 hlt, q22 i (by omega)]
  show _ = e0 (nx p ss T left (l.drop (i + 1)) (bif gd p ss T left l[i] && (decide (acc < 0) || decide (l[i] < acc)) then l[i] else acc)) m
  have ih' := fun acc => ih (i + 1) j acc (by omega) (by omega) (by omega)
  cases hh : mhas l[i] m with
  | false =>
   have : gd p ss T left l[i] = false := by
    rw [Bool.eq_false_iff]
    intro hgd
    unfold gd at hgd
    rw [y144, beq_iff_eq] at hgd
    have h1 := of_decide_eq_true hgd.1
    have : mhas l[i] m = true := (hm.1 _).2 ⟨(l[i] - p).toNat, by omega, by omega, by rw [hgd.2]; exact hleft⟩
    rw [hh] at this; cases this
   rw [this, y137, Bool.false_and, y137]
   exact ih' acc
  | true =>
   obtain ⟨q, h1, h2, h3⟩ := (hm.1 _).1 hh
   have hget := hm.2 q h1 h3
   rw [y136, h2, hget]
   have hgd : gd p ss T left ((p + q : Nat) : Int) = (((dist p ss T q : Nat) : Int) == (left : Int)) := by
    unfold gd
    rw [y135 (by omega), Bool.true_and, show (((p + q : Nat) : Int) - (p : Int)).toNat = q by omega, Bool.eq_iff_iff, beq_iff_eq, beq_iff_eq]
    omega
   rw [hgd]
   cases hb : (((dist p ss T q : Nat) : Int) == (left : Int)) with
   | false => rw [y137, Bool.false_and, y137]; exact ih' acc
   | true =>
    have hq : dist p ss T q = left := by have := eq_of_beq hb; omega
    have hne : (((p + q : Nat) : Int) != ((p + T : Nat) : Int)) = true := q70 fun e => hT (by rw [<- hq]; congr 1; omega)
    rw [y136, hne, y136, Bool.true_and]
    cases decide (acc < 0) with
    | true => rw [y136, Bool.true_or, y136]; exact ih' _
    | false =>
     rw [y137, Bool.false_or]
     cases decide (((p + q : Nat) : Int) < acc) with
     | true => rw [y136, y136]; exact ih' _
     | false => rw [y137, y137]; exact ih' _
def sg (p : Nat) (a : Int) : Int := if a < 0 then -1 else a - p
theorem rnx_loop {R : Type} (k : Nat) (pl : List Pln) (ss : List Stg) (os : List Int) (pr : Int) (T left : Nat) (l : List Int) (e0 : Int -> List Pln -> List Stg -> List Int -> Int -> List Int -> Option R) (hp : pl.length + ss.length <= 900) (hl : ∀ x ∈ l, 0 <= x /\ x < ((pl.length + ss.length : Nat) : Int)) (hlen : l.length <= 1000) : ∀ (d i j : Nat) (acc : Int), l.length - i = d -> i <= l.length -> d < j -> (acc = -1 \/ (pl.length : Int) <= acc) ->
  F112.loop2 k j (left : Nat) (sg pl.length acc) i pl ss os pr (stL (dist pl.length ss T) ss.length) l e0 = e0 (sg pl.length (nx pl.length ss T left (l.drop i) acc)) pl ss os pr (stL (dist pl.length ss T) ss.length) := by
 intro d
 induction d with
 | zero =>
  intro i j acc hd hi hj ha
  obtain ⟨j, rfl⟩ : ∃ j', j = j' + 1 := ⟨j - 1, by omega⟩
  rw [F112.loop2_s, y0 (by omega), y137, show i = l.length by omega, y157]; rfl
 | succ d ih =>
  intro i j acc hd hi hj ha
  obtain ⟨j, rfl⟩ : ∃ j', j = j' + 1 := ⟨j - 1, by omega⟩
  have hlt : i < l.length := by omega
  obtain ⟨b1, b2⟩ := hl _ (y160 hlt)
  rw [F112.loop2_s, y135 (by omega), y136, if_pos (by omega), y139, y140 hlt, y138, y147 hlt, q22 i (by omega), q28 (n := l[i] - (pl.length : Int)) (by omega) (by omega)]
  show _ = e0 (sg pl.length (nx pl.length ss T left (l.drop (i + 1)) (bif gd pl.length ss T left l[i] && (decide (acc < 0) || decide (l[i] < acc)) then l[i] else acc))) _ _ _ _ _
  have ih' := fun acc ha => ih (i + 1) j acc (by omega) (by omega) (by omega) ha
  by_cases hx : (pl.length : Int) <= l[i]
  ·rw [y135 (p := l[i] - (pl.length : Int) >= 0) (by omega), y136, if_pos (by rw [q76]; omega), q150 (by omega), y138]
   have hgd : gd pl.length ss T left l[i] = ((dist pl.length ss T (l[i] - (pl.length : Int)).toNat : Int) == (left : Int)) := by
    unfold gd
    rw [y135 hx, Bool.true_and, Bool.eq_iff_iff, beq_iff_eq, beq_iff_eq]
    omega
   rw [hgd]
   have hsx : sg pl.length l[i] = l[i] - pl.length := if_neg (by omega)
   cases ((dist pl.length ss T (l[i] - (pl.length : Int)).toNat : Int) == (left : Int)) with
   | false => rw [y137, Bool.false_and, y137]; exact ih' acc ha
   | true =>
    rw [y136, Bool.true_and]
    rcases ha with ha | ha
    ·subst ha
     rw [y135 (p := sg pl.length (-1) < 0) (by unfold sg; simp), y136, <- hsx, y135 (p := (-1 : Int) < 0) (by omega), Bool.true_or, y136]
     exact ih' _ (.inr hx)
    ·have hsa : sg pl.length acc = acc - pl.length := if_neg (by omega)
     rw [hsa, y0 (by omega), y137, y0 (p := acc < 0) (by omega), Bool.false_or]
     by_cases h4 : l[i] < acc
     ·rw [y135 (by omega), y136, <- hsx, y135 h4, y136]
      exact ih' _ (.inr hx)
     ·rw [y0 (by omega), y137, <- hsa, y0 h4, y137]
      exact ih' _ (.inr ha)
  ·have hgd : gd pl.length ss T left l[i] = false := by unfold gd; rw [y0 hx]; rfl
   rw [y0 (p := l[i] - (pl.length : Int) >= 0) (by omega), y137, hgd, Bool.false_and, y137]
   exact ih' acc ha
def srcA (p : Nat) (ss : List Stg) (x : Int) : List Int := match ss[(x - p).toNat]? with | some s => srcs s | none => []
def tr (p : Nat) (ss : List Stg) (T : Nat) : Nat -> Int -> List Int
 | 0, _ => []
 | left + 1, x => nx p ss T (left + 1) (srcA p ss x) (-1) :: tr p ss T left (nx p ss T (left + 1) (srcA p ss x) (-1))
theorem q586 (T : Nat) : ∀ (left : Nat) (x : Int), (tr p ss T left x).length = left
 | 0, _ => rfl
 | left + 1, x => by show (tr p ss T left _).length + 1 = _; rw [q586 T left]
theorem q537 (hg : Good (p + ss.length) ss) {q left : Nat} (h : dist p ss T q = left + 2) : ∃ s, edge p ss q s /\ nx p ss T (left + 1) (srcA p ss ((p + q : Nat) : Int)) (-1) = ((p + s : Nat) : Int) /\ dist p ss T s = left + 1 := by
 rcases q273 hg h with ⟨h0, _⟩ | ⟨_, s, ⟨st, h1, h2⟩, h3⟩
 ·omega
 ·have hsa : srcA p ss ((p + q : Nat) : Int) = srcs st := by
   unfold srcA
   rw [show (((p + q : Nat) : Int) - (p : Int)).toNat = q by omega, h1]
  have hgs : gd p ss T (left + 1) ((p + s : Nat) : Int) = true := by
   unfold gd
   rw [y135 (by omega), Bool.true_and, show (((p + s : Nat) : Int) - (p : Int)).toNat = s by omega, h3, y170]
  obtain ⟨h4, h5⟩ := nx_ok (p := p) (ss := ss) (T := T) (left := left + 1) (l := srcs st) (acc := -1) (.inl rfl) (.inl ⟨_, h2, hgs⟩)
  rw [hsa]
  have h4' := h4
  unfold gd at h4'
  rw [y144, beq_iff_eq] at h4'
  have h6 := of_decide_eq_true h4'.1
  refine ⟨(nx p ss T (left + 1) (srcs st) (-1) - p).toNat, ⟨st, h1, ?_⟩, by omega, h4'.2⟩
  rw [show ((p + (nx p ss T (left + 1) (srcs st) (-1) - p).toNat : Nat) : Int) = nx p ss T (left + 1) (srcs st) (-1) by omega]
  rcases h5 with h5 | h5
  ·exact h5
  ·omega
end
theorem q646 {R : Type} (k : Nat) (pl : List Pln) (ss : List Stg) (os : List Int) (pr : Int) (T : Nat) (m : List (Int × Int)) (e0 : List Pln -> List Stg -> List Int -> Int -> List Int -> Option R) (hg : Good (pl.length + ss.length) ss) (hp : pl.length + ss.length <= 900) (hk : 1001 <= k) (hm : rep pl.length ss.length (dist pl.length ss T) m) : ∀ (left j : Nat) (q : Nat) (l : List Int), left < j -> dist pl.length ss T q = left + 1 -> q < ss.length -> left < dist pl.length ss T T -> l.length + left <= 2000 ->
  F23.loop1 k j ((pl.length + T : Nat) : Int) (left : Nat) pl ss os pr (l ++ [((pl.length + q : Nat) : Int)]) m e0 = e0 pl ss os pr (l ++ [((pl.length + q : Nat) : Int)] ++ tr pl.length ss T left ((pl.length + q : Nat) : Int)) := by
 intro left
 induction left with
 | zero =>
  intro j q l hj hq hql hT hl
  obtain ⟨j, rfl⟩ : ∃ j', j = j' + 1 := ⟨j - 1, by omega⟩
  rw [F23.loop1_s, y0 (by omega), y137]
  show _ = e0 pl ss os pr (_ ++ [])
  rw [List.append_nil]
 | succ left ih =>
  intro j q l hj hq hql hT hl
  obtain ⟨j, rfl⟩ : ∃ j', j = j' + 1 := ⟨j - 1, by omega⟩
  obtain ⟨s, h1, h2, h3⟩ := q537 hg hq
  have hsl := (q291 hg h1).2
  have hlen : (l ++ [((pl.length + q : Nat) : Int)]).length = l.length + 1 := by rw [y148, y159]
  have hsrc := q115 ss[q]
  have hsa : srcA pl.length ss ((pl.length + q : Nat) : Int) = srcs ss[q] := by
   unfold srcA
   rw [show (((pl.length + q : Nat) : Int) - (pl.length : Int)).toNat = q by omega, y140 hql]
  rw [F23.loop1_s, y135 (by omega), y136, hlen, show w64 (((l.length + 1 : Nat) : Int) - 1) = (l.length : Int) by rw [q28 (by omega) (by omega)]; omega, if_pos (by omega), y139, List.getElem?_append_right (Nat.le_refl _), Nat.sub_self, List.getElem?_cons_zero, y138, show w64 (((pl.length + q : Nat) : Int) - (pl.length : Int)) = (q : Int) by rw [q28 (by omega) (by omega)]; omega, if_pos (by omega), y139, y140 hql, y138, q136]
  simp only [y138]
  have hi := inx_loop (R := R) (p := pl.length) (ss := ss) k ss.length T (left + 1) rfl m (srcs ss[q]) (fun (z6 : Int) (z7 : List (Int × Int)) => (if (l ++ [((pl.length + q : Nat) : Int)] ++ [z6]).length * 8 <= 140737488355328 then F23.loop1 k j ((pl.length + T : Nat) : Int) (w64 (((left + 1 : Nat) : Int) - 1)) pl ss os pr (l ++ [((pl.length + q : Nat) : Int)] ++ [z6]) z7 e0 else none)) hm (hg _ (y160 hql)) (by omega) (by omega) (by omega) (srcs ss[q]).length 0 k (-1) (by omega) (by omega) (by omega)
  rw [show ((0 : Nat) : Int) = 0 from rfl, y152] at hi
  rw [hi, <- hsa, h2, if_pos (by rw [y148, hlen, y159]; omega), show w64 (((left + 1 : Nat) : Int) - 1) = (left : Int) by rw [q28 (by omega) (by omega)]; omega, ih j s (l ++ [((pl.length + q : Nat) : Int)]) (by omega) h3 hsl (by omega) (by omega)]
  show _ = e0 pl ss os pr (l ++ [((pl.length + q : Nat) : Int)] ++ (nx pl.length ss T (left + 1) (srcA pl.length ss ((pl.length + q : Nat) : Int)) (-1) :: tr pl.length ss T left (nx pl.length ss T (left + 1) (srcA pl.length ss ((pl.length + q : Nat) : Int)) (-1))))
  rw [h2, List.append_assoc (l ++ _)]
  rfl
theorem q635 {R : Type} (k : Nat) (pl : List Pln) (ss : List Stg) (os : List Int) (pr : Int) (T : Nat) (e0 : List Int -> Option R) (hg : Good (pl.length + ss.length) ss) (hp : pl.length + ss.length <= 900) (hk : 1001 <= k) : ∀ (left j : Nat) (q : Nat) (l : List Int), left < j -> dist pl.length ss T q = left + 1 -> q < ss.length -> l.length + left <= 2000 ->
  F112.loop1 k j (q : Nat) (left : Nat) pl ss os pr (stL (dist pl.length ss T) ss.length) l e0 = e0 (l ++ tr pl.length ss T left ((pl.length + q : Nat) : Int)) := by
 intro left
 induction left with
 | zero =>
  intro j q l hj hq hql hl
  obtain ⟨j, rfl⟩ : ∃ j', j = j' + 1 := ⟨j - 1, by omega⟩
  rw [F112.loop1_s, y0 (by omega), y137]
  show _ = e0 (_ ++ [])
  rw [List.append_nil]
 | succ left ih =>
  intro j q l hj hq hql hl
  obtain ⟨j, rfl⟩ : ∃ j', j = j' + 1 := ⟨j - 1, by omega⟩
  obtain ⟨s, h1, h2, h3⟩ := q537 hg hq
  have hsl := (q291 hg h1).2
  have hsrc := q115 ss[q]
  have hsa : srcA pl.length ss ((pl.length + q : Nat) : Int) = srcs ss[q] := by
   unfold srcA
   rw [show (((pl.length + q : Nat) : Int) - (pl.length : Int)).toNat = q by omega, y140 hql]
  rw [F112.loop1_s, y135 (by omega), y136, if_pos (by omega), y139, y140 hql, y138, q143]
  simp only [y138]
  have hi := rnx_loop (R := R) k pl ss os pr T (left + 1) (srcs ss[q]) (fun (z13 : Int) (z14 : List Pln) (z15 : List Stg) (z16 : List Int) (z17 : Int) (z18 : List Int) => (if (l ++ [w64 ((z14.length : Int) + z13)]).length * 8 <= 140737488355328 then F112.loop1 k j z13 (w64 (((left + 1 : Nat) : Int) - 1)) z14 z15 z16 z17 z18 (l ++ [w64 ((z14.length : Int) + z13)]) e0 else none)) hp (hg _ (y160 hql)) (by omega) (srcs ss[q]).length 0 k (-1) (by omega) (by omega) (by omega) (.inl rfl)
  rw [show ((0 : Nat) : Int) = 0 from rfl, y152, show sg pl.length (-1) = -1 from rfl] at hi
  have hsg : sg pl.length ((pl.length + s : Nat) : Int) = (s : Int) := by unfold sg; rw [if_neg (by omega)]; omega
  rw [hi, <- hsa, h2, hsg]
  have hw : w64 ((pl.length : Int) + (s : Int)) = ((pl.length + s : Nat) : Int) := by rw [<- Int.natCast_add]; exact q86 _ (by omega)
  rw [hw, if_pos (by rw [y148, y159]; omega), show w64 (((left + 1 : Nat) : Int) - 1) = (left : Int) by rw [q28 (by omega) (by omega)]; omega, ih j s _ (by omega) h3 hsl (by rw [y148, y159]; omega)]
  show _ = e0 (l ++ (nx pl.length ss T (left + 1) (srcA pl.length ss ((pl.length + q : Nat) : Int)) (-1) :: tr pl.length ss T left (nx pl.length ss T (left + 1) (srcA pl.length ss ((pl.length + q : Nat) : Int)) (-1))))
  rw [h2, List.append_assoc]
  rfl
def bstF (p : Nat) (ss : List Stg) : Nat -> Option (Nat × Nat)
 | 0 => none
 | i + 1 => bif dist p ss i i == 0 then bstF p ss i else match bstF p ss i with
  | none => some (dist p ss i i, i)
  | some (v, f) => bif decide (dist p ss i i < v) then some (dist p ss i i, i) else some (v, f)
def cy (p : Nat) (ss : List Stg) : Option (Nat × Nat) -> List Int
 | none => []
 | some (v, f) => ((p + f : Nat) : Int) :: tr p ss f (v - 1) ((p + f : Nat) : Int)
theorem q360 {p : Nat} {ss : List Stg} : ∀ (i : Nat), match bstF p ss i with
  | none => ∀ q, q < i -> dist p ss q q = 0
  | some (v, f) => f < i /\ v = dist p ss f f /\ v ≠ 0 /\ (∀ q, q < f -> dist p ss q q = 0 \/ v < dist p ss q q) /\ ∀ q, q < i -> dist p ss q q = 0 \/ v <= dist p ss q q
 | 0 => fun q h => by omega
 | i + 1 => by
  have ih := q360 (p := p) (ss := ss) i
  unfold bstF
  by_cases h0 : dist p ss i i = 0
  ·rw [h0, y170, y136]
   cases hb : bstF p ss i with
   | none =>
    rw [hb] at ih
    intro q hq
    by_cases e : q = i
    ·subst e; exact h0
    ·exact ih q (by omega)
   | some vf =>
    obtain ⟨v, f⟩ := vf
    rw [hb] at ih
    obtain ⟨a1, a2, a3, a4, a5⟩ := ih
    refine ⟨by omega, a2, a3, a4, fun q hq => ?_⟩
    by_cases e : q = i
    ·subst e; exact .inl h0
    ·exact a5 q (by omega)
  ·rw [y165.2 h0, y137]
   cases hb : bstF p ss i with
   | none =>
    rw [hb] at ih
    refine ⟨by omega, rfl, h0, fun q hq => .inl (ih q hq), fun q hq => ?_⟩
    by_cases e : q = i
    ·subst e; exact .inr (Nat.le_refl _)
    ·exact .inl (ih q (by omega))
   | some vf =>
    obtain ⟨v, f⟩ := vf
    rw [hb] at ih
    obtain ⟨a1, a2, a3, a4, a5⟩ := ih
    by_cases h1 : dist p ss i i < v
    ·simp only [y135 h1, y136]
     refine ⟨by omega, trivial, h0, fun q hq => ?_, fun q hq => ?_⟩
     ·have := a5 q hq; omega
     ·by_cases e : q = i
      ·subst e; exact .inr (Nat.le_refl _)
      ·have := a5 q (by omega); omega
    ·simp only [y0 h1, y137]
     refine ⟨by omega, a2, a3, a4, fun q hq => ?_⟩
     by_cases e : q = i
     ·subst e; exact .inr (by omega)
     ·exact a5 q (by omega)
theorem cyc_loop {R : Type} (k : Nat) (pl : List Pln) (ss : List Stg) (os : List Int) (pr : Int) (e0 : List Int -> Option R) (hg : Good (pl.length + ss.length) ss) (hp : pl.length + ss.length <= 900) (hk : 1001 <= k) : ∀ (m i j : Nat), ss.length - i = m -> i <= ss.length -> m < j ->
  F23.loop0 k j ((pl.length + i : Nat) : Int) pl ss os pr (cy pl.length ss (bstF pl.length ss i)) e0 = e0 (cy pl.length ss (bstF pl.length ss ss.length)) := by
 intro m
 induction m with
 | zero =>
  intro i j hm hi hj
  obtain ⟨j, rfl⟩ : ∃ j', j = j' + 1 := ⟨j - 1, by omega⟩
  rw [F23.loop0_s, <- Int.natCast_add, q86 _ (by omega), y0 (by omega), y137, show i = ss.length by omega]
 | succ m ih =>
  intro i j hm hi hj
  obtain ⟨j, rfl⟩ : ∃ j', j = j' + 1 := ⟨j - 1, by omega⟩
  have hlt : i < ss.length := by omega
  obtain ⟨mp, hd, hm⟩ := q496 (k := k) pl ss os pr i hg hp hk
  have hdl : dist pl.length ss i i <= ss.length := q345 _ _
  have hb := q360 (p := pl.length) (ss := ss) i
  have hih := ih (i + 1) j (by omega) (by omega) (by omega)
  rw [F23.loop0_s, <- Int.natCast_add, q86 _ (by omega), y135 (by omega), y136, hd, q22 (pl.length + i) (by omega)]
  simp only [y138]
  have hmi : mhas ((pl.length + i : Nat) : Int) mp = (dist pl.length ss i i != 0) := by
   rw [Bool.eq_iff_iff, hm.1, bne_iff_ne]
   constructor
   ·rintro ⟨q, h1, h2, h3⟩
    have : q = i := by omega
    subst this; exact h3
   ·intro h; exact ⟨i, hlt, rfl, h⟩
  rw [hmi]
  have hbst : bstF pl.length ss (i + 1) = bif dist pl.length ss i i == 0 then bstF pl.length ss i else match bstF pl.length ss i with
   | none => some (dist pl.length ss i i, i)
   | some (v, f) => bif decide (dist pl.length ss i i < v) then some (dist pl.length ss i i, i) else some (v, f) := rfl
  by_cases h0 : dist pl.length ss i i = 0
  ·rw [h0, show (!((0 : Nat) != 0)) = true from rfl, y136]
   rw [h0, y170, y136] at hbst
   rw [<- hbst]
   exact hih
  ·have hget := hm.2 i hlt h0
   rw [bne_iff_ne.2 h0, y145, y137, hget]
   rw [y165.2 h0, y137] at hbst
   obtain ⟨v0, hv0⟩ : ∃ v0, dist pl.length ss i i = v0 + 1 := ⟨dist pl.length ss i i - 1, by omega⟩
   have hback := q646 (R := R) k pl ss os pr i mp (fun z1 z2 z3 z4 z5 => (F23.loop0 k j ((pl.length + (i + 1) : Nat) : Int) z1 z2 z3 z4 z5 e0)) hg hp hk hm v0 k i [] (by omega) hv0 hlt (by omega) (by simp; omega)
   rw [List.nil_append] at hback
   have hw : w64 (((dist pl.length ss i i : Nat) : Int) - 1) = (v0 : Int) := by rw [q28 (by omega) (by omega)]; omega
   have hnew : F23.loop1 k k ((pl.length + i : Nat) : Int) (w64 (((dist pl.length ss i i : Nat) : Int) - 1)) pl ss os pr [((pl.length + i : Nat) : Int)] mp (fun z1 z2 z3 z4 z5 => (F23.loop0 k j ((pl.length + (i + 1) : Nat) : Int) z1 z2 z3 z4 z5 e0)) = F23.loop0 k j ((pl.length + (i + 1) : Nat) : Int) pl ss os pr (cy pl.length ss (some (dist pl.length ss i i, i))) e0 := by
    rw [hw, hback]
    show F23.loop0 k j _ pl ss os pr (((pl.length + i : Nat) : Int) :: tr pl.length ss i v0 ((pl.length + i : Nat) : Int)) e0 = F23.loop0 k j _ pl ss os pr (((pl.length + i : Nat) : Int) :: tr pl.length ss i (dist pl.length ss i i - 1) ((pl.length + i : Nat) : Int)) e0
    rw [hv0, Nat.add_sub_cancel]
   cases hbs : bstF pl.length ss i with
   | none =>
    rw [hbs] at hbst
    rw [show (!(Nat.beq (cy pl.length ss none).length 0)) = false from rfl, y137]
    refine Eq.trans hnew ?_
    rw [hbst] at hih
    exact hih
   | some vf =>
    obtain ⟨v, f⟩ := vf
    rw [hbs] at hbst hb
    obtain ⟨a1, a2, a3, a4, a5⟩ := hb
    have hcl : (cy pl.length ss (some (v, f))).length = v := by
     show (tr pl.length ss f (v - 1) _).length + 1 = v
     rw [q586]; omega
    have hbeq : (!(Nat.beq (cy pl.length ss (some (v, f))).length 0)) = true := by
     rw [hcl, show Nat.beq v 0 = false from by cases v with | zero => exact absurd rfl a3 | succ => rfl]; rfl
    rw [hbeq, y136, hcl]
    by_cases h1 : dist pl.length ss i i < v
    ·rw [y0 (by omega), y137]
     refine Eq.trans hnew ?_
     simp only [y135 h1, y136] at hbst
     rw [hbst] at hih
     exact hih
    ·rw [y135 (by omega), y136]
     simp only [y0 h1, y137] at hbst
     rw [hbst] at hih
     exact hih
def bsI : Option (Nat × Nat) -> Int × Int
 | none => (0, -1)
 | some (v, f) => ((v : Int), (f : Int))
theorem q715 {R : Type} (k : Nat) (pl : List Pln) (ss : List Stg) (os : List Int) (pr : Int) (e0 : Int -> Int -> List Pln -> List Stg -> List Int -> Int -> Option R) (hg : Good (pl.length + ss.length) ss) (hp : pl.length + ss.length <= 900) (hk : 1001 <= k) : ∀ (m i j : Nat), ss.length - i = m -> i <= ss.length -> m < j ->
  F112.loop0 k j (bsI (bstF pl.length ss i)).1 (bsI (bstF pl.length ss i)).2 i pl ss os pr e0 = e0 (bsI (bstF pl.length ss ss.length)).1 (bsI (bstF pl.length ss ss.length)).2 pl ss os pr := by
 intro m
 induction m with
 | zero =>
  intro i j hm hi hj
  obtain ⟨j, rfl⟩ : ∃ j', j = j' + 1 := ⟨j - 1, by omega⟩
  rw [F112.loop0_s, y0 (by omega), y137, show i = ss.length by omega]
 | succ m ih =>
  intro i j hm hi hj
  obtain ⟨j, rfl⟩ : ∃ j', j = j' + 1 := ⟨j - 1, by omega⟩
  have hlt : i < ss.length := by omega
  have hdl : dist pl.length ss i i <= ss.length := q345 _ _
  have hih := ih (i + 1) j (by omega) (by omega) (by omega)
  rw [F112.loop0_s, y135 (by omega), y136, q577 pl ss os pr i hg hp hk]
  simp only [y138]
  rw [if_pos (by rw [q76]; omega), y139, q150 hlt, y138, q22 i (by omega)]
  have hbst : bstF pl.length ss (i + 1) = bif dist pl.length ss i i == 0 then bstF pl.length ss i else match bstF pl.length ss i with
   | none => some (dist pl.length ss i i, i)
   | some (v, f) => bif decide (dist pl.length ss i i < v) then some (dist pl.length ss i i, i) else some (v, f) := rfl
  by_cases h0 : dist pl.length ss i i = 0
  ·rw [y0 (by omega), y137]
   rw [h0, y170, y136] at hbst
   rw [hbst] at hih
   exact hih
  ·rw [y135 (by omega), y136]
   rw [y165.2 h0, y137] at hbst
   cases hbs : bstF pl.length ss i with
   | none =>
    rw [hbs] at hbst
    rw [hbst] at hih
    exact hih
   | some vf =>
    obtain ⟨v, f⟩ := vf
    rw [hbs] at hbst
    show (bif decide ((f : Int) < 0) then _ else bif decide ((dist pl.length ss i i : Int) < (v : Int)) then _ else _) = _
    rw [y0 (by omega), y137]
    by_cases h1 : dist pl.length ss i i < v
    ·rw [y135 (by omega), y136]
     simp only [y135 h1, y136] at hbst
     rw [hbst] at hih
     exact hih
    ·rw [y0 (by omega), y137]
     simp only [y0 h1, y137] at hbst
     rw [hbst] at hih
     exact hih
theorem q573 {pl : List Pln} {ss : List Stg} {os : List Int} {pr : Int} (h : (ordr pl ss os pr).2 = 7) : Good (pl.length + ss.length) ss /\ go pl.length ss ss.length [] = none := by
 unfold ordr at h
 cases h1 : ((pl.length : Int) == 0) with
 | true => rw [h1] at h; cases h
 | false =>
 cases h2 : ((ss.length : Int) == 0) with
 | true => rw [h1, h2] at h; cases h
 | false =>
 cases h3 : decide (((pl.length + ss.length : Nat) : Int) > 16) with
 | true => rw [h1, h2, h3] at h; cases h
 | false =>
 cases h4 : ((os.length : Int) == 0) with
 | true => rw [h1, h2, h3, h4] at h; cases h
 | false =>
 cases h5 : decide ((os.length : Int) > 16) with
 | true => rw [h1, h2, h3, h4, h5] at h; cases h
 | false =>
 cases h6 : decide (pr < 0) with
 | true => rw [h1, h2, h3, h4, h5, h6] at h; cases h
 | false =>
 cases h7 : decide (pr >= 4) with
 | true => rw [h1, h2, h3, h4, h5, h6, h7] at h; cases h
 | false =>
 cases h8 : ss.all (inSt ((pl.length + ss.length : Nat) : Int)) with
 | false => rw [h1, h2, h3, h4, h5, h6, h7, h8] at h; cases h
 | true =>
 cases h9 : os.all (inNd ((pl.length + ss.length : Nat) : Int)) with
 | false => rw [h1, h2, h3, h4, h5, h6, h7, h8, h9] at h; cases h
 | true =>
 rw [h1, h2, h3, h4, h5, h6, h7, h8, h9] at h
 simp only [y137, y145] at h
 cases hgo : go pl.length ss ss.length [] with
 | none => exact ⟨goodG h8, rfl⟩
 | some l => rw [hgo] at h; cases h
def cycr (pl : List Pln) (ss : List Stg) (os : List Int) (pr : Int) : List Int := bif (ordr pl ss os pr).2 != 7 then [] else cy pl.length ss (bstF pl.length ss ss.length)
theorem cycleG {k : Nat} (pl : List Pln) (ss : List Stg) (os : List Int) (pr : Int) (hp : pl.length <= 100) (hs : ss.length <= 100) (ho : os.length <= 100) (hk : 4097 <= k) :
  F23 k (pl, ss, os, pr) = some ((cycr pl ss os pr, ()), ()) := by
 unfold F23 cycr
 rw [q461 pl ss os pr hp hs ho (by omega)]
 simp only [y138]
 cases hc : (ordr pl ss os pr).2 != 7 with
 | true => rfl
 | false =>
 obtain ⟨hg, _⟩ := q573 (by simpa using hc)
 have h := cyc_loop (R := (List Int × Unit) × Unit) k pl ss os pr (fun (z13 : List Int) => (some ((z13, ()), ()))) hg (by omega) (by omega) ss.length 0 k (by omega) (by omega) (by omega)
 rw [Nat.add_zero] at h
 exact h
theorem rcycleG {k : Nat} (pl : List Pln) (ss : List Stg) (os : List Int) (pr : Int) (hp : pl.length <= 100) (hs : ss.length <= 100) (ho : os.length <= 100) (hk : 4097 <= k) :
  F112 k (pl, ss, os, pr) = some ((cycr pl ss os pr, ()), ()) := by
 unfold F112 cycr
 rw [q527 pl ss os pr hp hs ho (by omega)]
 simp only [y138]
 cases hc : (ordr pl ss os pr).2 != 7 with
 | true => rfl
 | false =>
 obtain ⟨hg, _⟩ := q573 (by simpa using hc)
 simp only [y137]
 have h := q715 (R := (List Int × Unit) × Unit) k pl ss os pr (fun (z4 : Int) (z5 : Int) (z6 : List Pln) (z7 : List Stg) (z8 : List Int) (z9 : Int) => (bif decide (z5 < 0) then (some ((([] : List Int), ()), ())) else ((F111 k (z6, z7, z8, z9) z5).bind fun (y10 : ((List Int) × Unit) × (Unit)) => F112.loop1 k k z5 (w64 (z4 - 1)) z6 z7 z8 z9 y10.1.1 [w64 ((z6.length : Int) + z5)] (fun (z19 : List Int) => (some ((z19, ()), ())))))) hg (by omega) (by omega) ss.length 0 k (by omega) (by omega) (by omega)
 refine Eq.trans h ?_
 have hb := q360 (p := pl.length) (ss := ss) ss.length
 cases hbs : bstF pl.length ss ss.length with
 | none => rfl
 | some vf =>
  obtain ⟨v, f⟩ := vf
  rw [hbs] at hb
  obtain ⟨a1, a2, a3, a4, a5⟩ := hb
  have hdl : dist pl.length ss f f <= ss.length := q345 _ _
  obtain ⟨v0, hv0⟩ : ∃ v0, dist pl.length ss f f = v0 + 1 := ⟨dist pl.length ss f f - 1, by omega⟩
  show (bif decide ((f : Int) < 0) then _ else ((F111 k (pl, ss, os, pr) (f : Int)).bind fun (y10 : ((List Int) × Unit) × (Unit)) => F112.loop1 k k (f : Int) (w64 ((v : Int) - 1)) pl ss os pr y10.1.1 [w64 ((pl.length : Int) + (f : Int))] (fun (z19 : List Int) => (some ((z19, ()), ()))))) = _
  rw [y0 (by omega), y137, q577 pl ss os pr f hg (by omega) (by omega)]
  simp only [y138]
  rw [<- Int.natCast_add, q86 _ (by omega), show w64 ((v : Int) - 1) = (v0 : Int) by rw [q28 (by omega) (by omega)]; omega, q635 k pl ss os pr f (fun (z19 : List Int) => (some ((z19, ()), ()))) hg (by omega) (by omega) v0 k f _ (by omega) hv0 a1 (by simp; omega)]
  show _ = some ((((pl.length + f : Nat) : Int) :: tr pl.length ss f (v - 1) ((pl.length + f : Nat) : Int), ()), ())
  rw [show v - 1 = v0 by omega]
  rfl
end Go.Lf.T

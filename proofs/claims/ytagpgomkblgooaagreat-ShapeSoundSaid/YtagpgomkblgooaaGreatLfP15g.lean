import Derived.Test.YtagpgomkblgooaaGreatLfQ15y
/-! Lf: the tiles of the references of chapters 9, 10 and 11, over whole planes. -/
set_option linter.unusedVariables false
set_option maxRecDepth 100000
namespace Go.Lf.T
open Go Go.Lf

theorem mod_in (k : Nat) (a : Int) {m : Int} (h1 : 1 ≤ m) (h2 : m ≤ 256) : ∃ v, F109 k a m = some ((v, ()), ()) ∧ 0 ≤ v ∧ v < m := by
  unfold F109
  rw [if_neg (by omega)]
  have g1 := tmod_gt a m (by omega)
  have g2 := Int.tmod_lt_of_pos a (by omega : 0 < m)
  by_cases h : a.tmod m < 0
  · rw [decide_eq_true h, cond_true, w64_id (by omega) (by omega)]
    exact ⟨_, rfl, by omega, by omega⟩
  · rw [decide_eq_false h, cond_false]
    exact ⟨_, rfl, by omega, by omega⟩

theorem index_ok (k : Nat) (a : Int) {n : Int} (h1 : 1 ≤ n) (h2 : n ≤ 128) (e : Int) : ∃ v b, F110 k a n e = some ((v, b, ()), ()) ∧ (b = true → 0 ≤ v ∧ v < n) := by
  unfold F110
  rw [decide_eq_false (p := n < 1) (by omega), decide_eq_false (p := n > 128) (by omega), cond_false, cond_false, w64_id (n := n - 1) (by omega) (by omega), w64_id (n := 2 * n) (by omega) (by omega), w64_id (n := 2 * n - 1) (by omega) (by omega)]
  cases e == 0 with
  | true =>
    refine ⟨_, _, rfl, fun _ => ?_⟩
    rw [mm_true, mm_false]
    (repeat' split) <;> omega
  | false =>
  cases e == 1 with
  | true =>
    obtain ⟨v, hv, v1, v2⟩ := mod_in k a (m := 2 * n) (by omega) (by omega)
    rw [cond_false, cond_true, hv]
    simp only [Option.bind_some]
    by_cases h : v ≥ n
    · rw [decide_eq_true h, cond_true, w64_id (n := 2 * n - 1 - v) (by omega) (by omega)]
      exact ⟨_, _, rfl, fun _ => by omega⟩
    · rw [decide_eq_false h, cond_false]
      exact ⟨_, _, rfl, fun _ => by omega⟩
  | false =>
  cases e == 2 with
  | true =>
    obtain ⟨v, hv, v1, v2⟩ := mod_in k a (m := n) (by omega) (by omega)
    rw [cond_false, cond_false, cond_true, hv]
    exact ⟨_, _, rfl, fun _ => ⟨v1, v2⟩⟩
  | false =>
  rw [cond_false, cond_false, cond_false]
  cases e == 3 with
  | true =>
    rw [cond_true]
    by_cases h : a ≥ 0
    · rw [decide_eq_true h, cond_true]
      by_cases h' : a < n
      · rw [decide_eq_true h', cond_true]; exact ⟨_, _, rfl, fun _ => ⟨h, h'⟩⟩
      · rw [decide_eq_false h', cond_false]; exact ⟨_, _, rfl, fun h => by cases h⟩
    · rw [decide_eq_false h, cond_false]; exact ⟨_, _, rfl, fun h => by cases h⟩
  | false => exact ⟨_, _, rfl, fun h => by cases h⟩

theorem pixel_tot (k : Nat) {p : Pl} (hp : planeP p) (e : Int × Int) (x y : Int) : ∃ v, F111 k p e x y = some ((v, ()), ()) := by
  obtain ⟨⟨s1, s2, s3, s4, s5, s6, s7⟩, hl, _⟩ := hp
  unfold F111
  obtain ⟨u, b, h1, hu⟩ := index_ok k x s1 s2 e.1
  obtain ⟨v, c, h2, hv⟩ := index_ok k y s3 s4 e.1
  rw [h1, h2]
  simp only [Option.bind_some]
  cases b with
  | false => exact ⟨_, rfl⟩
  | true =>
  cases c with
  | false => exact ⟨_, rfl⟩
  | true =>
    obtain ⟨u1, u2⟩ := hu rfl
    obtain ⟨v1, v2⟩ := hv rfl
    have m1 : 0 ≤ v * p.1 := Int.mul_nonneg v1 (by omega)
    have m2 : (v + 1) * p.1 ≤ p.2.1 * p.1 := Int.mul_le_mul_of_nonneg_right (by omega) (by omega)
    rw [Int.add_mul, Int.one_mul, Int.mul_comm p.2.1] at m2
    rw [Bool.not_true, cond_false, cond_false, w64_id (n := v * p.1) (by omega) (by omega), w64_id (n := v * p.1 + u) (by omega) (by omega), if_pos (by omega), List.getElem?_eq_getElem (by omega), Option.bind_some]
    exact ⟨_, rfl⟩

theorem shift_tot (k : Nat) (x : Int) {s : Int} (hs : sP s) : ∃ v, F77 k x s = some ((v, ()), ()) := by
  by_cases h : inM x
  · exact ⟨_, rshift_ok k h hs.1 hs.2⟩
  · unfold F77
    rw [acc_ok, Option.bind_some, decide_eq_false h]
    exact ⟨_, rfl⟩

theorem clampv_in (n : Int) {m : Int} (hm : 0 ≤ m) : 0 ≤ clampv n m ∧ clampv n m ≤ m := by
  unfold clampv
  rw [mm_true, mm_false]
  (repeat' split) <;> omega

theorem pixP_set {m : Int} {l : List Int} {i : Nat} {x : Int} (h : pixP m l) (hx : 0 ≤ x ∧ x ≤ m) : pixP m (l.set i x) := by
  intro y hy
  rcases List.mem_or_eq_of_mem_set hy with h1 | h1
  · exact h y h1
  · subst h1; exact hx
theorem pixP_zeros {m : Int} (n : Nat) (hm : 0 ≤ m) : pixP m (List.replicate n 0) := by
  intro y hy
  rw [List.eq_of_mem_replicate hy]
  exact ⟨Int.le_refl _, hm⟩
theorem pixP_mono {m m' : Int} {l : List Int} (h : pixP m l) (hm : m ≤ m') : pixP m' l := fun y hy => ⟨(h y hy).1, Int.le_trans (h y hy).2 hm⟩

/-- The lengths of a plane, as natural numbers. -/
def Dim (w h : Nat) : Prop := 1 ≤ w ∧ w ≤ 128 ∧ 1 ≤ h ∧ h ≤ 128 ∧ w * h ≤ 4096

theorem rnew_ok (k : Nat) {w h : Nat} (hd : Dim w h) {out : Int} (ho : vP out) : F107 k (w : Int) (h : Int) out = some ((((w : Int), (h : Int), out, List.replicate (w * h) 0), true, ()), ()) := by
  obtain ⟨h1, h2, h3, h4, h5⟩ := hd
  have hm : (w : Int) * (h : Int) = ((w * h : Nat) : Int) := by simp
  unfold F107
  rw [rsize_ok, Option.bind_some, decide_eq_true (show sizeP _ _ _ from ⟨by omega, by omega, by omega, by omega, by omega, ho.1, ho.2⟩), Bool.not_true, cond_false, hm, w64_id (by omega) (by omega), if_pos (by omega), Int.toNat_natCast]

theorem place_ok {w h c d : Nat} (hd : Dim w h) (h1 : c < w) (h2 : d < h) : w64 (w64 (w64 (w64 ((d : Int) - 0) * (w : Int)) + (c : Int)) - 0) = ((d * w + c : Nat) : Int) ∧ d * w + c < w * h := by
  obtain ⟨_, g2, _, g4, g5⟩ := hd
  have hN : d * w ≤ 128 * 128 := Nat.mul_le_mul (by omega) g2
  have hM : (d + 1) * w ≤ h * w := Nat.mul_le_mul (by omega) (Nat.le_refl _)
  rw [Nat.add_mul, Nat.one_mul, Nat.mul_comm h] at hM
  have e1 : (d : Int) * (w : Int) = ((d * w : Nat) : Int) := by simp
  simp only [Int.sub_zero]
  rw [w64_id (n := (d : Int)) (by omega) (by omega), e1, w64_id (n := ((d * w : Nat) : Int)) (by omega) (by omega), w64_id (n := ((d * w : Nat) : Int) + (c : Int)) (by omega) (by omega), w64_id (by omega) (by omega)]
  exact ⟨by simp, by omega⟩

theorem full_cover (k : Nat) {w h : Nat} (hd : Dim w h) : F101 k (0, 0, (w : Int), (h : Int)) = some ((true, ()), ()) ∧ F102 k (0, 0, (w : Int), (h : Int)) (0, 0, (w : Int), (h : Int)) = some ((true, ()), ()) := by
  obtain ⟨h1, h2, h3, h4, h5⟩ := hd
  have g : goodP (0, 0, (w : Int), (h : Int)) w h := ⟨Int.le_refl _, Int.le_refl _, Int.le_refl _, Int.le_refl _, by show (0 : Int) < w; omega, by show (0 : Int) < h; omega⟩
  have hr := good_rect (by omega) (by omega) g
  rw [full_ok, decide_eq_true hr, rinside_ok k (by omega) (by omega) hr, decide_eq_true g]
  exact ⟨rfl, rfl⟩

theorem plane_dim {p : Pl} (hp : planeP p) : Dim p.1.toNat p.2.1.toNat ∧ ((p.1.toNat : Nat) : Int) = p.1 ∧ ((p.2.1.toNat : Nat) : Int) = p.2.1 ∧ p.1.toNat * p.2.1.toNat = p.2.2.2.length := by
  obtain ⟨⟨s1, s2, s3, s4, s5, s6, s7⟩, hl, _⟩ := hp
  have e1 : ((p.1.toNat : Nat) : Int) = p.1 := by omega
  have e2 : ((p.2.1.toNat : Nat) : Int) = p.2.1 := by omega
  have e3 : ((p.1.toNat * p.2.1.toNat : Nat) : Int) = p.1 * p.2.1 := by rw [Int.natCast_mul, e1, e2]
  exact ⟨⟨by omega, by omega, by omega, by omega, by omega⟩, e1, e2, by omega⟩

theorem plane_of {w h : Nat} (hd : Dim w h) {out : Int} (ho : vP out) {l : List Int} (hl : l.length = w * h) (hx : pixP out l) : planeP ((w : Int), (h : Int), out, l) := by
  obtain ⟨h1, h2, h3, h4, h5⟩ := hd
  have hm : (w : Int) * (h : Int) = ((w * h : Nat) : Int) := by simp
  exact ⟨⟨by show (1 : Int) ≤ w; omega, by show (w : Int) ≤ 128; omega, by show (1 : Int) ≤ h; omega, by show (h : Int) ≤ 128; omega, by show (w : Int) * h ≤ 4096; omega, ho.1, ho.2⟩, by show (l.length : Int) = w * h; omega, hx⟩

theorem t9_2 {k : Nat} {p : Pl} (hp : planeP p) (e : Int × Int) (kw kh : Int) (hkw : kw ≠ 0) (ws : List Int) (hws : ws.length ≤ 100) (d c : Nat) : ∀ (n i j : Nat) (s : Int), ws.length - i = n → i ≤ ws.length → n < j →
    ∃ s', ∀ {R : Type} (e0 : Int → Int → Int → Int → (List Int) → Int → Int → Option R), F113.loop2 k j kw kh ws (d : Int) (c : Int) s (i : Int) p.1 p.2.1 p.2.2.1 p.2.2.2 e.1 e.2 e0 = e0 s' p.1 p.2.1 p.2.2.1 p.2.2.2 e.1 e.2 := by
  intro n
  induction n with
  | zero =>
    intro i j s hn hi hj
    obtain ⟨j, rfl⟩ : ∃ j', j = j' + 1 := ⟨j - 1, by omega⟩
    refine ⟨s, fun e0 => ?_⟩
    rw [F113.loop2_s, decide_eq_false (by omega), cond_false]
  | succ n ih =>
    intro i j s hn hi hj
    obtain ⟨j, rfl⟩ : ∃ j', j = j' + 1 := ⟨j - 1, by omega⟩
    obtain ⟨v, hv⟩ := pixel_tot k hp e (w64 ((w64 ((c : Int) + ((i : Int).tmod kw))) - (w64 (kw.tdiv 2)))) (w64 ((w64 ((d : Int) + (w64 ((i : Int).tdiv kw)))) - (w64 (kh.tdiv 2))))
    have hlt : i < ws.length := by omega
    obtain ⟨s', h⟩ := ih (i + 1) j (w64 (s + (w64 (ws[i] * v)))) (by omega) (by omega) (by omega)
    refine ⟨s', fun e0 => ?_⟩
    rw [F113.loop2_s, decide_eq_true (by omega), cond_true, if_pos (by omega), Int.toNat_natCast, List.getElem?_eq_getElem hlt, Option.bind_some, if_neg hkw, if_neg hkw]
    have hv' : F111 k (p.1, p.2.1, p.2.2.1, p.2.2.2) (e.1, e.2) (w64 ((w64 ((c : Int) + ((i : Int).tmod kw))) - (w64 (kw.tdiv 2)))) (w64 ((w64 ((d : Int) + (w64 ((i : Int).tdiv kw)))) - (w64 (kh.tdiv 2)))) = some ((v, ()), ()) := hv
    rw [hv', Option.bind_some, w64_succ i (by omega)]
    exact h e0

theorem t9_1 {k : Nat} (hk : 4097 ≤ k) {p : Pl} (hp : planeP p) (e : Int × Int) {w h : Nat} (hdm : Dim w h) (kw kh : Int) (hkw : kw ≠ 0) (ws : List Int) (hws : ws.length ≤ 100) {s5 : Int} (hs5 : sP s5) {out : Int} (ho : vP out) {d : Nat} (hd : d < h) : ∀ (n c j : Nat) (l : List Int), w - c = n → c ≤ w → n < j → l.length = w * h → pixP out l →
    ∃ l', (∀ {R : Type} (e0 : Int → Int → Int → (List Int) → Int → Int → Int → Int → Int → Int → Int → Int → Int → (List Int) → Option R), F113.loop1 k j kw kh ws s5 out (d : Int) (c : Int) p.1 p.2.1 p.2.2.1 p.2.2.2 e.1 e.2 0 0 (w : Int) (h : Int) (w : Int) (h : Int) out l e0 = e0 p.1 p.2.1 p.2.2.1 p.2.2.2 e.1 e.2 0 0 (w : Int) (h : Int) (w : Int) (h : Int) out l') ∧ l'.length = w * h ∧ pixP out l' := by
  intro n
  induction n with
  | zero =>
    intro c j l hn hc hj hl hx
    obtain ⟨j, rfl⟩ : ∃ j', j = j' + 1 := ⟨j - 1, by omega⟩
    refine ⟨l, fun e0 => ?_, hl, hx⟩
    rw [F113.loop1_s, decide_eq_false (by omega), cond_false]
  | succ n ih =>
    intro c j l hn hc hj hl hx
    obtain ⟨j, rfl⟩ : ∃ j', j = j' + 1 := ⟨j - 1, by omega⟩
    obtain ⟨s', h2⟩ := t9_2 (k := k) hp e kw kh hkw ws hws d c ws.length 0 k 0 rfl (by omega) (by omega)
    obtain ⟨v, hv⟩ := shift_tot k s' hs5
    have hcl := clampv_in v (m := out) (by have := ho.1; omega)
    obtain ⟨pl1, pl2⟩ := place_ok hdm (show c < w by omega) hd
    obtain ⟨l', h3, h4, h5⟩ := ih (c + 1) j (l.set (d * w + c) (clampv v out)) (by omega) (by omega) (by omega) (by rw [List.length_set]; exact hl) (pixP_set hx hcl)
    refine ⟨l', fun e0 => ?_, h4, h5⟩
    have hdw := hdm.2.1
    rw [F113.loop1_s, decide_eq_true (by omega), cond_true]
    refine (h2 _).trans ?_
    rw [hv, Option.bind_some, rclamp_ok k _ (by have := ho.1; omega), Option.bind_some, pl1, if_pos (by omega), Int.toNat_natCast, List.getElem?_eq_getElem (by omega), Option.bind_some, w64_succ c (by omega)]
    exact h3 e0

theorem t9_0 {k : Nat} (hk : 4097 ≤ k) {p : Pl} (hp : planeP p) (e : Int × Int) {w h : Nat} (hdm : Dim w h) (kw kh : Int) (hkw : kw ≠ 0) (ws : List Int) (hws : ws.length ≤ 100) {s5 : Int} (hs5 : sP s5) {out : Int} (ho : vP out) : ∀ (n d j : Nat) (l : List Int), h - d = n → d ≤ h → n < j → l.length = w * h → pixP out l →
    ∃ l', (∀ {R : Type} (e0 : Int → Int → Int → (List Int) → Option R), F113.loop0 k j kw kh ws s5 out (d : Int) p.1 p.2.1 p.2.2.1 p.2.2.2 e.1 e.2 0 0 (w : Int) (h : Int) (w : Int) (h : Int) out l e0 = e0 (w : Int) (h : Int) out l') ∧ l'.length = w * h ∧ pixP out l' := by
  intro n
  induction n with
  | zero =>
    intro d j l hn hd hj hl hx
    obtain ⟨j, rfl⟩ : ∃ j', j = j' + 1 := ⟨j - 1, by omega⟩
    refine ⟨l, fun e0 => ?_, hl, hx⟩
    rw [F113.loop0_s, decide_eq_false (by omega), cond_false]
  | succ n ih =>
    intro d j l hn hd hj hl hx
    obtain ⟨j, rfl⟩ : ∃ j', j = j' + 1 := ⟨j - 1, by omega⟩
    have hdw := hdm.2.1
    have hdh := hdm.2.2.2.1
    obtain ⟨l1, h2, l2, l3⟩ := t9_1 hk hp e hdm kw kh hkw ws hws hs5 ho (d := d) (by omega) w 0 k l rfl (by omega) (by omega) hl hx
    obtain ⟨l', h3, h4, h5⟩ := ih (d + 1) j l1 (by omega) (by omega) (by omega) l2 l3
    refine ⟨l', fun e0 => ?_, h4, h5⟩
    rw [F113.loop0_s, decide_eq_true (by omega), cond_true]
    refine (h2 _).trans ?_
    rw [w64_succ d (by omega)]
    exact h3 e0

theorem m10_0 {k : Nat} {p : Pl} (hp : planeP p) (e : Int × Int) (row : List Int) (hrow : row.length ≤ 100) (x y : Int) : ∀ (n i j : Nat) (s : Int), row.length - i = n → i ≤ row.length → n < j →
    ∃ s', ∀ {R : Type} (e0 : Int → Option R), F114.loop0 k j row x y s (i : Int) p.1 p.2.1 p.2.2.1 p.2.2.2 e.1 e.2 e0 = e0 s' := by
  intro n
  induction n with
  | zero =>
    intro i j s hn hi hj
    obtain ⟨j, rfl⟩ : ∃ j', j = j' + 1 := ⟨j - 1, by omega⟩
    refine ⟨s, fun e0 => ?_⟩
    rw [F114.loop0_s, decide_eq_false (by omega), cond_false]
  | succ n ih =>
    intro i j s hn hi hj
    obtain ⟨j, rfl⟩ : ∃ j', j = j' + 1 := ⟨j - 1, by omega⟩
    obtain ⟨v, hv⟩ := pixel_tot k hp e (w64 ((w64 (x + (i : Int))) - (w64 ((row.length : Int).tdiv 2)))) y
    have hlt : i < row.length := by omega
    obtain ⟨s', h⟩ := ih (i + 1) j (w64 (s + (w64 (row[i] * v)))) (by omega) (by omega) (by omega)
    refine ⟨s', fun e0 => ?_⟩
    have hv' : F111 k (p.1, p.2.1, p.2.2.1, p.2.2.2) (e.1, e.2) (w64 ((w64 (x + (i : Int))) - (w64 ((row.length : Int).tdiv 2)))) y = some ((v, ()), ()) := hv
    rw [F114.loop0_s, decide_eq_true (by omega), cond_true, if_pos (by omega), Int.toNat_natCast, List.getElem?_eq_getElem hlt, Option.bind_some, hv', Option.bind_some, w64_succ i (by omega)]
    exact h e0

theorem m10 {k : Nat} (hk : 4097 ≤ k) {p : Pl} (hp : planeP p) (e : Int × Int) (row : List Int) (hrow : row.length ≤ 100) {s4 : Int} (hs4 : sP s4) (x y : Int) : ∃ v, F114 k p e row s4 x y = some ((v, ()), ()) := by
  unfold F114
  obtain ⟨s', h⟩ := m10_0 (k := k) hp e row hrow x y row.length 0 k 0 rfl (by omega) (by omega)
  obtain ⟨v, hv⟩ := shift_tot k s' hs4
  refine ⟨v, (h _).trans ?_⟩
  rw [hv, Option.bind_some]

theorem t10_2 {k : Nat} (hk : 4097 ≤ k) {p : Pl} (hp : planeP p) (e : Int × Int) (row : List Int) (hrow : row.length ≤ 100) (ws : List Int) (s4 : Int) (hs4 : sP s4) (hws : ws.length ≤ 100) (d c : Nat) : ∀ (n i j : Nat) (s : Int), ws.length - i = n → i ≤ ws.length → n < j →
    ∃ s', ∀ {R : Type} (e0 : Int → Int → Int → Int → (List Int) → Int → Int → Option R), F115.loop2 k j row ws s4 (d : Int) (c : Int) s (i : Int) p.1 p.2.1 p.2.2.1 p.2.2.2 e.1 e.2 e0 = e0 s' p.1 p.2.1 p.2.2.1 p.2.2.2 e.1 e.2 := by
  intro n
  induction n with
  | zero =>
    intro i j s hn hi hj
    obtain ⟨j, rfl⟩ : ∃ j', j = j' + 1 := ⟨j - 1, by omega⟩
    refine ⟨s, fun e0 => ?_⟩
    rw [F115.loop2_s, decide_eq_false (by omega), cond_false]
  | succ n ih =>
    intro i j s hn hi hj
    obtain ⟨j, rfl⟩ : ∃ j', j = j' + 1 := ⟨j - 1, by omega⟩
    obtain ⟨v, hv⟩ := m10 hk hp e row hrow hs4 (c : Int) (w64 ((w64 ((d : Int) + (i : Int))) - (w64 ((ws.length : Int).tdiv 2))))
    have hlt : i < ws.length := by omega
    obtain ⟨s', h⟩ := ih (i + 1) j (w64 (s + (w64 (ws[i] * v)))) (by omega) (by omega) (by omega)
    refine ⟨s', fun e0 => ?_⟩
    have hv' : F114 k (p.1, p.2.1, p.2.2.1, p.2.2.2) (e.1, e.2) row s4 (c : Int) (w64 ((w64 ((d : Int) + (i : Int))) - (w64 ((ws.length : Int).tdiv 2)))) = some ((v, ()), ()) := hv
    rw [F115.loop2_s, decide_eq_true (by omega), cond_true, if_pos (by omega), Int.toNat_natCast, List.getElem?_eq_getElem hlt, Option.bind_some, hv', Option.bind_some, w64_succ i (by omega)]
    exact h e0

theorem t10_1 {k : Nat} (hk : 4097 ≤ k) {p : Pl} (hp : planeP p) (e : Int × Int) {w h : Nat} (hdm : Dim w h) (row : List Int) (hrow : row.length ≤ 100) (ws : List Int) (s4 : Int) (hs4 : sP s4) (hws : ws.length ≤ 100) {s5 : Int} (hs5 : sP s5) {out : Int} (ho : vP out) {d : Nat} (hd : d < h) : ∀ (n c j : Nat) (l : List Int), w - c = n → c ≤ w → n < j → l.length = w * h → pixP out l →
    ∃ l', (∀ {R : Type} (e0 : Int → Int → Int → (List Int) → Int → Int → Int → Int → Int → Int → Int → Int → Int → (List Int) → Option R), F115.loop1 k j row ws s4 s5 out (d : Int) (c : Int) p.1 p.2.1 p.2.2.1 p.2.2.2 e.1 e.2 0 0 (w : Int) (h : Int) (w : Int) (h : Int) out l e0 = e0 p.1 p.2.1 p.2.2.1 p.2.2.2 e.1 e.2 0 0 (w : Int) (h : Int) (w : Int) (h : Int) out l') ∧ l'.length = w * h ∧ pixP out l' := by
  intro n
  induction n with
  | zero =>
    intro c j l hn hc hj hl hx
    obtain ⟨j, rfl⟩ : ∃ j', j = j' + 1 := ⟨j - 1, by omega⟩
    refine ⟨l, fun e0 => ?_, hl, hx⟩
    rw [F115.loop1_s, decide_eq_false (by omega), cond_false]
  | succ n ih =>
    intro c j l hn hc hj hl hx
    obtain ⟨j, rfl⟩ : ∃ j', j = j' + 1 := ⟨j - 1, by omega⟩
    obtain ⟨s', h2⟩ := t10_2 hk hp e row hrow ws s4 hs4 hws d c ws.length 0 k 0 rfl (by omega) (by omega)
    obtain ⟨v, hv⟩ := shift_tot k s' hs5
    have hcl := clampv_in v (m := out) (by have := ho.1; omega)
    obtain ⟨pl1, pl2⟩ := place_ok hdm (show c < w by omega) hd
    obtain ⟨l', h3, h4, h5⟩ := ih (c + 1) j (l.set (d * w + c) (clampv v out)) (by omega) (by omega) (by omega) (by rw [List.length_set]; exact hl) (pixP_set hx hcl)
    refine ⟨l', fun e0 => ?_, h4, h5⟩
    have hdw := hdm.2.1
    rw [F115.loop1_s, decide_eq_true (by omega), cond_true]
    refine (h2 _).trans ?_
    rw [hv, Option.bind_some, rclamp_ok k _ (by have := ho.1; omega), Option.bind_some, pl1, if_pos (by omega), Int.toNat_natCast, List.getElem?_eq_getElem (by omega), Option.bind_some, w64_succ c (by omega)]
    exact h3 e0

theorem t10_0 {k : Nat} (hk : 4097 ≤ k) {p : Pl} (hp : planeP p) (e : Int × Int) {w h : Nat} (hdm : Dim w h) (row : List Int) (hrow : row.length ≤ 100) (ws : List Int) (s4 : Int) (hs4 : sP s4) (hws : ws.length ≤ 100) {s5 : Int} (hs5 : sP s5) {out : Int} (ho : vP out) : ∀ (n d j : Nat) (l : List Int), h - d = n → d ≤ h → n < j → l.length = w * h → pixP out l →
    ∃ l', (∀ {R : Type} (e0 : Int → Int → Int → (List Int) → Option R), F115.loop0 k j row ws s4 s5 out (d : Int) p.1 p.2.1 p.2.2.1 p.2.2.2 e.1 e.2 0 0 (w : Int) (h : Int) (w : Int) (h : Int) out l e0 = e0 (w : Int) (h : Int) out l') ∧ l'.length = w * h ∧ pixP out l' := by
  intro n
  induction n with
  | zero =>
    intro d j l hn hd hj hl hx
    obtain ⟨j, rfl⟩ : ∃ j', j = j' + 1 := ⟨j - 1, by omega⟩
    refine ⟨l, fun e0 => ?_, hl, hx⟩
    rw [F115.loop0_s, decide_eq_false (by omega), cond_false]
  | succ n ih =>
    intro d j l hn hd hj hl hx
    obtain ⟨j, rfl⟩ : ∃ j', j = j' + 1 := ⟨j - 1, by omega⟩
    have hdw := hdm.2.1
    have hdh := hdm.2.2.2.1
    obtain ⟨l1, h2, l2, l3⟩ := t10_1 hk hp e hdm row hrow ws s4 hs4 hws hs5 ho (d := d) (by omega) w 0 k l rfl (by omega) (by omega) hl hx
    obtain ⟨l', h3, h4, h5⟩ := ih (d + 1) j l1 (by omega) (by omega) (by omega) l2 l3
    refine ⟨l', fun e0 => ?_, h4, h5⟩
    rw [F115.loop0_s, decide_eq_true (by omega), cond_true]
    refine (h2 _).trans ?_
    rw [w64_succ d (by omega)]
    exact h3 e0

theorem m11_0 {k : Nat} {p : Pl} (hp : planeP p) (e : Int × Int) (t : Int × List Int) (ht : t.2.length ≤ 100) (y : Int) : ∀ (n i j : Nat) (s : Int), t.2.length - i = n → i ≤ t.2.length → n < j →
    ∃ s', ∀ {R : Type} (e0 : Int → Option R), F116.loop0 k j y s (i : Int) p.1 p.2.1 p.2.2.1 p.2.2.2 e.1 e.2 t.1 t.2 e0 = e0 s' := by
  intro n
  induction n with
  | zero =>
    intro i j s hn hi hj
    obtain ⟨j, rfl⟩ : ∃ j', j = j' + 1 := ⟨j - 1, by omega⟩
    refine ⟨s, fun e0 => ?_⟩
    rw [F116.loop0_s, decide_eq_false (by omega), cond_false]
  | succ n ih =>
    intro i j s hn hi hj
    obtain ⟨j, rfl⟩ : ∃ j', j = j' + 1 := ⟨j - 1, by omega⟩
    obtain ⟨v, hv⟩ := pixel_tot k hp e (w64 (t.1 + (i : Int))) y
    have hlt : i < t.2.length := by omega
    obtain ⟨s', h⟩ := ih (i + 1) j (w64 (s + (w64 (t.2[i] * v)))) (by omega) (by omega) (by omega)
    refine ⟨s', fun e0 => ?_⟩
    have hv' : F111 k (p.1, p.2.1, p.2.2.1, p.2.2.2) (e.1, e.2) (w64 (t.1 + (i : Int))) y = some ((v, ()), ()) := hv
    rw [F116.loop0_s, decide_eq_true (by omega), cond_true, if_pos (by omega), Int.toNat_natCast, List.getElem?_eq_getElem hlt, Option.bind_some, hv', Option.bind_some, w64_succ i (by omega)]
    exact h e0

theorem m11 {k : Nat} (hk : 4097 ≤ k) {p : Pl} (hp : planeP p) (e : Int × Int) (t : Int × List Int) (ht : t.2.length ≤ 100) {s4 : Int} (hs4 : sP s4) (y : Int) : ∃ v, F116 k p e t s4 y = some ((v, ()), ()) := by
  unfold F116
  obtain ⟨s', h⟩ := m11_0 (k := k) hp e t ht y t.2.length 0 k 0 rfl (by omega) (by omega)
  obtain ⟨v, hv⟩ := shift_tot k s' hs4
  refine ⟨v, (h _).trans ?_⟩
  rw [hv, Option.bind_some]

theorem t11_2 {k : Nat} (hk : 4097 ≤ k) {p : Pl} (hp : planeP p) (e : Int × Int) (xs ys : List (Int × List Int)) (s4 : Int) (hs4 : sP s4) (hxs : ∀ t ∈ xs, t.2.length ≤ 100) (hys : ∀ t ∈ ys, t.2.length ≤ 100) (d c : Nat) (hd : d < ys.length) (hc : c < xs.length) : ∀ (n i j : Nat) (s : Int), ys[d].2.length - i = n → i ≤ ys[d].2.length → n < j →
    ∃ s', ∀ {R : Type} (e0 : Int → Int → Int → Int → (List Int) → Int → Int → Option R), F117.loop2 k j xs ys s4 (d : Int) (c : Int) s (i : Int) p.1 p.2.1 p.2.2.1 p.2.2.2 e.1 e.2 e0 = e0 s' p.1 p.2.1 p.2.2.1 p.2.2.2 e.1 e.2 := by
  intro n
  have g1 := hys _ (List.getElem_mem hd)
  have gd : ys[((d : Nat) : Int).toNat]? = some ys[d] := by rw [Int.toNat_natCast, List.getElem?_eq_getElem hd]
  have gc : xs[((c : Nat) : Int).toNat]? = some xs[c] := by rw [Int.toNat_natCast, List.getElem?_eq_getElem hc]
  have pd : (0 : Int) ≤ (d : Int) := by omega
  have pc : (0 : Int) ≤ (c : Int) := by omega
  induction n with
  | zero =>
    intro i j s hn hi hj
    obtain ⟨j, rfl⟩ : ∃ j', j = j' + 1 := ⟨j - 1, by omega⟩
    refine ⟨s, fun e0 => ?_⟩
    rw [F117.loop2_s, if_pos pd, gd, Option.bind_some, decide_eq_false (by omega), cond_false]
  | succ n ih =>
    intro i j s hn hi hj
    obtain ⟨j, rfl⟩ : ∃ j', j = j' + 1 := ⟨j - 1, by omega⟩
    obtain ⟨v, hv⟩ := m11 hk hp e xs[c] (hxs _ (List.getElem_mem hc)) hs4 (w64 (ys[d].1 + (i : Int)))
    have hlt : i < ys[d].2.length := by omega
    obtain ⟨s', h⟩ := ih (i + 1) j (w64 (s + (w64 (ys[d].2[i] * v)))) (by omega) (by omega) (by omega)
    refine ⟨s', fun e0 => ?_⟩
    have hv' : F116 k (p.1, p.2.1, p.2.2.1, p.2.2.2) (e.1, e.2) xs[c] s4 (w64 (ys[d].1 + (i : Int))) = some ((v, ()), ()) := hv
    rw [F117.loop2_s]
    simp only [if_pos pd, if_pos pc, gd, gc, Option.bind_some]
    rw [decide_eq_true (by omega), cond_true, if_pos (by omega), Int.toNat_natCast, List.getElem?_eq_getElem hlt, Option.bind_some, hv', Option.bind_some, w64_succ i (by omega)]
    exact h e0

theorem t11_1 {k : Nat} (hk : 4097 ≤ k) {p : Pl} (hp : planeP p) (e : Int × Int) {w h : Nat} (hdm : Dim w h) (xs ys : List (Int × List Int)) (s4 : Int) (hs4 : sP s4) (hxs : ∀ t ∈ xs, t.2.length ≤ 100) (hys : ∀ t ∈ ys, t.2.length ≤ 100) (hw : w = xs.length) (hh : h = ys.length) {s5 : Int} (hs5 : sP s5) {out : Int} (ho : vP out) {d : Nat} (hd : d < h) : ∀ (n c j : Nat) (l : List Int), w - c = n → c ≤ w → n < j → l.length = w * h → pixP out l →
    ∃ l', (∀ {R : Type} (e0 : Int → Int → Int → (List Int) → Int → Int → Int → Int → Int → Int → Int → Int → Int → (List Int) → Option R), F117.loop1 k j xs ys s4 s5 out (d : Int) (c : Int) p.1 p.2.1 p.2.2.1 p.2.2.2 e.1 e.2 0 0 (w : Int) (h : Int) (w : Int) (h : Int) out l e0 = e0 p.1 p.2.1 p.2.2.1 p.2.2.2 e.1 e.2 0 0 (w : Int) (h : Int) (w : Int) (h : Int) out l') ∧ l'.length = w * h ∧ pixP out l' := by
  intro n
  induction n with
  | zero =>
    intro c j l hn hc hj hl hx
    obtain ⟨j, rfl⟩ : ∃ j', j = j' + 1 := ⟨j - 1, by omega⟩
    refine ⟨l, fun e0 => ?_, hl, hx⟩
    rw [F117.loop1_s, decide_eq_false (by omega), cond_false]
  | succ n ih =>
    intro c j l hn hc hj hl hx
    obtain ⟨j, rfl⟩ : ∃ j', j = j' + 1 := ⟨j - 1, by omega⟩
    obtain ⟨s', h2⟩ := t11_2 hk hp e xs ys s4 hs4 hxs hys d c (by omega) (by omega) (ys[d].2.length) 0 k 0 rfl (by omega) (by have := hys _ (List.getElem_mem (show d < ys.length by omega)); omega)
    obtain ⟨v, hv⟩ := shift_tot k s' hs5
    have hcl := clampv_in v (m := out) (by have := ho.1; omega)
    obtain ⟨pl1, pl2⟩ := place_ok hdm (show c < w by omega) hd
    obtain ⟨l', h3, h4, h5⟩ := ih (c + 1) j (l.set (d * w + c) (clampv v out)) (by omega) (by omega) (by omega) (by rw [List.length_set]; exact hl) (pixP_set hx hcl)
    refine ⟨l', fun e0 => ?_, h4, h5⟩
    have hdw := hdm.2.1
    rw [F117.loop1_s, decide_eq_true (by omega), cond_true]
    refine (h2 _).trans ?_
    rw [hv, Option.bind_some, rclamp_ok k _ (by have := ho.1; omega), Option.bind_some, pl1, if_pos (by omega), Int.toNat_natCast, List.getElem?_eq_getElem (by omega), Option.bind_some, w64_succ c (by omega)]
    exact h3 e0

theorem t11_0 {k : Nat} (hk : 4097 ≤ k) {p : Pl} (hp : planeP p) (e : Int × Int) {w h : Nat} (hdm : Dim w h) (xs ys : List (Int × List Int)) (s4 : Int) (hs4 : sP s4) (hxs : ∀ t ∈ xs, t.2.length ≤ 100) (hys : ∀ t ∈ ys, t.2.length ≤ 100) (hw : w = xs.length) (hh : h = ys.length) {s5 : Int} (hs5 : sP s5) {out : Int} (ho : vP out) : ∀ (n d j : Nat) (l : List Int), h - d = n → d ≤ h → n < j → l.length = w * h → pixP out l →
    ∃ l', (∀ {R : Type} (e0 : Int → Int → Int → (List Int) → Option R), F117.loop0 k j xs ys s4 s5 out (d : Int) p.1 p.2.1 p.2.2.1 p.2.2.2 e.1 e.2 0 0 (w : Int) (h : Int) (w : Int) (h : Int) out l e0 = e0 (w : Int) (h : Int) out l') ∧ l'.length = w * h ∧ pixP out l' := by
  intro n
  induction n with
  | zero =>
    intro d j l hn hd hj hl hx
    obtain ⟨j, rfl⟩ : ∃ j', j = j' + 1 := ⟨j - 1, by omega⟩
    refine ⟨l, fun e0 => ?_, hl, hx⟩
    rw [F117.loop0_s, decide_eq_false (by omega), cond_false]
  | succ n ih =>
    intro d j l hn hd hj hl hx
    obtain ⟨j, rfl⟩ : ∃ j', j = j' + 1 := ⟨j - 1, by omega⟩
    have hdw := hdm.2.1
    have hdh := hdm.2.2.2.1
    obtain ⟨l1, h2, l2, l3⟩ := t11_1 hk hp e hdm xs ys s4 hs4 hxs hys hw hh hs5 ho (d := d) (by omega) w 0 k l rfl (by omega) (by omega) hl hx
    obtain ⟨l', h3, h4, h5⟩ := ih (d + 1) j l1 (by omega) (by omega) (by omega) l2 l3
    refine ⟨l', fun e0 => ?_, h4, h5⟩
    rw [F117.loop0_s, decide_eq_true (by omega), cond_true]
    refine (h2 _).trans ?_
    rw [w64_succ d (by omega)]
    exact h3 e0


theorem sub0 {w : Nat} (h : w ≤ 128) : w64 ((w : Int) - 0) = w := by
  simp only [Int.sub_zero]
  exact w64_id (by omega) (by omega)

theorem ccode0 {m kw kh : Int} {ws : List Int} {s o : Int} (h : ccode m kw kh ws s o = 0) : kw ≠ 0 ∧ ws.length ≤ 100 ∧ sP s ∧ vP o := by
  unfold ccode at h
  by_cases h1 : ¬ kP kw ∨ ¬ kP kh ∨ (ws.length : Int) ≠ kw * kh
  · rw [if_pos h1] at h; omega
  rw [if_neg h1] at h
  by_cases h2 : ¬ wP ws ∨ ¬ sP s
  · rw [if_pos h2] at h; omega
  rw [if_neg h2] at h
  by_cases h3 : ¬ vP m ∨ ¬ vP o
  · rw [if_pos h3] at h; omega
  have k1 : kP kw := Decidable.byContradiction fun c => h1 (.inl c)
  have k2 : kP kh := Decidable.byContradiction fun c => h1 (.inr (.inl c))
  have k3 : (ws.length : Int) = kw * kh := Decidable.byContradiction fun c => h1 (.inr (.inr c))
  have k4 := (mul_le_of (show 0 ≤ kw by have := k1.1; omega) k1.2 (show 0 ≤ kh by have := k2.1; omega) k2.2).2
  exact ⟨by have := k1.1; omega, by omega, Decidable.byContradiction fun c => h2 (.inr c), Decidable.byContradiction fun c => h3 (.inr c)⟩

theorem scode0 {m : Int} {row col : List Int} {s s2 o : Int} (h : scode m row col s s2 o = 0) : row.length ≤ 100 ∧ col.length ≤ 100 ∧ sP s ∧ sP s2 ∧ vP o := by
  unfold scode at h
  by_cases h1 : ¬ kP row.length ∨ ¬ kP col.length
  · rw [if_pos h1] at h; omega
  rw [if_neg h1] at h
  by_cases h2 : ¬ wP row ∨ ¬ wP col ∨ ¬ sP s ∨ ¬ sP s2
  · rw [if_pos h2] at h; omega
  rw [if_neg h2] at h
  by_cases h3 : ¬ vP m ∨ ¬ vP o
  · rw [if_pos h3] at h; omega
  have k1 : kP row.length := Decidable.byContradiction fun c => h1 (.inl c)
  have k2 : kP col.length := Decidable.byContradiction fun c => h1 (.inr c)
  exact ⟨by have := k1.2; omega, by have := k2.2; omega, Decidable.byContradiction fun c => h2 (.inr (.inr (.inl c))), Decidable.byContradiction fun c => h2 (.inr (.inr (.inr c))), Decidable.byContradiction fun c => h3 (.inr c)⟩

theorem tgo0 {l : List Tp'} (h : tgo l = 0) : ∀ t ∈ l, t.2.length ≤ 100 := by
  induction l with
  | nil => intro t ht; cases ht
  | cons a l ih =>
    have e : tgo (a :: l) = if tcode a = 0 then tgo l else tcode a := rfl
    rw [e] at h
    by_cases h1 : tcode a = 0
    · rw [if_pos h1] at h
      intro t ht
      rcases List.mem_cons.1 ht with rfl | ht
      · unfold tcode at h1
        by_cases h2 : t.2.length = 0 ∨ 8 < t.2.length
        · rw [if_pos h2] at h1; omega
        · omega
      · exact ih h t ht
    · rw [if_neg h1] at h; exact absurd h h1

theorem tvcode0 {l : List Tp'} {n : Int} (h : tvcode l n = 0) : (1 ≤ l.length ∧ l.length ≤ 128) ∧ ∀ t ∈ l, t.2.length ≤ 100 := by
  unfold tvcode at h
  by_cases h1 : ¬ lP n ∨ ¬ lP l.length
  · rw [if_pos h1] at h; omega
  rw [if_neg h1] at h
  have k : lP l.length := Decidable.byContradiction fun c => h1 (.inr c)
  exact ⟨⟨by have := k.1; omega, by have := k.2; omega⟩, tgo0 h⟩

theorem zcode0 {sh : Int × Int × Int} {x y : List Tp'} {s s2 o : Int} (h : zcode sh x y s s2 o = 0) : Dim x.length y.length ∧ (∀ t ∈ x, t.2.length ≤ 100) ∧ (∀ t ∈ y, t.2.length ≤ 100) ∧ sP s ∧ sP s2 ∧ vP o := by
  unfold zcode at h
  by_cases h1 : tvcode x sh.1 ≠ 0
  · rw [if_pos h1] at h; exact absurd h h1
  rw [if_neg h1] at h
  by_cases h2 : tvcode y sh.2.1 ≠ 0
  · rw [if_pos h2] at h; exact absurd h h2
  rw [if_neg h2] at h
  by_cases h3 : 4096 < x.length * y.length
  · rw [if_pos h3] at h; omega
  rw [if_neg h3] at h
  by_cases h4 : ¬ sP s ∨ ¬ sP s2
  · rw [if_pos h4] at h; omega
  rw [if_neg h4] at h
  by_cases h5 : ¬ vP sh.2.2 ∨ ¬ vP o
  · rw [if_pos h5] at h; omega
  obtain ⟨a1, a2⟩ := tvcode0 (Decidable.byContradiction h1)
  obtain ⟨b1, b2⟩ := tvcode0 (Decidable.byContradiction h2)
  exact ⟨⟨a1.1, a1.2, b1.1, b1.2, by omega⟩, a2, b2, Decidable.byContradiction fun c => h4 (.inl c), Decidable.byContradiction fun c => h4 (.inr c), Decidable.byContradiction fun c => h5 (.inr c)⟩

theorem t9_ok {k : Nat} (hk : 4097 ≤ k) {p : Pl} (hp : planeP p) {e : Int × Int} (he : edgeB e p.2.2.1 = true) {kw kh : Int} {ws : List Int} {s out : Int} (hc : ccode p.2.2.1 kw kh ws s out = 0) :
    ∃ l, F113 k p e kw kh ws s out (0, 0, p.1, p.2.1) = some (((p.1, p.2.1, out, l), 0, ()), ()) ∧ planeP (p.1, p.2.1, out, l) := by
  obtain ⟨h1, h2, h3, h4⟩ := ccode0 hc
  obtain ⟨hd, e1, e2, e3⟩ := plane_dim hp
  obtain ⟨l, g1, g2, g3⟩ := t9_0 hk hp e hd kw kh h1 ws h2 h3 h4 p.2.1.toNat 0 k (List.replicate (p.1.toNat * p.2.1.toNat) 0) rfl (by omega) (by have := hd.2.2.2.1; omega) (by simp) (pixP_zeros _ (by have := h4.1; omega))
  have g4 := plane_of hd h4 g2 g3
  have c := full_cover k hd
  have nw := rnew_ok k hd h4
  rw [e1, e2] at g1 g4 c nw
  refine ⟨l, ?_, g4⟩
  unfold F113 F97
  rw [rplane_ok k hk, Option.bind_some, decide_eq_true hp, Bool.not_true, cond_false, redge_ok, Option.bind_some, he, Bool.not_true, cond_false, rconv_ok k (by omega), Option.bind_some]
  simp only [hc]
  rw [show ((0 : Int) != 0) = false from rfl, cond_false, c.1, Option.bind_some, Bool.not_true, cond_false, Option.bind_some, c.2, Option.bind_some, Bool.not_true, cond_false]
  have z1 : w64 (p.1 - 0) = p.1 := by rw [← e1]; exact sub0 hd.2.1
  have z2 : w64 (p.2.1 - 0) = p.2.1 := by rw [← e2]; exact sub0 hd.2.2.2.1
  rw [z1, z2, nw, Option.bind_some]
  exact g1 _

theorem t10_ok {k : Nat} (hk : 4097 ≤ k) {p : Pl} (hp : planeP p) {e : Int × Int} (he : edgeB e p.2.2.1 = true) {row col : List Int} {s s2 out : Int} (hc : scode p.2.2.1 row col s s2 out = 0) :
    ∃ l, F115 k p e row col s s2 out (0, 0, p.1, p.2.1) = some (((p.1, p.2.1, out, l), 0, ()), ()) ∧ planeP (p.1, p.2.1, out, l) := by
  obtain ⟨h1, h2, h3, h3', h4⟩ := scode0 hc
  obtain ⟨hd, e1, e2, e3⟩ := plane_dim hp
  obtain ⟨l, g1, g2, g3⟩ := t10_0 hk hp e hd row h1 col s h3 h2 h3' h4 p.2.1.toNat 0 k (List.replicate (p.1.toNat * p.2.1.toNat) 0) rfl (by omega) (by have := hd.2.2.2.1; omega) (by simp) (pixP_zeros _ (by have := h4.1; omega))
  have g4 := plane_of hd h4 g2 g3
  have c := full_cover k hd
  have nw := rnew_ok k hd h4
  rw [e1, e2] at g1 g4 c nw
  refine ⟨l, ?_, g4⟩
  unfold F115 F97
  rw [rplane_ok k hk, Option.bind_some, decide_eq_true hp, Bool.not_true, cond_false, redge_ok, Option.bind_some, he, Bool.not_true, cond_false, rsep_ok k (by omega), Option.bind_some]
  simp only [hc]
  rw [show ((0 : Int) != 0) = false from rfl, cond_false, c.1, Option.bind_some, Bool.not_true, cond_false, Option.bind_some, c.2, Option.bind_some, Bool.not_true, cond_false]
  have z1 : w64 (p.1 - 0) = p.1 := by rw [← e1]; exact sub0 hd.2.1
  have z2 : w64 (p.2.1 - 0) = p.2.1 := by rw [← e2]; exact sub0 hd.2.2.2.1
  rw [z1, z2, nw, Option.bind_some]
  exact g1 _

theorem t11_ok {k : Nat} (hk : 4097 ≤ k) {p : Pl} (hp : planeP p) {e : Int × Int} (he : edgeB e p.2.2.1 = true) {x y : List (Int × List Int)} {s s2 out : Int} (hc : zcode (p.1, p.2.1, p.2.2.1) x y s s2 out = 0) :
    ∃ l, F117 k p e x y s s2 out (0, 0, (x.length : Int), (y.length : Int)) = some ((((x.length : Int), (y.length : Int), out, l), 0, ()), ()) ∧ planeP ((x.length : Int), (y.length : Int), out, l) := by
  obtain ⟨hd, h1, h2, h3, h3', h4⟩ := zcode0 hc
  obtain ⟨l, g1, g2, g3⟩ := t11_0 hk hp e hd x y s h3 h1 h2 rfl rfl h3' h4 y.length 0 k (List.replicate (x.length * y.length) 0) rfl (by omega) (by have := hd.2.2.2.1; omega) (by simp) (pixP_zeros _ (by have := h4.1; omega))
  have g4 := plane_of hd h4 g2 g3
  have c := full_cover k hd
  have nw := rnew_ok k hd h4
  refine ⟨l, ?_, g4⟩
  unfold F117
  rw [rplane_ok k hk, Option.bind_some, decide_eq_true hp, Bool.not_true, cond_false, redge_ok, Option.bind_some, he, Bool.not_true, cond_false, rres_ok k (by omega), Option.bind_some]
  simp only [hc]
  rw [show ((0 : Int) != 0) = false from rfl, cond_false, c.1, Option.bind_some, Bool.not_true, cond_false, c.2, Option.bind_some, Bool.not_true, cond_false]
  rw [sub0 hd.2.1, sub0 hd.2.2.2.1, nw, Option.bind_some]
  exact g1 _
end Go.Lf.T

import Derived.Test.YtagpgomkblgooaaGreatLfP15g
/-! Lf: the references of chapters 12 and 13 over whole planes, the stage of chapter 18, and ShapeSound. -/
set_option linter.unusedVariables false
set_option maxRecDepth 100000
namespace Go.Lf.T
open Go Go.Lf

theorem bin_ok (k : Nat) {v m b : Int} (hv : 0 ≤ v ∧ v ≤ m) (hm : 1 ≤ m ∧ m ≤ 4294967296) (hb : 1 ≤ b ∧ b ≤ 128) : ∃ r, F103 k v m b = some ((r, ()), ()) ∧ 0 ≤ r ∧ r < b := by
  unfold F103
  have h0 : 0 ≤ v * b := Int.mul_nonneg hv.1 (by omega)
  have h1 : v * b ≤ m * b := Int.mul_le_mul_of_nonneg_right hv.2 (by omega)
  have h2 : m * b ≤ 4294967296 * 128 := (mul_le_of (show 0 ≤ m by omega) hm.2 (show 0 ≤ b by omega) hb.2).2
  rw [decide_eq_false (p := m < 1) (by omega), decide_eq_false (p := m > 4294967296) (by omega), decide_eq_false (p := v < 0) (by omega), decide_eq_false (p := v > m) (by omega), cond_false, cond_false, cond_false, cond_false, r12_ok, Option.bind_some, decide_eq_true hb, Bool.not_true, cond_false, w64_id (n := m + 1) (by omega) (by omega), w64_id (n := v * b) (by omega) (by omega), if_neg (by omega)]
  have g : (v * b).tdiv (m + 1) = v * b / (m + 1) := Int.tdiv_eq_ediv_of_nonneg h0
  have g1 : 0 ≤ v * b / (m + 1) := Int.ediv_nonneg h0 (by omega)
  have g2 : v * b / (m + 1) < b := by
    apply Int.ediv_lt_of_lt_mul (by omega)
    rw [Int.mul_add, Int.mul_one, Int.mul_comm b m]
    omega
  rw [g, w64_id (by omega) (by omega)]
  exact ⟨_, rfl, g1, g2⟩

theorem pix_at {p : Pl} (hp : planeP p) {w h : Nat} (hw : (w : Int) = p.1) (hh : (h : Int) = p.2.1) {c d : Nat} (hc : c < w) (hd : d < h) : w64 (w64 ((d : Int) * p.1) + (c : Int)) = ((d * w + c : Nat) : Int) ∧ d * w + c < w * h ∧ w * h = p.2.2.2.length := by
  obtain ⟨⟨s1, s2, s3, s4, s5, s6, s7⟩, hl, _⟩ := hp
  have hN : d * w ≤ 128 * 128 := Nat.mul_le_mul (by omega) (by omega)
  have hM : (d + 1) * w ≤ h * w := Nat.mul_le_mul (by omega) (Nat.le_refl _)
  rw [Nat.add_mul, Nat.one_mul, Nat.mul_comm h] at hM
  have e1 : (d : Int) * (w : Int) = ((d * w : Nat) : Int) := by simp
  have e2 : (w : Int) * (h : Int) = ((w * h : Nat) : Int) := by simp
  rw [← hw, e1, w64_id (n := ((d * w : Nat) : Int)) (by omega) (by omega), w64_id (n := ((d * w : Nat) : Int) + (c : Int)) (by omega) (by omega)]
  rw [← hw, ← hh, e2] at hl
  exact ⟨by simp, by omega, by omega⟩

theorem pix_get {p : Pl} (hp : planeP p) {i : Nat} (hi : i < p.2.2.2.length) : ∃ v, p.2.2.2[i]? = some v ∧ 0 ≤ v ∧ v ≤ p.2.2.1 := by
  rw [List.getElem?_eq_getElem hi]
  exact ⟨_, rfl, hp.2.2 _ (List.getElem_mem _)⟩

/-! ### The histogram -/
theorem h12_1 (k : Nat) {p : Pl} (hp : planeP p) {w h : Nat} (hw : (w : Int) = p.1) (hh : (h : Int) = p.2.1) {b : Int} (hb : 1 ≤ b ∧ b ≤ 128) {d : Nat} (hd : d < h) : ∀ (n c j : Nat) (l : List Int), w - c = n → c ≤ w → n < j → (l.length : Int) = b → pixP ((d * w + c : Nat) : Int) l →
    ∃ l', (∀ {R : Type} (e0 : Int → Int → Int → (List Int) → Int → Int → Int → Int → (List Int) → Option R), F104.loop1 k j b (d : Int) (c : Int) p.1 p.2.1 p.2.2.1 p.2.2.2 0 0 p.1 p.2.1 l e0 = e0 p.1 p.2.1 p.2.2.1 p.2.2.2 0 0 p.1 p.2.1 l') ∧ (l'.length : Int) = b ∧ pixP (((d + 1) * w : Nat) : Int) l' := by
  have hs := hp.1
  have hw2 : w ≤ 128 := by have := hs.2.1; omega
  have hh2 : h ≤ 128 := by have := hs.2.2.2.1; omega
  intro n
  induction n with
  | zero =>
    intro c j l hn hc hj hl hx
    obtain ⟨j, rfl⟩ : ∃ j', j = j' + 1 := ⟨j - 1, by omega⟩
    refine ⟨l, fun e0 => ?_, hl, ?_⟩
    · rw [F104.loop1_s, decide_eq_false (by omega), cond_false]
    · rw [Nat.add_mul, Nat.one_mul]
      rw [show c = w by omega] at hx
      exact hx
  | succ n ih =>
    intro c j l hn hc hj hl hx
    obtain ⟨j, rfl⟩ : ∃ j', j = j' + 1 := ⟨j - 1, by omega⟩
    obtain ⟨a1, a2, a3⟩ := pix_at hp hw hh (show c < w by omega) hd
    obtain ⟨v, hv, hv2⟩ := pix_get hp (i := d * w + c) (by omega)
    obtain ⟨r, hr, r1, r2⟩ := bin_ok k hv2 ⟨hs.2.2.2.2.2.1, hs.2.2.2.2.2.2⟩ hb
    have hrl : r.toNat < l.length := by omega
    have hN : d * w ≤ 128 * 128 := Nat.mul_le_mul (by omega) hw2
    have hx1 := hx _ (List.getElem_mem hrl)
    obtain ⟨l', h3, h4, h5⟩ := ih (c + 1) j (l.set r.toNat (l[r.toNat] + 1)) (by omega) (by omega) (by omega) (by rw [List.length_set]; exact hl) (pixP_set (pixP_mono hx (by omega)) (by omega))
    refine ⟨l', fun e0 => ?_, h4, h5⟩
    rw [F104.loop1_s, decide_eq_true (by omega), cond_true, a1, if_pos (by omega), Int.toNat_natCast, hv, Option.bind_some, hr]
    simp only [Option.bind_some]
    rw [if_pos (by omega), List.getElem?_eq_getElem hrl]
    simp only [Option.bind_some]
    rw [if_pos (by omega), w64_succ c (by omega), w64_id (n := l[r.toNat] + 1) (by omega) (by omega)]
    exact h3 e0

theorem h12_0 (k : Nat) (hk : 4097 ≤ k) {p : Pl} (hp : planeP p) {w h : Nat} (hw : (w : Int) = p.1) (hh : (h : Int) = p.2.1) {b : Int} (hb : 1 ≤ b ∧ b ≤ 128) : ∀ (n d j : Nat) (l : List Int), h - d = n → d ≤ h → n < j → (l.length : Int) = b → pixP ((d * w : Nat) : Int) l →
    ∃ l', (∀ {R : Type} (e0 : (List Int) → Option R), F104.loop0 k j b (d : Int) p.1 p.2.1 p.2.2.1 p.2.2.2 0 0 p.1 p.2.1 l e0 = e0 l') ∧ (l'.length : Int) = b ∧ pixP ((h * w : Nat) : Int) l' := by
  have hs := hp.1
  have hw2 : w ≤ 128 := by have := hs.2.1; omega
  have hh2 : h ≤ 128 := by have := hs.2.2.2.1; omega
  intro n
  induction n with
  | zero =>
    intro d j l hn hd hj hl hx
    obtain ⟨j, rfl⟩ : ∃ j', j = j' + 1 := ⟨j - 1, by omega⟩
    refine ⟨l, fun e0 => ?_, hl, ?_⟩
    · rw [F104.loop0_s, decide_eq_false (by omega), cond_false]
    · rw [show d = h by omega] at hx; exact hx
  | succ n ih =>
    intro d j l hn hd hj hl hx
    obtain ⟨j, rfl⟩ : ∃ j', j = j' + 1 := ⟨j - 1, by omega⟩
    obtain ⟨l1, h2, l2, l3⟩ := h12_1 k hp hw hh hb (d := d) (by omega) w 0 k l rfl (by omega) (by omega) hl hx
    obtain ⟨l', h3, h4, h5⟩ := ih (d + 1) j l1 (by omega) (by omega) (by omega) l2 l3
    refine ⟨l', fun e0 => ?_, h4, h5⟩
    rw [F104.loop0_s, decide_eq_true (by omega), cond_true]
    refine (h2 _).trans ?_
    rw [w64_succ d (by omega)]
    exact h3 e0

theorem h12_ok {k : Nat} (hk : 4097 ≤ k) {p : Pl} (hp : planeP p) {b : Int} (hb : 1 ≤ b ∧ b ≤ 128) :
    ∃ l, F105 k p b = some (((b, 1, w64 (p.1 * p.2.1), l), 0, ()), ()) ∧ planeP (b, 1, w64 (p.1 * p.2.1), l) := by
  obtain ⟨hd, e1, e2, e3⟩ := plane_dim hp
  have hs := hp.1
  obtain ⟨l, g1, g2, g3⟩ := h12_0 k hk hp e1 e2 hb p.2.1.toNat 0 k (List.replicate b.toNat 0) rfl (by omega) (by have := hd.2.2.2.1; omega) (by simp; omega) (by rw [Nat.zero_mul]; exact pixP_zeros _ (by omega))
  have c := full_cover k hd
  rw [e1, e2] at c
  have hm : ((p.2.1.toNat * p.1.toNat : Nat) : Int) = p.1 * p.2.1 := by rw [Nat.mul_comm, Int.natCast_mul, e1, e2]
  have hpos : 1 * 1 ≤ p.1 * p.2.1 := (mul_le_of (show (0 : Int) ≤ 1 by omega) hs.1 (show (0 : Int) ≤ 1 by omega) hs.2.2.1).2
  have h4 := hs.2.2.2.2.1
  rw [hm] at g3
  rw [w64_id (n := p.1 * p.2.1) (by omega) (by omega)]
  refine ⟨l, ?_, ⟨hb.1, hb.2, by show (1 : Int) ≤ 1; omega, by show (1 : Int) ≤ 128; omega, by show b * 1 ≤ 4096; omega, by show 1 ≤ p.1 * p.2.1; omega, by show p.1 * p.2.1 ≤ 4294967296; omega⟩, by show (l.length : Int) = b * 1; omega, g3⟩
  unfold F105 F104 F97
  rw [Option.bind_some, rplane_ok k hk, Option.bind_some, decide_eq_true hp, Bool.not_true, cond_false, r12_ok, Option.bind_some, decide_eq_true hb, Bool.not_true, cond_false, c.1, Option.bind_some, Bool.not_true, cond_false, Option.bind_some, c.2, Option.bind_some, Bool.not_true, cond_false, if_pos (by omega)]
  have g1' := g1 (fun (z15 : List Int) => (some ((z15, (0 : Int), ()), ())))
  simp only at g1' ⊢
  rw [show ((0 : Nat) : Int) = 0 from rfl] at g1'
  rw [g1', Option.bind_some]
  rw [w64_id (n := p.1 * p.2.1) (by omega) (by omega)]
  rfl

/-! ### The integral -/
def invP (w : Nat) (wm : Int) (l : List Int) : Prop := ∀ i, (h : i < l.length) → 0 ≤ l[i] ∧ l[i] ≤ ((i / w + 1 : Nat) : Int) * wm
theorem invP_set {w : Nat} {wm : Int} {l : List Int} (h : invP w wm l) (i : Nat) {v : Int} (h1 : 0 ≤ v) (h2 : v ≤ ((i / w + 1 : Nat) : Int) * wm) : invP w wm (l.set i v) := by
  intro a ha
  rw [List.getElem_set]
  by_cases e : i = a
  · subst e; rw [if_pos rfl]; exact ⟨h1, h2⟩
  · rw [if_neg e]; exact h a (by rw [List.length_set] at ha; exact ha)

theorem row_le {d h : Nat} {wm : Int} (h0 : 0 ≤ wm) (hd : d ≤ h) (hb : (h : Int) * wm ≤ 4294967296) : 0 ≤ (d : Int) * wm ∧ (d : Int) * wm ≤ 4294967296 := by
  have := mul_le_of (show (0 : Int) ≤ d by omega) (show (d : Int) ≤ h by omega) h0 (Int.le_refl wm)
  omega

theorem div_at {w c d : Nat} (hc : c < w) : (d * w + c) / w = d := by
  rw [Nat.mul_comm, Nat.mul_add_div (by omega), Nat.div_eq_of_lt hc, Nat.add_zero]

theorem i13_1 (k : Nat) {p : Pl} (hp : planeP p) {w h : Nat} (hw : (w : Int) = p.1) (hh : (h : Int) = p.2.1) (hb : (h : Int) * ((w : Int) * p.2.2.1) ≤ 4294967296) (q1 q2 q3 : Int) {d : Nat} (hd : d < h) : ∀ (n c j : Nat) (s : Int) (l : List Int), w - c = n → c ≤ w → n < j → l.length = w * h → invP w ((w : Int) * p.2.2.1) l → 0 ≤ s → s ≤ (c : Int) * p.2.2.1 →
    ∃ l', (∀ {R : Type} (e0 : Int → Int → Int → (List Int) → Int → Int → Int → (List Int) → Option R), F108.loop1 k j (d : Int) s (c : Int) p.1 p.2.1 p.2.2.1 p.2.2.2 q1 q2 q3 l e0 = e0 p.1 p.2.1 p.2.2.1 p.2.2.2 q1 q2 q3 l') ∧ l'.length = w * h ∧ invP w ((w : Int) * p.2.2.1) l' := by
  have hs := hp.1
  have hw2 : w ≤ 128 := by have := hs.2.1; omega
  have hh2 : h ≤ 128 := by have := hs.2.2.2.1; omega
  have hm1 := hs.2.2.2.2.2.1
  have hwm : 0 ≤ (w : Int) * p.2.2.1 := Int.mul_nonneg (by omega) (by omega)
  intro n
  induction n with
  | zero =>
    intro c j s l hn hc hj hl hx h0 h1
    obtain ⟨j, rfl⟩ : ∃ j', j = j' + 1 := ⟨j - 1, by omega⟩
    refine ⟨l, fun e0 => ?_, hl, hx⟩
    rw [F108.loop1_s, decide_eq_false (by omega), cond_false]
  | succ n ih =>
    intro c j s l hn hc hj hl hx h0 h1
    obtain ⟨j, rfl⟩ : ∃ j', j = j' + 1 := ⟨j - 1, by omega⟩
    obtain ⟨a1, a2, a3⟩ := pix_at hp hw hh (show c < w by omega) hd
    obtain ⟨v, hv, hv2⟩ := pix_get hp (i := d * w + c) (by omega)
    have k1 : s + v ≤ ((c + 1 : Nat) : Int) * p.2.2.1 := by
      rw [show ((c + 1 : Nat) : Int) = (c : Int) + 1 from rfl, Int.add_mul, Int.one_mul]; omega
    have k2 : ((c + 1 : Nat) : Int) * p.2.2.1 ≤ (w : Int) * p.2.2.1 := Int.mul_le_mul_of_nonneg_right (by omega) (by omega)
    have k3 := row_le hwm (show d ≤ h by omega) hb
    have k4 := row_le hwm (show d + 1 ≤ h by omega) hb
    have k5 : ((d + 1 : Nat) : Int) * ((w : Int) * p.2.2.1) = (d : Int) * ((w : Int) * p.2.2.1) + (w : Int) * p.2.2.1 := by
      rw [show ((d + 1 : Nat) : Int) = (d : Int) + 1 from rfl, Int.add_mul, Int.one_mul]
    have dv := div_at (d := d) (show c < w by omega)
    have hi1 : invP w ((w : Int) * p.2.2.1) (l.set (d * w + c) (s + v)) := invP_set hx _ (by omega) (by rw [dv]; omega)
    have hlt : d * w + c < l.length := by omega
    have hset : (l.set (d * w + c) (s + v)).length = w * h := by rw [List.length_set]; exact hl
    have cc : (c : Int) < p.1 := by omega
    by_cases h0d : d = 0
    · subst h0d
      obtain ⟨l', h3, h4, h5⟩ := ih (c + 1) j (s + v) (l.set (0 * w + c) (s + v)) (by omega) (by omega) (by omega) hset hi1 (by omega) k1
      refine ⟨l', fun e0 => ?_, h4, h5⟩
      rw [F108.loop1_s, decide_eq_true cc, cond_true, a1, if_pos (by omega), Int.toNat_natCast, hv, Option.bind_some, if_pos (by omega), List.getElem?_eq_getElem hlt, Option.bind_some, decide_eq_false (by omega), cond_false, w64_id (n := s + v) (by omega) (by omega), w64_succ c (by omega)]
      exact h3 e0
    · obtain ⟨b1, b2, b3⟩ := pix_at hp hw hh (show c < w by omega) (show d - 1 < h by omega)
      have eb : ((d - 1 : Nat) : Int) = (d : Int) - 1 := by omega
      rw [eb] at b1
      have dv2 := div_at (d := d - 1) (show c < w by omega)
      have hx2 := hx ((d - 1) * w + c) (by omega)
      rw [dv2, show d - 1 + 1 = d by omega] at hx2
      have hne : (d - 1) * w + c < d * w + c := by
        have : (d - 1) * w + w = d * w := by
          have := Nat.add_mul (d - 1) 1 w
          rw [Nat.one_mul, show d - 1 + 1 = d by omega] at this
          exact this.symm
        omega
      have hlt2 : (d - 1) * w + c < l.length := by omega
      obtain ⟨l', h3, h4, h5⟩ := ih (c + 1) j (s + v) ((l.set (d * w + c) (s + v)).set (d * w + c) (s + v + l[(d - 1) * w + c])) (by omega) (by omega) (by omega) (by rw [List.length_set]; exact hset) (invP_set hi1 _ (by omega) (by rw [dv]; omega)) (by omega) k1
      refine ⟨l', fun e0 => ?_, h4, h5⟩
      have g1 : (l.set (d * w + c) (s + v))[d * w + c]? = some (s + v) := by rw [List.getElem?_set_self hlt]
      have g2 : (l.set (d * w + c) (s + v))[(d - 1) * w + c]? = some l[(d - 1) * w + c] := by rw [List.getElem?_set_ne (by omega), List.getElem?_eq_getElem hlt2]
      rw [F108.loop1_s, decide_eq_true cc, cond_true, a1, if_pos (by omega), Int.toNat_natCast, hv, Option.bind_some, if_pos (by omega), List.getElem?_eq_getElem hlt, Option.bind_some, decide_eq_true (by omega), cond_true, w64_id (n := s + v) (by omega) (by omega), w64_succ c (by omega), w64_id (n := (d : Int) - 1) (by omega) (by omega), b1, if_pos (by omega), g1, Option.bind_some, if_pos (by omega), Int.toNat_natCast, g2, Option.bind_some, if_pos (by omega), Option.bind_some, w64_id (n := s + v + l[(d - 1) * w + c]) (by omega) (by omega)]
      exact h3 e0

theorem i13_0 (k : Nat) (hk : 4097 ≤ k) {p : Pl} (hp : planeP p) {w h : Nat} (hw : (w : Int) = p.1) (hh : (h : Int) = p.2.1) (hb : (h : Int) * ((w : Int) * p.2.2.1) ≤ 4294967296) (q1 q2 q3 : Int) : ∀ (n d j : Nat) (l : List Int), h - d = n → d ≤ h → n < j → l.length = w * h → invP w ((w : Int) * p.2.2.1) l →
    ∃ l', (∀ {R : Type} (e0 : Int → Int → Int → (List Int) → Option R), F108.loop0 k j (d : Int) p.1 p.2.1 p.2.2.1 p.2.2.2 q1 q2 q3 l e0 = e0 q1 q2 q3 l') ∧ l'.length = w * h ∧ invP w ((w : Int) * p.2.2.1) l' := by
  have hs := hp.1
  have hw2 : w ≤ 128 := by have := hs.2.1; omega
  have hh2 : h ≤ 128 := by have := hs.2.2.2.1; omega
  intro n
  induction n with
  | zero =>
    intro d j l hn hd hj hl hx
    obtain ⟨j, rfl⟩ : ∃ j', j = j' + 1 := ⟨j - 1, by omega⟩
    refine ⟨l, fun e0 => ?_, hl, hx⟩
    rw [F108.loop0_s, decide_eq_false (by omega), cond_false]
  | succ n ih =>
    intro d j l hn hd hj hl hx
    obtain ⟨j, rfl⟩ : ∃ j', j = j' + 1 := ⟨j - 1, by omega⟩
    obtain ⟨l1, h2, l2, l3⟩ := i13_1 k hp hw hh hb q1 q2 q3 (d := d) (by omega) w 0 k 0 l rfl (by omega) (by omega) hl hx (Int.le_refl _) (by simp)
    obtain ⟨l', h3, h4, h5⟩ := ih (d + 1) j l1 (by omega) (by omega) (by omega) l2 l3
    refine ⟨l', fun e0 => ?_, h4, h5⟩
    rw [F108.loop0_s, decide_eq_true (by omega), cond_true]
    refine (h2 _).trans ?_
    rw [w64_succ d (by omega)]
    exact h3 e0

theorem i13_ok {k : Nat} (hk : 4097 ≤ k) {p : Pl} (hp : planeP p) (hm : mostP (p.1, p.2.1, p.2.2.1)) :
    ∃ l, F108 k p = some (((p.1, p.2.1, p.1 * p.2.1 * p.2.2.1, l), 0, ()), ()) ∧ planeP (p.1, p.2.1, p.1 * p.2.1 * p.2.2.1, l) := by
  obtain ⟨hd, e1, e2, e3⟩ := plane_dim hp
  have hs := hp.1
  obtain ⟨m1, m2, m3, m4, m5⟩ := hm
  have eq1 : (p.2.1.toNat : Int) * ((p.1.toNat : Int) * p.2.2.1) = p.1 * p.2.1 * p.2.2.1 := by
    rw [e1, e2, ← Int.mul_assoc, Int.mul_comm p.2.1 p.1]
  have m5' : p.1 * p.2.1 * p.2.2.1 ≤ 4294967296 := m5
  have hpos : 1 * 1 ≤ p.1 * p.2.1 := (mul_le_of (show (0 : Int) ≤ 1 by omega) hs.1 (show (0 : Int) ≤ 1 by omega) hs.2.2.1).2
  have hpos2 : 1 * 1 ≤ p.1 * p.2.1 * p.2.2.1 := (mul_le_of (show (0 : Int) ≤ 1 by omega) (show 1 ≤ p.1 * p.2.1 by omega) (show (0 : Int) ≤ 1 by omega) hs.2.2.2.2.2.1).2
  have ho : vP (p.1 * p.2.1 * p.2.2.1) := ⟨by omega, m5'⟩
  have hwm : 0 ≤ (p.1.toNat : Int) * p.2.2.1 := Int.mul_nonneg (by omega) (by have := hs.2.2.2.2.2.1; omega)
  obtain ⟨l, g1, g2, g3⟩ := i13_0 k hk hp e1 e2 (by rw [eq1]; exact m5') p.1 p.2.1 (p.1 * p.2.1 * p.2.2.1) p.2.1.toNat 0 k (List.replicate (p.1.toNat * p.2.1.toNat) 0) rfl (by omega) (by have := hd.2.2.2.1; omega) (by simp) (by
    intro i hi
    rw [List.getElem_replicate]
    exact ⟨Int.le_refl _, Int.mul_nonneg (Int.natCast_nonneg _) hwm⟩)
  have nw := rnew_ok k hd ho
  have g4 := plane_of hd ho g2 (by
    intro x hx
    obtain ⟨i, hi, rfl⟩ := List.getElem_of_mem hx
    obtain ⟨y1, y2⟩ := g3 i hi
    refine ⟨y1, Int.le_trans y2 ?_⟩
    rw [← eq1]
    refine Int.mul_le_mul_of_nonneg_right ?_ hwm
    have : i / p.1.toNat < p.2.1.toNat := by
      apply Nat.div_lt_of_lt_mul
      omega
    omega)
  rw [e1, e2] at g4 nw
  refine ⟨l, ?_, g4⟩
  obtain ⟨v, hv, hv2⟩ := rmost_ok k (p.1, p.2.1, p.2.2.1)
  have hm' : mostP (p.1, p.2.1, p.2.2.1) := ⟨m1, m2, m3, m4, m5⟩
  have hv3 : v = p.1 * p.2.1 * p.2.2.1 := hv2 hm'
  unfold F108 F106
  rw [rplane_ok k hk, Option.bind_some, decide_eq_true hp, Bool.not_true, cond_false, hv, Option.bind_some, decide_eq_true hm', Bool.not_true, cond_false, Option.bind_some, hv3]
  simp only
  rw [show ((0 : Int) != 0) = false from rfl, cond_false, nw, Option.bind_some]
  exact g1 _

/-! ### Pointwise -/
theorem t14_ok {k : Nat} (hk : 4097 ≤ k) {p q : Pl} {s : Sg} (hp : planeP p) (hq : twoB s = true → planeP q) (hc : pcode s (p.1, p.2.1, p.2.2.1) (q.1, q.2.1, q.2.2.1) = 0) :
    ∃ l, F121 k p q (twoB s) s.ops s.mx (0, 0, p.1, p.2.1) = some (((p.1, p.2.1, s.mx, l), 0, ()), ()) ∧ planeP (p.1, p.2.1, s.mx, l) := by
  unfold pcode at hc
  by_cases h1 : icode s.ops (twoB s) p.2.2.1 q.2.2.1 s.mx ≠ 0
  · rw [if_pos h1] at hc; exact absurd hc h1
  rw [if_neg h1] at hc
  by_cases h2 : twoB s = true ∧ (p.1 ≠ q.1 ∨ p.2.1 ≠ q.2.1)
  · rw [if_pos h2] at hc; omega
  have h1' : icode s.ops (twoB s) p.2.2.1 q.2.2.1 s.mx = 0 := Decidable.byContradiction h1
  unfold icode at h1'
  by_cases h3 : vcode s.ops (twoB s) ≠ 0
  · rw [if_pos h3] at h1'; exact absurd h1' h3
  rw [if_neg h3] at h1'
  by_cases h4 : 1 ≤ s.mx ∧ s.mx ≤ 4294967296
  rotate_left
  · rw [if_neg h4] at h1'; omega
  rw [if_pos h4] at h1'
  have hsame : twoB s = true → p.1 = q.1 ∧ p.2.1 = q.2.1 := fun h => ⟨Decidable.byContradiction fun c => h2 ⟨h, .inl c⟩, Decidable.byContradiction fun c => h2 ⟨h, .inr c⟩⟩
  have hs := hp.1
  have g : goodP (0, 0, p.1, p.2.1) p.1 p.2.1 := ⟨Int.le_refl _, Int.le_refl _, Int.le_refl _, Int.le_refl _, by show (0 : Int) < p.1; have := hs.1; omega, by show (0 : Int) < p.2.1; have := hs.2.2.1; omega⟩
  have hsp : tspec p q (twoB s) s.ops s.mx (0, 0, p.1, p.2.1) = ((p.1 - 0, p.2.1 - 0, s.mx, (List.range (hgt (0, 0, p.1, p.2.1) * wdt (0, 0, p.1, p.2.1))).map (tval p q (twoB s) s.ops s.mx (0, 0, p.1, p.2.1))), 0) := by
    unfold tspec
    rw [if_pos ⟨hp, hq⟩, if_neg h3, if_pos h4, if_neg (fun h => h h1'), if_pos ⟨hsame, g⟩]
  simp only [Int.sub_zero] at hsp
  refine ⟨(List.range (hgt (0, 0, p.1, p.2.1) * wdt (0, 0, p.1, p.2.1))).map (tval p q (twoB s) s.ops s.mx (0, 0, p.1, p.2.1)), ?_, ?_⟩
  · rw [rtile_ok k hk, hsp]
  · obtain ⟨hd, e1, e2, e3⟩ := plane_dim hp
    have hl : hgt (0, 0, p.1, p.2.1) * wdt (0, 0, p.1, p.2.1) = p.1.toNat * p.2.1.toNat := by
      unfold hgt wdt
      simp only [Int.sub_zero]
      exact Nat.mul_comm _ _
    have := plane_of hd (out := s.mx) h4 (l := (List.range (hgt (0, 0, p.1, p.2.1) * wdt (0, 0, p.1, p.2.1))).map (tval p q (twoB s) s.ops s.mx (0, 0, p.1, p.2.1))) (by rw [List.length_map, List.length_range, hl]) (by
      intro x hx
      obtain ⟨i, _, rfl⟩ := List.mem_map.1 hx
      exact clampv_in _ (by omega))
    rw [e1, e2] at this
    exact this
end Go.Lf.T

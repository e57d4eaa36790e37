import Derived.Test.YtagpgomkblgooaaGreatLfP15h
/-! Lf: made planes, the stage of chapter 18, and ShapeSound. -/
set_option linter.unusedVariables false
set_option maxRecDepth 100000
namespace Go.Lf.T
open Go Go.Lf

theorem msized_loop {k : Nat} (w h m : Int) (hm : 0 ≤ m ∧ m ≤ 4294967296) : ∀ (n i j : Nat) (t : List Int × Int) (l : List Int), l.length - i = n → i ≤ l.length → n < j → l.length ≤ 100 → Tp t → pixP m l →
    ∃ t' l', (∀ {R : Type} (e0 : List Int → Int → Int → Int → Int → List Int → Option R), F8.loop0 k j i t.1 t.2 w h m l e0 = e0 t'.1 t'.2 w h m l') ∧ l'.length = l.length ∧ Tp t' ∧ pixP m l' := by
  intro n
  induction n with
  | zero =>
    intro i j t l hn hi hj hl ht hx
    obtain ⟨j, rfl⟩ : ∃ j', j = j' + 1 := ⟨j - 1, by omega⟩
    refine ⟨t, l, fun e0 => ?_, rfl, ht, hx⟩
    rw [F8.loop0_s, decide_eq_false (by omega), cond_false]
  | succ n ih =>
    intro i j t l hn hi hj hl ht hx
    obtain ⟨j, rfl⟩ : ∃ j', j = j' + 1 := ⟨j - 1, by omega⟩
    obtain ⟨a, t1, e1, a1, a2, ht1⟩ := next_ok k (t := (t.1, t.2)) ht (n := m + 1) (by omega) (by omega)
    obtain ⟨b, t2, e2, b1, b2, ht2⟩ := next_ok k ht1 (n := m + 1) (by omega) (by omega)
    obtain ⟨c, t3, e3, hc, ht3⟩ := pick_ok k ht2 (l := [a, b, m, 0]) (by simp) (by simp)
    have hc2 : 0 ≤ c ∧ c ≤ m := by
      simp only [List.mem_cons, List.not_mem_nil, or_false] at hc
      omega
    obtain ⟨t', l', h1, h2, h3, h4⟩ := ih (i + 1) j t3 (l.set i c) (by rw [List.length_set]; omega) (by rw [List.length_set]; omega) (by omega) (by rw [List.length_set]; exact hl) ht3 (pixP_set hx hc2)
    refine ⟨t', l', fun e0 => ?_, by rw [h2, List.length_set], h3, h4⟩
    rw [F8.loop0_s, decide_eq_true (by omega), cond_true, w64_id (n := m + 1) (by omega) (by omega)]
    simp only [e1, Option.bind_some]
    simp only [e2, Option.bind_some]
    simp only [e3, Option.bind_some]
    rw [if_pos (by omega), Int.toNat_natCast, List.getElem?_eq_getElem (by omega), Option.bind_some, w64_succ i (by omega)]
    exact h1 e0

theorem msized_ok (k : Nat) (hk : 101 ≤ k) {t : List Int × Int} (ht : Tp t) {w h : Int} (hw : 1 ≤ w ∧ w ≤ 10) (hh : 1 ≤ h ∧ h ≤ 10) : ∃ m l t', F8 k t w h = some (((w, h, m, l), ()), (t', ())) ∧ planeP (w, h, m, l) ∧ Tp t' := by
  unfold F8
  obtain ⟨m, t1, e1, hm, ht1⟩ := pick_ok k ht (l := [255, 255, 65535, 1, 7]) (by simp) (by simp)
  have hwh := mul_le_of (show 0 ≤ w by omega) hw.2 (show 0 ≤ h by omega) hh.2
  simp only [e1, Option.bind_some]
  rw [w64_id (n := w * h) (by omega) (by omega), if_pos (by omega)]
  have hm2 : 1 ≤ m ∧ m ≤ 65535 := by simp at hm; omega
  obtain ⟨t', l', h1, h2, h3, h4⟩ := msized_loop (k := k) w h m (by omega) (w * h).toNat 0 k t1 (List.replicate (w * h).toNat 0) (by simp) (by simp) (by omega) (by simp; omega) ht1 (pixP_zeros _ (by omega))
  rw [List.length_replicate] at h2
  refine ⟨m, l', t', h1 _, ⟨⟨hw.1, by show w ≤ 128; omega, hh.1, by show h ≤ 128; omega, by show w * h ≤ 4096; omega, hm2.1, by show m ≤ 4294967296; omega⟩, by show (l'.length : Int) = w * h; omega, h4⟩, h3⟩

theorem mpl_ok (k : Nat) (hk : 101 ≤ k) {t : List Int × Int} (ht : Tp t) : ∃ p t', F9 k t = some ((p, ()), (t', ())) ∧ (1 ≤ p.1 ∧ p.1 ≤ 10) ∧ (1 ≤ p.2.1 ∧ p.2.1 ≤ 10) ∧ planeP p ∧ Tp t' := by
  unfold F9
  obtain ⟨a, t1, e1, a1, a2, ht1⟩ := next_ok k ht (n := 6) (by omega) (by omega)
  obtain ⟨b, t2, e2, b1, b2, ht2⟩ := next_ok k ht1 (n := 5) (by omega) (by omega)
  obtain ⟨m, l, t3, e3, h1, ht3⟩ := msized_ok k hk ht2 (w := 1 + a) (h := 1 + b) (by omega) (by omega)
  simp only [e1, Option.bind_some]
  simp only [e2, Option.bind_some]
  rw [w64_id (n := 1 + a) (by omega) (by omega), w64_id (n := 1 + b) (by omega) (by omega), e3, Option.bind_some]
  exact ⟨_, t3, rfl, ⟨show 1 ≤ 1 + a by omega, show 1 + a ≤ 10 by omega⟩, ⟨show 1 ≤ 1 + b by omega, show 1 + b ≤ 10 by omega⟩, h1, ht3⟩

/-! ### The stage -/
theorem of0 {s : Sg} {a b : Sh} (h : (ofspec s a b).2 = 0) : fieldsP s ∧ (edB s.1 = true → edgeB s.2.2.2.2.1 a.2.2 = true) ∧ kcode s a b = 0 ∧ ofspec s a b = (oshape s a, 0) := by
  unfold ofspec at h ⊢
  by_cases h1 : ¬ fieldsP s
  · rw [if_pos h1] at h; exact absurd h (by simp)
  rw [if_neg h1] at h ⊢
  by_cases h2 : ¬ sizeP a.1 a.2.1 a.2.2 ∨ (twoB s = true ∧ ¬ sizeP b.1 b.2.1 b.2.2)
  · rw [if_pos h2] at h; exact absurd h (by simp)
  rw [if_neg h2] at h ⊢
  by_cases h3 : edB s.1 = true ∧ edgeB s.2.2.2.2.1 a.2.2 = false
  · rw [if_pos h3] at h; exact absurd h (by simp)
  rw [if_neg h3] at h ⊢
  by_cases h4 : kcode s a b ≠ 0
  · rw [if_pos h4] at h; exact absurd h h4
  rw [if_neg h4]
  refine ⟨Decidable.byContradiction h1, fun h5 => ?_, Decidable.byContradiction h4, rfl⟩
  cases h6 : edgeB s.2.2.2.2.1 a.2.2 with
  | true => rfl
  | false => exact absurd ⟨h5, h6⟩ h3

theorem of_not0 {s : Sg} {a b : Sh} (h : (ofspec s a b).2 ≠ 0) : (ofspec s a b).1 = (0, 0, 0) := by
  unfold ofspec at h ⊢
  by_cases h1 : ¬ fieldsP s
  · rw [if_pos h1]
  rw [if_neg h1] at h ⊢
  by_cases h2 : ¬ sizeP a.1 a.2.1 a.2.2 ∨ (twoB s = true ∧ ¬ sizeP b.1 b.2.1 b.2.2)
  · rw [if_pos h2]
  rw [if_neg h2] at h ⊢
  by_cases h3 : edB s.1 = true ∧ edgeB s.2.2.2.2.1 a.2.2 = false
  · rw [if_pos h3]
  rw [if_neg h3] at h ⊢
  by_cases h4 : kcode s a b ≠ 0
  · rw [if_pos h4]
  · rw [if_neg h4] at h; exact absurd rfl h

abbrev sho (p : Pl) : Sh := (p.1, p.2.1, p.2.2.1)

theorem part_ok {k : Nat} (hk : 4097 ≤ k) {s : Sg} {p q : Pl} (hp : planeP p) (hq : twoB s = true → planeP q) (h : (ofspec s (sho p) (sho q)).2 = 0) (h4 : s.1 ≠ 4) (h5 : s.1 ≠ 5) :
    ∃ l, F122 k s p q (0, 0, (oshape s (sho p)).1, (oshape s (sho p)).2.1) = some ((((oshape s (sho p)).1, (oshape s (sho p)).2.1, (oshape s (sho p)).2.2, l), 0, ()), ()) ∧ planeP ((oshape s (sho p)).1, (oshape s (sho p)).2.1, (oshape s (sho p)).2.2, l) := by
  obtain ⟨hf, he, hc, _⟩ := of0 h
  unfold F122
  unfold kcode at hc
  unfold oshape
  rw [if_neg h4, if_neg h5]
  by_cases h1 : s.1 = 1
  · rw [if_pos h1] at hc
    rw [if_neg (show ¬ s.1 = 3 by omega), beq_l h1, cond_true]
    obtain ⟨l, g1, g2⟩ := t9_ok hk hp (he (by unfold edB; rw [h1]; rfl)) hc
    exact ⟨l, by rw [g1, Option.bind_some], g2⟩
  rw [if_neg h1] at hc
  by_cases h2 : s.1 = 2
  · rw [if_pos h2] at hc
    rw [if_neg (show ¬ s.1 = 3 by omega), bne_lit h1, cond_false, beq_l h2, cond_true]
    obtain ⟨l, g1, g2⟩ := t10_ok hk hp (he (by unfold edB; rw [h2]; rfl)) hc
    exact ⟨l, by rw [g1, Option.bind_some], g2⟩
  rw [if_neg h2] at hc
  by_cases h3 : s.1 = 3
  · rw [if_pos h3] at hc
    rw [if_pos h3, bne_lit h1, cond_false, bne_lit h2, cond_false, beq_l h3, cond_true]
    obtain ⟨l, g1, g2⟩ := t11_ok hk hp (he (by unfold edB; rw [h3]; rfl)) hc
    exact ⟨l, by rw [g1, Option.bind_some], g2⟩
  rw [if_neg h3, if_neg h4, if_neg h5] at hc
  rw [if_neg h3, bne_lit h1, cond_false, bne_lit h2, cond_false, bne_lit h3, cond_false, rtwo_ok, Option.bind_some]
  obtain ⟨l, g1, g2⟩ := t14_ok hk hp hq hc
  exact ⟨l, by rw [g1, Option.bind_some], g2⟩

/-- What a stage gives, and what it is to give. -/
def stP (s : Sg) (p q : Pl) (r : Pl) : Prop := (ofspec s (sho p) (sho q)).2 = 0 → planeP r ∧ (r.1, r.2.1, r.2.2.1) = (ofspec s (sho p) (sho q)).1

theorem tail18 {k : Nat} (hk : 4097 ≤ k) (s : Sg) {p q : Pl} (hp : planeP p) (hq : twoB s = true → planeP q) :
    ∃ r, (bif (ofspec s (sho p) (sho q)).2 != 0 then (some (((0, 0, 0, ([] : List Int)), (ofspec s (sho p) (sho q)).2, ()), ())) else (bif s.1 == 4 then ((F105 k p s.2.2.2.2.2.2.2.2.2.2.2.2.2.2.1).bind fun (y7 : ((Int × Int × Int × List Int) × Int × Unit) × (Unit)) => some ((y7.1.1, y7.1.2.1, ()), ())) else (bif s.1 == 5 then ((F108 k p).bind fun (y8 : ((Int × Int × Int × List Int) × Int × Unit) × (Unit)) => some ((y8.1.1, y8.1.2.1, ()), ())) else ((F122 k s p q (0, 0, (ofspec s (sho p) (sho q)).1.1, (ofspec s (sho p) (sho q)).1.2.1)).bind fun (y9 : ((Int × Int × Int × List Int) × Int × Unit) × (Unit)) => some ((y9.1.1, y9.1.2.1, ()), ()))))) = some ((r, (ofspec s (sho p) (sho q)).2, ()), ()) ∧ stP s p q r := by
  by_cases h : (ofspec s (sho p) (sho q)).2 = 0
  rotate_left
  · rw [bne_tt h, cond_true]
    exact ⟨_, rfl, fun g => absurd g h⟩
  obtain ⟨hf, he, hc, ho⟩ := of0 h
  unfold stP
  have hgo := part_ok hk hp hq h
  rw [ho]
  rw [show ((0 : Int) != 0) = false from rfl, cond_false]
  by_cases h4 : s.1 = 4
  · rw [beq_l h4, cond_true]
    have hb : 1 ≤ s.bins ∧ s.bins ≤ 128 := by
      unfold kcode at hc
      rw [if_neg (show ¬ s.1 = 1 by omega), if_neg (show ¬ s.1 = 2 by omega), if_neg (show ¬ s.1 = 3 by omega), if_pos h4] at hc
      by_cases hb : 1 ≤ s.bins ∧ s.bins ≤ 128
      · exact hb
      · rw [if_neg hb] at hc; exact absurd hc (by simp)
    obtain ⟨l, g1, g2⟩ := h12_ok hk hp hb
    refine ⟨(s.bins, 1, w64 (p.1 * p.2.1), l), ?_, fun _ => ⟨g2, ?_⟩⟩
    · rw [show F105 k p s.2.2.2.2.2.2.2.2.2.2.2.2.2.2.1 = _ from g1, Option.bind_some]
    · unfold oshape; rw [if_neg (show ¬ s.1 = 3 by omega), if_pos h4]
  rw [bne_lit h4, cond_false]
  by_cases h5 : s.1 = 5
  · rw [beq_l h5, cond_true]
    have hm : mostP (sho p) := by
      unfold kcode at hc
      rw [if_neg (show ¬ s.1 = 1 by omega), if_neg (show ¬ s.1 = 2 by omega), if_neg (show ¬ s.1 = 3 by omega), if_neg h4, if_pos h5] at hc
      by_cases hb : mostP (sho p)
      · exact hb
      · rw [if_neg hb] at hc; exact absurd hc (by simp)
    obtain ⟨l, g1, g2⟩ := i13_ok hk hp hm
    refine ⟨_, by rw [g1, Option.bind_some], fun _ => ⟨g2, ?_⟩⟩
    unfold oshape; rw [if_neg (show ¬ s.1 = 3 by omega), if_neg h4, if_pos h5]
  rw [bne_lit h5, cond_false]
  obtain ⟨l, g1, g2⟩ := hgo h4 h5
  exact ⟨_, by rw [g1, Option.bind_some], fun _ => ⟨g2, rfl⟩⟩

theorem stage18_ok {k : Nat} (hk : 4097 ≤ k) (s : Sg) {p q : Pl} (hp : planeP p) (hq : planeP q) : ∃ r, F123 k s p q = some ((r, (ofspec s (sho p) (sho q)).2, ()), ()) ∧ stP s p q r := by
  obtain ⟨r, h1, h2⟩ := tail18 hk s hp (fun _ => hq)
  refine ⟨r, ?_, h2⟩
  rw [← h1]
  unfold F123 F10
  rw [rplane_ok k hk, Option.bind_some, decide_eq_true hp, Bool.not_true, cond_false, rtwo_ok, Option.bind_some]
  cases twoB s with
  | true =>
    rw [cond_true, rplane_ok k hk, Option.bind_some, decide_eq_true hq, Bool.not_true, cond_false, Option.bind_some, Option.bind_some, rof_ok k (by omega), Option.bind_some]
  | false =>
    rw [cond_false, Option.bind_some, Option.bind_some, rof_ok k (by omega), Option.bind_some]

theorem vsane_ok : F126 5000 = some ((true, ()), ()) := by kernel_rfl

theorem sound_end (s : Sg) {p q : Pl} (hp : planeP p) (hq : planeP q) {r : Pl} (hr : stP s p q r) :
    (bif (ofspec s (sho p) (sho q)).2 != (ofspec s (sho p) (sho q)).2 then (some ((false, ()), ())) else (bif (ofspec s (sho p) (sho q)).2 != 0 then (bif ((ofspec s (sho p) (sho q)).1.1 == 0 && ((ofspec s (sho p) (sho q)).1.2.1 == 0 && ((ofspec s (sho p) (sho q)).1.2.2 == 0 && true))) then ((F126 5000).bind fun (y12 : (Bool × Unit) × (Unit)) => some ((y12.1.1, ()), ())) else (some ((false, ()), ()))) else ((F26 5000 (ofspec s (sho p) (sho q)).1).bind fun (y13 : (Bool × Unit) × (Unit)) => bif y13.1.1 then (bif r.1 == (ofspec s (sho p) (sho q)).1.1 then (bif r.2.1 == (ofspec s (sho p) (sho q)).1.2.1 then (bif r.2.2.1 == (ofspec s (sho p) (sho q)).1.2.2 then ((F62 5000 r).bind fun (y14 : (Bool × Unit) × (Unit)) => bif y14.1.1 then ((F126 5000).bind fun (y15 : (Bool × Unit) × (Unit)) => some ((y15.1.1, ()), ())) else (some ((false, ()), ()))) else (some ((false, ()), ()))) else (some ((false, ()), ()))) else (some ((false, ()), ()))) else (some ((false, ()), ()))))) = (some ((true, ()), ()) : Option ((Bool × Unit) × Unit)) := by
  rw [bne_self_eq_false, cond_false]
  by_cases h : (ofspec s (sho p) (sho q)).2 = 0
  rotate_left
  · rw [bne_tt h, cond_true, of_not0 h, vsane_ok]
    rfl
  rw [bne_ff h, cond_false]
  obtain ⟨h1, h2⟩ := hr h
  rw [← h2, svalid_ok, Option.bind_some, decide_eq_true h1.1]
  simp only [beq_self_eq_true, cond_true]
  rw [rplane_ok 5000 (by omega), Option.bind_some, decide_eq_true h1, vsane_ok]
  rfl

theorem sound_pure (t : List Int) (ht : t.length ≤ 9223372036854775807) : F127 5000 t = some ((true, ()), ()) := by
  unfold F127 F10
  have htp : Tp (t, 0) := ⟨Int.le_refl _, Int.natCast_nonneg _, ht⟩
  rw [show F4 5000 t = some (((t, 0), ()), ()) from rfl, Option.bind_some]
  obtain ⟨p, t1, e1, p1, p2, hp, ht1⟩ := mpl_ok 5000 (by omega) htp
  obtain ⟨m, l, t2, e2, hq, ht2⟩ := msized_ok 5000 (by omega) ht1 p1 p2
  obtain ⟨s, t3, e3, hs, ht3, _⟩ := stage_ok ht2 0 (sh := (p.1, p.2.1, p.2.2.1)) p1 p2 1
  obtain ⟨u, t4, e4, u1, u2, ht4⟩ := next_ok 5000 ht3 (n := 3) (by omega) (by omega)
  obtain ⟨s', t5, e5, ht5⟩ := spoils_ok 5000 (by omega) ht4 hs
  simp only [e1, Option.bind_some]
  simp only [e2, Option.bind_some]
  simp only [e3, Option.bind_some]
  simp only [e4, Option.bind_some]
  cases u == 0 with
  | true =>
    rw [cond_true, e5]
    simp only [Option.bind_some]
    obtain ⟨r, h1, h2⟩ := stage18_ok (k := 5000) (by omega) s' hp hq
    rw [of_ok 5000 (by omega), h1]
    simp only [Option.bind_some]
    exact sound_end s' hp hq h2
  | false =>
    rw [cond_false]
    obtain ⟨r, h1, h2⟩ := stage18_ok (k := 5000) (by omega) s hp hq
    rw [of_ok 5000 (by omega), h1]
    simp only [Option.bind_some]
    exact sound_end s hp hq h2
end Go.Lf.T

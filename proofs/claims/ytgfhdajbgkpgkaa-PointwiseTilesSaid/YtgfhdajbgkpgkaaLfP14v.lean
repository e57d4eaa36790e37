import Derived.Test.YtgfhdajbgkpgkaaLfP14u
/-! Lf: PointwiseTiles. -/
set_option linter.unusedVariables false
set_option maxRecDepth 100000
namespace Go.Lf.T
open Go Go.Lf

theorem bne_t {a b : Int} (h : a ≠ b) : (a != b) = true := by simpa using h
theorem bne_f {a b : Int} (h : a = b) : (a != b) = false := by simpa using h

theorem ptile_tail {R : Type} {k : Nat} (hk : 4097 ≤ k) {p q : Pl} {two : Bool} {l : List (Int × Int)} {out : Int} {r : Rc} (hp : planeP p) (hq : two = true → planeP q ∧ p.1 = q.1 ∧ p.2.1 = q.2.1) (ho : 1 ≤ out ∧ out ≤ 4294967296) (hi : (iv l p.2.2.1 (if two = true then q.2.2.1 else 1)).2.2 = 0)
    (e0 : Int → Int → Int → Int → List Int → Option R) (e1 : Int → Int → Int → List Int → Int → Int → Int → List Int → Option R) (z : Option R) (hz : ¬ goodP r p.1 p.2.1 → z = z) :
    ((rect_Empty k r).bind fun (y6 : (Bool × Unit) × Unit) => bif y6.1.1 then z else ((rect_Inside k r (0, 0, p.1, p.2.1)).bind fun (y7 : (Bool × Unit) × Unit) => bif !y7.1.1 then z else (pointwise_Tile.loop0 k k two l out r.2.1 p.1 p.2.1 p.2.2.1 p.2.2.2 q.1 q.2.1 q.2.2.1 q.2.2.2 r.1 r.2.1 r.2.2.1 r.2.2.2 0 0 0 ([] : List Int) (w64 (r.2.2.1 - r.1)) (w64 (r.2.2.2 - r.2.1)) out ([] : List Int) e0 e1))) =
      if goodP r p.1 p.2.1 then e1 0 0 0 [] (r.2.2.1 - r.1) (r.2.2.2 - r.2.1) out ((List.range (hgt r * wdt r)).map (tval p q two l out r)) else z := by
  have hs := hp.1
  by_cases hn : noneP r
  · rw [empty_ok, Option.bind_some, decide_eq_true hn, cond_true, if_neg (fun g => (good_rect hs.2.1 hs.2.2.2.1 g).2 hn)]
  · rw [empty_ok, Option.bind_some, decide_eq_false hn, cond_false, inside_ok k ⟨hs.1, hs.2.1⟩ ⟨hs.2.2.1, hs.2.2.2.1⟩ hn, Option.bind_some]
    by_cases g : goodP r p.1 p.2.1
    · have h : TileOk p q two l out r := ⟨hp, hq, iv_valid hi, hi, ho, g⟩
      obtain ⟨w1, w2, w3, w4, w5, w6, g1, g2, g3, g4, s2, s4⟩ := h.dims
      rw [decide_eq_true g, Bool.not_true, cond_false, if_pos g, w64_id (n := r.2.2.1 - r.1) (by omega) (by omega), w64_id (n := r.2.2.2 - r.2.1) (by omega) (by omega)]
      have := ptile0 hk h 0 0 0 [] (r.2.2.1 - r.1) (r.2.2.2 - r.2.1) out e0 e1 (hgt r) 0 k rfl (by omega) (by omega)
      rw [Nat.zero_mul, show r.2.1 + ((0 : Nat) : Int) = r.2.1 from Int.add_zero _] at this
      exact this
    · rw [decide_eq_false g, Bool.not_false, cond_true, if_neg g]

theorem rtile_tail {R : Type} {k : Nat} (hk : 4097 ≤ k) {p q : Pl} {two : Bool} {l : List (Int × Int)} {out : Int} {r : Rc} (hp : planeP p) (hq : two = true → planeP q ∧ p.1 = q.1 ∧ p.2.1 = q.2.1) (ho : 1 ≤ out ∧ out ≤ 4294967296) (hi : (iv l p.2.2.1 (if two = true then q.2.2.1 else 1)).2.2 = 0)
    (e0 : Int → Int → Int → List Int → Option R) (z : Option R) :
    ((tilefarmref2_Full k r).bind fun (y4 : (Bool × Unit) × Unit) => bif !y4.1.1 then z else ((tilefarmref4_Cover k p).bind fun (y5 : ((Int × Int × Int × Int) × Unit) × Unit) => (tilefarmref2_Inside k r y5.1.1).bind fun (y6 : (Bool × Unit) × Unit) => bif !y6.1.1 then z else ((tilefarmref4_New k (w64 (r.2.2.1 - r.1)) (w64 (r.2.2.2 - r.2.1)) out).bind fun (y7 : ((Int × Int × Int × List Int) × Bool × Unit) × Unit) => tilefarmref14_Tile.loop0 k k two l out r.2.1 p.1 p.2.1 p.2.2.1 p.2.2.2 q.1 q.2.1 q.2.2.1 q.2.2.2 r.1 r.2.1 r.2.2.1 r.2.2.2 y7.1.1.1 y7.1.1.2.1 y7.1.1.2.2.1 y7.1.1.2.2.2 e0))) =
      if goodP r p.1 p.2.1 then e0 (r.2.2.1 - r.1) (r.2.2.2 - r.2.1) out ((List.range (hgt r * wdt r)).map (tval p q two l out r)) else z := by
  have hs := hp.1
  by_cases hn : rectP r ∧ ¬ noneP r
  · rw [full_ok, Option.bind_some, decide_eq_true hn, Bool.not_true, cond_false]
    unfold tilefarmref4_Cover
    rw [Option.bind_some]
    rw [rinside_ok k ⟨hs.1, hs.2.1⟩ ⟨hs.2.2.1, hs.2.2.2.1⟩ hn, Option.bind_some]
    by_cases g : goodP r p.1 p.2.1
    · have h : TileOk p q two l out r := ⟨hp, hq, iv_valid hi, hi, ho, g⟩
      obtain ⟨w1, w2, w3, w4, w5, w6, g1, g2, g3, g4, s2, s4⟩ := h.dims
      rw [decide_eq_true g, Bool.not_true, cond_false, if_pos g, w64_id (n := r.2.2.1 - r.1) (by omega) (by omega), w64_id (n := r.2.2.2 - r.2.1) (by omega) (by omega)]
      have hm : (r.2.2.1 - r.1) * (r.2.2.2 - r.2.1) = ((hgt r * wdt r : Nat) : Int) := by rw [← w1, ← w2, Int.mul_comm]; simp
      have hm2 : hgt r * wdt r ≤ 128 * 128 := Nat.mul_le_mul w6 w5
      have hm3 : (r.2.2.1 - r.1) * (r.2.2.2 - r.2.1) ≤ p.1 * p.2.1 := (mul_le_of (by omega) (by omega) (by omega) (by omega)).2
      have h5 := hs.2.2.2.2.1
      have hnew : tilefarmref4_New k (r.2.2.1 - r.1) (r.2.2.2 - r.2.1) out = some (((r.2.2.1 - r.1, r.2.2.2 - r.2.1, out, List.replicate (hgt r * wdt r) 0), true, ()), ()) := by
        unfold tilefarmref4_New
        rw [rsize_ok, Option.bind_some, decide_eq_true (show sizeP _ _ _ from ⟨by omega, by omega, by omega, by omega, by omega, ho.1, ho.2⟩), Bool.not_true, cond_false, hm, w64_id (by omega) (by omega), if_pos (by omega), Int.toNat_natCast]
      rw [hnew, Option.bind_some]
      have := rtile0 hk h (r.2.2.2 - r.2.1) out e0 (hgt r) 0 k rfl (by omega) (by omega)
      rw [Nat.zero_mul, show r.2.1 + ((0 : Nat) : Int) = r.2.1 from Int.add_zero _, ← part_zero, part_all] at this
      exact this
    · rw [decide_eq_false g, Bool.not_false, cond_true, if_neg g]
  · rw [full_ok, Option.bind_some, decide_eq_false hn, Bool.not_false, cond_true, if_neg (fun g => hn (good_rect hs.2.1 hs.2.2.2.1 g))]

theorem ptile_ok (k : Nat) (hk : 4097 ≤ k) (p q : Pl) (two : Bool) (l : List (Int × Int)) (out : Int) (r : Rc) : pointwise_Tile k p q two l out r = some (((tspec p q two l out r).1, (tspec p q two l out r).2, ()), ()) := by
  unfold pointwise_Tile tspec
  rw [plane_ok k hk, Option.bind_some]
  by_cases hp : planeP p
  rotate_left
  · rw [decide_eq_false hp, Bool.not_false, cond_true, if_neg (fun h => hp h.1)]
  rw [decide_eq_true hp, Bool.not_true, cond_false]
  cases two with
  | true =>
    rw [cond_true, plane_ok k hk, Option.bind_some]
    by_cases hq : planeP q
    rotate_left
    · rw [decide_eq_false hq, Bool.not_false, cond_true, if_neg (fun h => hq (h.2 rfl))]
    rw [decide_eq_true hq, Bool.not_true, cond_false, if_pos ⟨hp, fun _ => hq⟩, valid_ok k l true (by omega), Option.bind_some]
    by_cases hv : vcode l true = 0
    rotate_left
    · simp only [bne_t hv]; rw [cond_true, if_pos hv]
    simp only [bne_f hv]
    rw [cond_false, if_neg (fun h => h hv), bt_ok, Option.bind_some]
    by_cases ho : 1 ≤ out ∧ out ≤ 4294967296
    rotate_left
    · rw [decide_eq_false ho, Bool.not_false, cond_true, if_neg ho]
    rw [decide_eq_true ho, Bool.not_true, cond_false, if_pos ho, cond_true, interval_ok k _ _ _ (by omega), Option.bind_some]
    simp only [if_true]
    by_cases hi : (iv l p.2.2.1 q.2.2.1).2.2 = 0
    rotate_left
    · rw [bne_t hi, cond_true, if_pos hi]
    rw [bne_f hi, cond_false, if_neg (fun h => h hi), cond_true]
    by_cases h1 : p.1 = q.1
    rotate_left
    · rw [bne_t h1, cond_true, if_neg (fun h => h1 (h.1 trivial).1)]
    rw [bne_f h1, cond_false]
    by_cases h2 : p.2.1 = q.2.1
    rotate_left
    · rw [bne_t h2, cond_true, if_neg (fun h => h2 (h.1 trivial).2)]
    rw [bne_f h2, cond_false, ptile_tail hk hp (fun _ => ⟨hq, h1, h2⟩) ho (by simpa using hi) _ _ _ (fun _ => rfl)]
    by_cases g : goodP r p.1 p.2.1
    · rw [if_pos g, if_pos ⟨fun _ => ⟨h1, h2⟩, g⟩]
    · rw [if_neg g, if_neg (fun h => g h.2)]
  | false =>
    rw [cond_false, if_pos ⟨hp, fun h => by cases h⟩, valid_ok k l false (by omega), Option.bind_some]
    by_cases hv : vcode l false = 0
    rotate_left
    · simp only [bne_t hv]; rw [cond_true, if_pos hv]
    simp only [bne_f hv]
    rw [cond_false, if_neg (fun h => h hv), bt_ok, Option.bind_some]
    by_cases ho : 1 ≤ out ∧ out ≤ 4294967296
    rotate_left
    · rw [decide_eq_false ho, Bool.not_false, cond_true, if_neg ho]
    rw [decide_eq_true ho, Bool.not_true, cond_false, if_pos ho, cond_false, interval_ok k _ _ _ (by omega), Option.bind_some]
    simp only [Bool.false_eq_true, if_false]
    by_cases hi : (iv l p.2.2.1 1).2.2 = 0
    rotate_left
    · rw [bne_t hi, cond_true, if_pos hi]
    rw [bne_f hi, cond_false, if_neg (fun h => h hi), cond_false, ptile_tail hk hp (fun h => by cases h) ho (by simpa using hi) _ _ _ (fun _ => rfl)]
    by_cases g : goodP r p.1 p.2.1
    · rw [if_pos g, if_pos ⟨fun h => h.elim, g⟩]
    · rw [if_neg g, if_neg (fun h => g h.2)]

theorem check_ok (k : Nat) (hk : 33 ≤ k) (l : List (Int × Int)) (two : Bool) (a b out : Int) : tilefarmref14_Check k l two a b out =
    some ((if vcode l two ≠ 0 then vcode l two else if 1 ≤ out ∧ out ≤ 4294967296 then (iv l a (if two = true then b else 1)).2.2 else 2, ()), ()) := by
  unfold tilefarmref14_Check
  rw [rvalid_ok k l two hk, Option.bind_some]
  by_cases hv : vcode l two = 0
  rotate_left
  · simp only [bne_t hv]; rw [cond_true, if_pos hv]
  simp only [bne_f hv]
  rw [cond_false, if_neg (fun h => h hv), rvalue_ok, Option.bind_some]
  by_cases ho : 1 ≤ out ∧ out ≤ 4294967296
  rotate_left
  · rw [decide_eq_false ho, Bool.not_false, cond_true, if_neg ho]
  rw [decide_eq_true ho, Bool.not_true, cond_false, if_pos ho]
  cases two with
  | true => rw [Bool.not_true, cond_false, rinterval_ok k _ _ _ hk]; rfl
  | false => rw [Bool.not_false, cond_true, rinterval_ok k _ _ _ hk]; rfl

theorem rtile_ok (k : Nat) (hk : 4097 ≤ k) (p q : Pl) (two : Bool) (l : List (Int × Int)) (out : Int) (r : Rc) : tilefarmref14_Tile k p q two l out r = some (((tspec p q two l out r).1, (tspec p q two l out r).2, ()), ()) := by
  unfold tilefarmref14_Tile tspec
  rw [rplane_ok k hk, Option.bind_some]
  by_cases hp : planeP p
  rotate_left
  · rw [decide_eq_false hp, Bool.not_false, cond_true, if_neg (fun h => hp h.1)]
  rw [decide_eq_true hp, Bool.not_true, cond_false]
  cases two with
  | true =>
    rw [cond_true, rplane_ok k hk, Option.bind_some]
    by_cases hq : planeP q
    rotate_left
    · rw [decide_eq_false hq, Bool.not_false, cond_true, if_neg (fun h => hq (h.2 rfl))]
    rw [decide_eq_true hq, Bool.not_true, cond_false, if_pos ⟨hp, fun _ => hq⟩, check_ok k (by omega), Option.bind_some]
    by_cases hv : vcode l true = 0
    rotate_left
    · rw [if_pos hv, if_pos hv, bne_t hv, cond_true]
    have hvn : ¬ vcode l true ≠ 0 := fun h => h hv
    rw [if_neg hvn, if_neg hvn]
    by_cases ho : 1 ≤ out ∧ out ≤ 4294967296
    rotate_left
    · rw [if_neg ho, if_neg ho]; rfl
    rw [if_pos ho, if_pos ho]
    simp only [if_true]
    by_cases hi : (iv l p.2.2.1 q.2.2.1).2.2 = 0
    rotate_left
    · rw [bne_t hi, cond_true, if_pos hi]
    rw [bne_f hi, cond_false, if_neg (fun h => h hi), cond_true]
    by_cases h1 : p.1 = q.1
    rotate_left
    · rw [bne_t h1, cond_true, if_neg (fun h => h1 (h.1 trivial).1)]
    rw [bne_f h1, cond_false]
    by_cases h2 : p.2.1 = q.2.1
    rotate_left
    · rw [bne_t h2, cond_true, if_neg (fun h => h2 (h.1 trivial).2)]
    rw [bne_f h2, cond_false, rtile_tail hk hp (fun _ => ⟨hq, h1, h2⟩) ho (by simpa using hi)]
    by_cases g : goodP r p.1 p.2.1
    · rw [if_pos g, if_pos ⟨fun _ => ⟨h1, h2⟩, g⟩]
    · rw [if_neg g, if_neg (fun h => g h.2)]
  | false =>
    rw [cond_false, if_pos ⟨hp, fun h => by cases h⟩, check_ok k (by omega), Option.bind_some]
    by_cases hv : vcode l false = 0
    rotate_left
    · rw [if_pos hv, if_pos hv, bne_t hv, cond_true]
    have hvn : ¬ vcode l false ≠ 0 := fun h => h hv
    rw [if_neg hvn, if_neg hvn]
    by_cases ho : 1 ≤ out ∧ out ≤ 4294967296
    rotate_left
    · rw [if_neg ho, if_neg ho]; rfl
    rw [if_pos ho, if_pos ho]
    simp only [Bool.false_eq_true, if_false]
    by_cases hi : (iv l p.2.2.1 1).2.2 = 0
    rotate_left
    · rw [bne_t hi, cond_true, if_pos hi]
    rw [bne_f hi, cond_false, if_neg (fun h => h hi), cond_false, rtile_tail hk hp (fun h => by cases h) ho (by simpa using hi)]
    by_cases g : goodP r p.1 p.2.1
    · rw [if_pos g, if_pos ⟨fun h => h.elim, g⟩]
    · rw [if_neg g, if_neg (fun h => g h.2)]

theorem tspec_length (p q : Pl) (two : Bool) (l : List (Int × Int)) (out : Int) (r : Rc) : (tspec p q two l out r).1.2.2.2.length ≤ 4096 := by
  unfold tspec
  have z : ∀ c : Int, (((0, 0, 0, []), c) : Pl × Int).1.2.2.2.length ≤ 4096 := fun c => Nat.zero_le _
  by_cases h1 : planeP p ∧ (two = true → planeP q)
  rotate_left
  · rw [if_neg h1]; exact z _
  rw [if_pos h1]
  by_cases h2 : vcode l two ≠ 0
  · rw [if_pos h2]; exact z _
  rw [if_neg h2]
  by_cases h3 : 1 ≤ out ∧ out ≤ 4294967296
  rotate_left
  · rw [if_neg h3]; exact z _
  rw [if_pos h3]
  by_cases h4 : (iv l p.2.2.1 (if two = true then q.2.2.1 else 1)).2.2 ≠ 0
  · rw [if_pos h4]; exact z _
  rw [if_neg h4]
  by_cases h5 : (two = true → p.1 = q.1 ∧ p.2.1 = q.2.1) ∧ goodP r p.1 p.2.1
  rotate_left
  · rw [if_neg h5]; exact z _
  rw [if_pos h5]
  have hp := h1.1
  obtain ⟨g1, g2, g3, g4, g5, g6⟩ := h5.2
  show ((List.range (hgt r * wdt r)).map _).length ≤ _
  rw [List.length_map, List.length_range]
  have h5 := hp.1.2.2.2.2.1
  have := (mul_le_of (show 0 ≤ r.2.2.1 - r.1 by omega) (show r.2.2.1 - r.1 ≤ p.1 by omega) (show 0 ≤ r.2.2.2 - r.2.1 by omega) (show r.2.2.2 - r.2.1 ≤ p.2.1 by omega)).2
  have e : ((hgt r * wdt r : Nat) : Int) = (r.2.2.1 - r.1) * (r.2.2.2 - r.2.1) := by
    rw [Int.mul_comm]
    unfold hgt wdt
    rw [Int.natCast_mul, Int.toNat_of_nonneg (by omega), Int.toNat_of_nonneg (by omega)]
  omega

/-! ### Made planes -/
theorem sized_loop {R : Type} {k : Nat} (w h m : Int) (hm : 0 ≤ m ∧ m ≤ 4294967296) (e0 : List Int → Int → Int → Int → Int → List Int → Option R) : ∀ (n i j : Nat) (t : List Int × Int) (l : List Int), l.length - i = n → i ≤ l.length → n < j → l.length ≤ 100 → Tp t →
    ∃ t' l', tilefarmgen_Tape_Sized.loop0 k j i t.1 t.2 w h m l e0 = e0 t'.1 t'.2 w h m l' ∧ l'.length = l.length ∧ Tp t' := by
  intro n
  induction n with
  | zero =>
    intro i j t l hn hi hj hl ht
    obtain ⟨j, rfl⟩ : ∃ j', j = j' + 1 := ⟨j - 1, by omega⟩
    rw [tilefarmgen_Tape_Sized.loop0_s, decide_eq_false (by omega), cond_false]
    exact ⟨t, l, rfl, rfl, ht⟩
  | succ n ih =>
    intro i j t l hn hi hj hl ht
    obtain ⟨j, rfl⟩ : ∃ j', j = j' + 1 := ⟨j - 1, by omega⟩
    rw [tilefarmgen_Tape_Sized.loop0_s, decide_eq_true (by omega), cond_true, w64_id (n := m + 1) (by omega) (by omega)]
    obtain ⟨a, t1, e1, _, _, ht1⟩ := next_ok k (t := (t.1, t.2)) ht (n := m + 1) (by omega) (by omega)
    obtain ⟨b, t2, e2, _, _, ht2⟩ := next_ok k ht1 (n := m + 1) (by omega) (by omega)
    obtain ⟨c, t3, e3, _, ht3⟩ := pick_ok k ht2 (l := [a, b, m, 0]) (by simp) (by simp)
    simp only [e1, Option.bind_some]
    simp only [e2, Option.bind_some]
    simp only [e3, Option.bind_some]
    rw [if_pos (by omega), Int.toNat_natCast, List.getElem?_eq_getElem (by omega), Option.bind_some, w64_succ i (by omega)]
    obtain ⟨t', l', h1, h2, h3⟩ := ih (i + 1) j t3 (l.set i c) (by rw [List.length_set]; omega) (by rw [List.length_set]; omega) (by omega) (by rw [List.length_set]; exact hl) ht3
    exact ⟨t', l', h1, by rw [h2, List.length_set], h3⟩

theorem sized_ok (k : Nat) (hk : 101 ≤ k) {t : List Int × Int} (ht : Tp t) {w h : Int} (hw : 0 ≤ w ∧ w ≤ 10) (hh : 0 ≤ h ∧ h ≤ 10) : ∃ m l t', tilefarmgen_Tape_Sized k t w h = some (((w, h, m, l), ()), (t', ())) ∧ (l.length : Int) = w * h ∧ l.length ≤ 100 ∧ m ∈ [255, 255, 65535, 1, 7] ∧ Tp t' := by
  unfold tilefarmgen_Tape_Sized
  obtain ⟨m, t1, e1, hm, ht1⟩ := pick_ok k ht (l := [255, 255, 65535, 1, 7]) (by simp) (by simp)
  have hwh := mul_le_of hw.1 hw.2 hh.1 hh.2
  simp only [e1, Option.bind_some]
  rw [w64_id (n := w * h) (by omega) (by omega), if_pos (by omega)]
  have hm2 : 0 ≤ m ∧ m ≤ 4294967296 := by simp at hm; omega
  obtain ⟨t', l', h1, h2, h3⟩ := sized_loop (R := ((Int × Int × Int × List Int) × Unit) × (((List Int) × Int) × Unit)) (k := k) w h m hm2 (fun z6 z7 z8 z9 z10 z11 => (some (((z8, z9, z10, z11), ()), ((z6, z7), ())))) (w * h).toNat 0 k t1 (List.replicate (w * h).toNat 0) (by simp) (by simp) (by omega) (by simp; omega) ht1
  rw [List.length_replicate] at h2
  exact ⟨m, l', t', h1, by omega, by omega, hm, h3⟩

theorem mplane_ok (k : Nat) (hk : 101 ≤ k) {t : List Int × Int} (ht : Tp t) : ∃ p t', tilefarmgen_Tape_Plane k t = some ((p, ()), (t', ())) ∧ 1 ≤ p.1 ∧ p.1 ≤ 6 ∧ 1 ≤ p.2.1 ∧ p.2.1 ≤ 5 ∧ p.2.2.1 ∈ [255, 255, 65535, 1, 7] ∧ (p.2.2.2.length : Int) = p.1 * p.2.1 ∧ p.2.2.2.length ≤ 100 ∧ Tp t' := by
  unfold tilefarmgen_Tape_Plane
  obtain ⟨a, t1, e1, a1, a2, ht1⟩ := next_ok k ht (n := 6) (by omega) (by omega)
  obtain ⟨b, t2, e2, b1, b2, ht2⟩ := next_ok k ht1 (n := 5) (by omega) (by omega)
  obtain ⟨m, l, t3, e3, h1, h2, h3, ht3⟩ := sized_ok k hk ht2 (w := 1 + a) (h := 1 + b) (by omega) (by omega)
  simp only [e1, Option.bind_some]
  simp only [e2, Option.bind_some]
  rw [w64_id (n := 1 + a) (by omega) (by omega), w64_id (n := 1 + b) (by omega) (by omega), e3, Option.bind_some]
  exact ⟨_, t3, rfl, show 1 ≤ 1 + a by omega, show 1 + a ≤ 6 by omega, show 1 ≤ 1 + b by omega, show 1 + b ≤ 5 by omega, h3, h1, h2, ht3⟩

theorem mrect_ok (k : Nat) {t : List Int × Int} (ht : Tp t) {w h : Int} (hw : 1 ≤ w ∧ w ≤ 1000) (hh : 1 ≤ h ∧ h ≤ 1000) : ∃ r t', tilefarmgen_Tape_Within k t w h = some ((r, ()), (t', ())) ∧ Tp t' := by
  unfold tilefarmgen_Tape_Within
  obtain ⟨a, t1, e1, a1, a2, ht1⟩ := next_ok k ht (n := w) (by omega) (by omega)
  obtain ⟨b, t2, e2, b1, b2, ht2⟩ := next_ok k ht1 (n := h) (by omega) (by omega)
  obtain ⟨c, t3, e3, c1, c2, ht3⟩ := next_ok k ht2 (n := w - a) (by omega) (by omega)
  obtain ⟨d, t4, e4, d1, d2, ht4⟩ := next_ok k ht3 (n := h - b) (by omega) (by omega)
  simp only [e1, Option.bind_some]
  simp only [e2, Option.bind_some]
  rw [w64_id (n := w - a) (by omega) (by omega), e3, Option.bind_some, w64_id (n := h - b) (by omega) (by omega), e4, Option.bind_some]
  exact ⟨_, t4, rfl, ht4⟩

theorem spoilp_ok (k : Nat) {t : List Int × Int} (ht : Tp t) (p : Pl) (hp : p.2.2.2.length ≤ 100) : ∃ q t', tilefarmgen_Tape_SpoilPlane k t p = some ((q, ()), (t', ())) ∧ Tp t' := by
  unfold tilefarmgen_Tape_SpoilPlane
  rw [if_pos (by omega)]
  obtain ⟨a, t1, e1, a1, a2, ht1⟩ := next_ok k ht (n := 6) (by omega) (by omega)
  simp only [e1, Option.bind_some]
  cases a == 0 with
  | true =>
    obtain ⟨b, t2, e2, _, ht2⟩ := pick_ok k ht1 (l := [0, w64 (p.1 + 1), (-1), 129]) (by simp) (by simp)
    simp only [e2, Option.bind_some, cond_true]
    exact ⟨_, t2, rfl, ht2⟩
  | false =>
  cases a == 1 with
  | true =>
    obtain ⟨b, t2, e2, _, ht2⟩ := pick_ok k ht1 (l := [0, w64 (p.2.1 + 1), 4611686018427387904]) (by simp) (by simp)
    simp only [e2, Option.bind_some, cond_true, cond_false]
    exact ⟨_, t2, rfl, ht2⟩
  | false =>
  cases a == 2 with
  | true =>
    obtain ⟨b, t2, e2, _, ht2⟩ := pick_ok k ht1 (l := [0, 4294967297, (-1), 3]) (by simp) (by simp)
    simp only [e2, Option.bind_some, cond_true, cond_false]
    exact ⟨_, t2, rfl, ht2⟩
  | false =>
  cases a == 3 with
  | true =>
    simp only [cond_true, cond_false]
    rw [if_pos (by rw [List.length_append]; show (_ + 1) * 8 ≤ _; omega)]
    exact ⟨_, t1, rfl, ht1⟩
  | false =>
  cases a == 4 with
  | true =>
    simp only [cond_true, cond_false]
    by_cases h0 : (p.2.2.2.length : Int) > 0
    · rw [decide_eq_true h0, cond_true]
      obtain ⟨b, t2, e2, b1, b2, ht2⟩ := next_ok k ht1 (n := (p.2.2.2.length : Int)) (by omega) (by omega)
      obtain ⟨c, t3, e3, _, ht3⟩ := pick_ok k ht2 (l := [(-1), w64 (p.2.2.1 + 1), p.2.2.1]) (by simp) (by simp)
      simp only [e2, Option.bind_some]
      simp only [e3, Option.bind_some]
      rw [if_pos ⟨b1, b2⟩, List.getElem?_eq_getElem (by omega : b.toNat < p.2.2.2.length), Option.bind_some]
      exact ⟨_, t3, rfl, ht3⟩
    · rw [decide_eq_false h0, cond_false]
      exact ⟨_, t1, rfl, ht1⟩
  | false => exact ⟨_, t1, rfl, ht1⟩

theorem tiles_loop {R : Type} (k : Nat) (hk : 4097 ≤ k) (r : Rc) (e0 : Bool → Option R) (e1 : Unit → Option R) : ∀ (n i j : Nat) (t : List Int × Int), 4 - i = n → i ≤ 4 → n < j → Tp t →
    tilefarmlaw14_PointwiseTiles.loop0 k j i r.1 r.2.1 r.2.2.1 r.2.2.2 t.1 t.2 e0 e1 = e1 () := by
  intro n
  induction n with
  | zero =>
    intro i j t hn hi hj ht
    obtain ⟨j, rfl⟩ : ∃ j', j = j' + 1 := ⟨j - 1, by omega⟩
    rw [tilefarmlaw14_PointwiseTiles.loop0_s, decide_eq_false (by omega)]
    rfl
  | succ n ih =>
    intro i j t hn hi hj ht
    obtain ⟨j, rfl⟩ : ∃ j', j = j' + 1 := ⟨j - 1, by omega⟩
    obtain ⟨p, t1, e1', p1, p2, p3, p4, _, _, _, ht1⟩ := mplane_ok k (by omega) (t := (t.1, t.2)) ht
    obtain ⟨m, pix, t2, e2, _, hl2, _, ht2⟩ := sized_ok k (by omega) ht1 (w := p.1) (h := p.2.1) (by omega) (by omega)
    obtain ⟨l, t3, e3, ht3⟩ := program_ok k (by omega) ht2
    obtain ⟨u, t4, e4, _, _, ht4⟩ := next_ok k ht3 (n := 2) (by omega) (by omega)
    obtain ⟨c, t5, e5, ht5⟩ := mrect_ok k ht4 (w := p.1) (h := p.2.1) (by omega) (by omega)
    rw [tilefarmlaw14_PointwiseTiles.loop0_s, decide_eq_true (by omega), cond_true]
    simp only [e1', Option.bind_some]
    simp only [e2, Option.bind_some]
    simp only [e3, Option.bind_some]
    simp only [e4, Option.bind_some]
    simp only [e5, Option.bind_some]
    have hnext : ∀ t', Tp t' → tilefarmlaw14_PointwiseTiles.loop0 k j (w64 ((i : Int) + 1)) r.1 r.2.1 r.2.2.1 r.2.2.2 t'.1 t'.2 e0 e1 = e1 () := fun t' h' => by
      rw [w64_succ i (by omega)]; exact ih (i + 1) j t' (by omega) (by omega) (by omega) h'
    have heq : ∀ (p q : Pl) (two : Bool) (l : List (Int × Int)) (r : Rc), tilefarmref4_Equal k (tspec p q two l 255 r).1 (tspec p q two l 255 r).1 = some ((true, ()), ()) := fun p q two l r => by
      have := tspec_length p q two l 255 r
      rw [equal_ok k (by omega) (by omega), decide_eq_true rfl]
    simp only [ptile_ok k hk, rtile_ok k hk, Option.bind_some, heq, Bool.not_true, cond_false, bne_self_eq_false]
    cases ((i : Int) == 2) with
    | true =>
      rw [cond_true]
      obtain ⟨v, t6, e6, _, _, ht6⟩ := next_ok k ht5 (n := 10) (by omega) (by omega)
      obtain ⟨q', t7, e7, ht7⟩ := spoilp_ok k ht6 (p.1, p.2.1, m, pix) hl2
      simp only [e6, Option.bind_some]
      cases v == 9 with
      | true => simp only [cond_true, e7, Option.bind_some]; exact hnext t7 ht7
      | false => exact hnext t6 ht6
    | false =>
      rw [cond_false]
      cases ((i : Int) == 3) with
      | true =>
        rw [cond_true]
        obtain ⟨p', t6, e6, _, _, _, _, _, _, hl6, ht6⟩ := mplane_ok k (by omega) ht5
        obtain ⟨v, t7, e7, _, _, ht7⟩ := next_ok k ht6 (n := 10) (by omega) (by omega)
        obtain ⟨q', t8, e8, ht8⟩ := spoilp_ok k ht7 p' hl6
        simp only [e6, Option.bind_some]
        simp only [e7, Option.bind_some]
        cases v == 9 with
        | true => simp only [cond_true, e8, Option.bind_some]; exact hnext t8 ht8
        | false => exact hnext t7 ht7
      | false =>
        rw [cond_false]
        obtain ⟨v, t6, e6, _, _, ht6⟩ := next_ok k ht5 (n := 10) (by omega) (by omega)
        obtain ⟨q', t7, e7, ht7⟩ := spoilp_ok k ht6 (p.1, p.2.1, m, pix) hl2
        simp only [e6, Option.bind_some]
        cases v == 9 with
        | true => simp only [cond_true, e7, Option.bind_some]; exact hnext t7 ht7
        | false => exact hnext t6 ht6

theorem tsane_ok : tilefarmlaw14_sane 5000 = some ((true, ()), ()) := by kernel_rfl

theorem tiles_pure (t : List Int) (ht : t.length ≤ 9223372036854775807) (r : Rc) : tilefarmlaw14_PointwiseTiles 5000 t r = some ((true, ()), ()) := by
  unfold tilefarmlaw14_PointwiseTiles
  have htp : Tp (t, 0) := ⟨Int.le_refl _, Int.natCast_nonneg _, ht⟩
  rw [show tilefarmgen_New 5000 t = some (((t, 0), ()), ()) from rfl, Option.bind_some]
  refine (tiles_loop 5000 (by omega) r _ _ 4 0 5000 (t, 0) rfl (by omega) (by omega) htp).trans ?_
  rw [tsane_ok]
  rfl
end Go.Lf.T

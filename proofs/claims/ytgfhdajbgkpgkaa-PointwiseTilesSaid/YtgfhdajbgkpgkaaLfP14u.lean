import Derived.Test.YtgfhdajbgkpgkaaLfP14t
/-! Lf: tiles of pointwise stages, in plain words. -/
set_option linter.unusedVariables false
set_option maxRecDepth 100000
namespace Go.Lf.T
open Go Go.Lf

def clampv (n m : Int) : Int := mm true (mm false n m) 0
theorem pclamp_ok (k : Nat) (n m : Int) : fixed_Clamp k n m = some ((clampv n m, ()), ()) := rfl
theorem rclamp_ok (k : Nat) (n : Int) {m : Int} (hm : 0 ≤ m) : tilefarmref7_Clamp k n m = some ((clampv n m, ()), ()) := by
  obtain ⟨v, h1, h2, _⟩ := clamp_ok k n hm
  rw [h2, ← h1, pclamp_ok]

/-- What a tile needs. -/
structure TileOk (p q : Pl) (two : Bool) (l : List (Int × Int)) (out : Int) (r : Rc) : Prop where
  hp : planeP p
  hq : two = true → planeP q ∧ p.1 = q.1 ∧ p.2.1 = q.2.1
  hv : vcode l true = 0
  hi : (iv l p.2.2.1 (if two = true then q.2.2.1 else 1)).2.2 = 0
  ho : 1 ≤ out ∧ out ≤ 4294967296
  hg : goodP r p.1 p.2.1

def wdt (r : Rc) : Nat := (r.2.2.1 - r.1).toNat
def hgt (r : Rc) : Nat := (r.2.2.2 - r.2.1).toNat
def spot (p : Pl) (r : Rc) (m : Nat) : Nat := ((r.2.1 + ((m / wdt r : Nat) : Int)) * p.1 + (r.1 + ((m % wdt r : Nat) : Int))).toNat
def tval (p q : Pl) (two : Bool) (l : List (Int × Int)) (out : Int) (r : Rc) (m : Nat) : Int :=
  clampv (rv l (p.2.2.2.getD (spot p r m) 0) (if two = true then q.2.2.2.getD (spot p r m) 0 else 0)).1 out

theorem spot_at {p : Pl} {r : Rc} {d c : Nat} (hc : c < wdt r) : spot p r (d * wdt r + c) = ((r.2.1 + (d : Int)) * p.1 + (r.1 + (c : Int))).toNat := by
  unfold spot
  rw [Nat.mul_comm, Nat.mul_add_div (by omega), Nat.div_eq_of_lt hc, Nat.mul_add_mod, Nat.mod_eq_of_lt hc, Nat.add_zero]

section
variable {p q : Pl} {two : Bool} {l : List (Int × Int)} {out : Int} {r : Rc}

theorem TileOk.dims (h : TileOk p q two l out r) : (wdt r : Int) = r.2.2.1 - r.1 ∧ (hgt r : Int) = r.2.2.2 - r.2.1 ∧ 1 ≤ wdt r ∧ 1 ≤ hgt r ∧ wdt r ≤ 128 ∧ hgt r ≤ 128 ∧ 0 ≤ r.1 ∧ 0 ≤ r.2.1 ∧ r.2.2.1 ≤ p.1 ∧ r.2.2.2 ≤ p.2.1 ∧ p.1 ≤ 128 ∧ p.2.1 ≤ 128 := by
  obtain ⟨g1, g2, g3, g4, g5, g6⟩ := h.hg
  obtain ⟨⟨s1, s2, s3, s4, s5, s6, s7⟩, _, _⟩ := h.hp
  unfold wdt hgt
  refine ⟨?_, ?_, ?_, ?_, ?_, ?_, g1, g2, g3, g4, s2, s4⟩ <;> omega

/-- The place of a point. -/
theorem TileOk.at (h : TileOk p q two l out r) {d c : Nat} (hd : d < hgt r) (hc : c < wdt r) : 0 ≤ (r.2.1 + (d : Int)) * p.1 ∧ (r.2.1 + (d : Int)) * p.1 ≤ 16384 ∧ 0 ≤ (r.2.1 + (d : Int)) * p.1 + (r.1 + (c : Int)) ∧ (r.2.1 + (d : Int)) * p.1 + (r.1 + (c : Int)) < p.2.2.2.length := by
  obtain ⟨w1, w2, w3, w4, w5, w6, g1, g2, g3, g4, s2, s4⟩ := h.dims
  obtain ⟨⟨s1, _, _, _, _, _, _⟩, hl, _⟩ := h.hp
  have k0 : 0 ≤ (r.2.1 + (d : Int)) * p.1 := Int.mul_nonneg (by omega) (by omega)
  have k1 : (r.2.1 + (d : Int) + 1) * p.1 ≤ p.2.1 * p.1 := Int.mul_le_mul_of_nonneg_right (by omega) (by omega)
  rw [Int.add_mul, Int.one_mul, Int.mul_comm p.2.1] at k1
  have k2 := mul_le_of (show 0 ≤ p.1 by omega) s2 (show 0 ≤ p.2.1 by omega) s4
  omega

theorem TileOk.get (h : TileOk p q two l out r) {d c : Nat} (hd : d < hgt r) (hc : c < wdt r) : p.2.2.2[((r.2.1 + (d : Int)) * p.1 + (r.1 + (c : Int))).toNat]? = some (p.2.2.2.getD (spot p r (d * wdt r + c)) 0) ∧ 0 ≤ p.2.2.2.getD (spot p r (d * wdt r + c)) 0 ∧ p.2.2.2.getD (spot p r (d * wdt r + c)) 0 ≤ p.2.2.1 := by
  obtain ⟨a1, a2, a3, a4⟩ := h.at hd hc
  rw [spot_at hc]
  have hlt : ((r.2.1 + (d : Int)) * p.1 + (r.1 + (c : Int))).toNat < p.2.2.2.length := by omega
  refine ⟨getD_of hlt, ?_⟩
  rw [List.getD_eq_getElem?_getD, List.getElem?_eq_getElem hlt]
  exact h.hp.2.2 _ (List.getElem_mem _)

theorem TileOk.get2 (h : TileOk p q two l out r) (ht : two = true) {d c : Nat} (hd : d < hgt r) (hc : c < wdt r) : q.2.2.2[((r.2.1 + (d : Int)) * p.1 + (r.1 + (c : Int))).toNat]? = some (q.2.2.2.getD (spot p r (d * wdt r + c)) 0) ∧ 0 ≤ q.2.2.2.getD (spot p r (d * wdt r + c)) 0 ∧ q.2.2.2.getD (spot p r (d * wdt r + c)) 0 ≤ q.2.2.1 := by
  obtain ⟨a1, a2, a3, a4⟩ := h.at hd hc
  obtain ⟨q1, q2, q3⟩ := h.hq ht
  have e : (q.2.2.2.length : Int) = p.2.2.2.length := by rw [q1.2.1, h.hp.2.1, q2, q3]
  rw [spot_at hc]
  have hlt : ((r.2.1 + (d : Int)) * p.1 + (r.1 + (c : Int))).toNat < q.2.2.2.length := by omega
  refine ⟨getD_of hlt, ?_⟩
  rw [List.getD_eq_getElem?_getD, List.getElem?_eq_getElem hlt]
  exact q1.2.2 _ (List.getElem_mem _)

/-- No value is too great. -/
theorem TileOk.run (h : TileOk p q two l out r) {a b : Int} (ha : 0 ≤ a ∧ a ≤ p.2.2.1) (hb : 0 ≤ b ∧ b ≤ (if two = true then q.2.2.1 else 1)) : (rv l a b).2 = 0 ∧ ev l a b = rv l a b := by
  have hm := h.hp.1.2.2.2.2.2.2
  have hm2 : (if two = true then q.2.2.1 else 1) ≤ 4294967296 := by
    split
    · rename_i ht; exact (h.hq ht).1.1.2.2.2.2.2.2
    · omega
  have he : ev l a b = rv l a b := by
    unfold ev
    rw [if_neg (fun hh => hh h.hv), if_pos (by omega)]
  refine ⟨?_, he⟩
  rcases within (l := l) ha hb with ⟨_, h2, _⟩ | ⟨h1, _⟩
  · rw [← he]; exact h2
  · exact (h1 h.hi).elim

theorem TileOk.two0 (h : TileOk p q two l out r) (m : Nat) (hm : two = true → 0 ≤ q.2.2.2.getD (spot p r m) 0 ∧ q.2.2.2.getD (spot p r m) 0 ≤ q.2.2.1) : 0 ≤ (if two = true then q.2.2.2.getD (spot p r m) 0 else 0) ∧ (if two = true then q.2.2.2.getD (spot p r m) 0 else 0) ≤ (if two = true then q.2.2.1 else 1) := by
  cases two with
  | false => simp
  | true => simpa using hm rfl

theorem ptile1 {R : Type} {k : Nat} (hk : 4097 ≤ k) (h : TileOk p q two l out r) (b0 b1 b2 : Int) (b3 : List Int) (c0 c1 c2 : Int) (e0 : Int → Int → Int → Int → List Int → Option R) (e1 : Int → Int → Int → List Int → Int → Int → Int → List Int → Int → Int → Int → Int → Int → Int → Int → List Int → Int → Int → Int → List Int → Option R) {d : Nat} (hd : d < hgt r) :
    ∀ (n c j : Nat), wdt r - c = n → c ≤ wdt r → n < j →
    pointwise_Tile.loop1 k j two l out (r.2.1 + (d : Int)) (r.1 + (c : Int)) p.1 p.2.1 p.2.2.1 p.2.2.2 q.1 q.2.1 q.2.2.1 q.2.2.2 r.1 r.2.1 r.2.2.1 r.2.2.2 b0 b1 b2 b3 c0 c1 c2 ((List.range (d * wdt r + c)).map (tval p q two l out r)) e0 e1 =
      e1 p.1 p.2.1 p.2.2.1 p.2.2.2 q.1 q.2.1 q.2.2.1 q.2.2.2 r.1 r.2.1 r.2.2.1 r.2.2.2 b0 b1 b2 b3 c0 c1 c2 ((List.range ((d + 1) * wdt r)).map (tval p q two l out r)) := by
  obtain ⟨w1, w2, w3, w4, w5, w6, g1, g2, g3, g4, s2, s4⟩ := h.dims
  intro n
  induction n with
  | zero =>
    intro c j hn hc hj
    obtain ⟨j, rfl⟩ : ∃ j', j = j' + 1 := ⟨j - 1, by omega⟩
    rw [pointwise_Tile.loop1_s, decide_eq_false (by omega), cond_false, show c = wdt r by omega, Nat.add_mul, Nat.one_mul]
  | succ n ih =>
    intro c j hn hc hj
    obtain ⟨j, rfl⟩ : ∃ j', j = j' + 1 := ⟨j - 1, by omega⟩
    have hlt : c < wdt r := by omega
    obtain ⟨a1, a2, a3, a4⟩ := h.at hd hlt
    obtain ⟨x1, x2, x3⟩ := h.get hd hlt
    have hx2 := fun ht => h.get2 ht hd hlt
    have hN : d * wdt r ≤ 128 * 128 := Nat.mul_le_mul (by omega) w5
    obtain ⟨v1, v2⟩ := h.run ⟨x2, x3⟩ (h.two0 (d * wdt r + c) fun ht => (hx2 ht).2)
    obtain ⟨o1, o2, o3⟩ := vcode_hOk h.hv
    have hrun := prun_ok k (a := p.2.2.2.getD (spot p r (d * wdt r + c)) 0) (b := if two = true then q.2.2.2.getD (spot p r (d * wdt r + c)) 0 else 0) (by omega) o2 o3
    have hnext := ih (c + 1) j (by omega) (by omega) (by omega)
    rw [← Nat.add_assoc, List.range_succ, List.map_append, show ((c + 1 : Nat) : Int) = (c : Int) + 1 from rfl, ← Int.add_assoc] at hnext
    have hl : ((List.range (d * wdt r + c)).map (tval p q two l out r) ++ [clampv (rv l (p.2.2.2.getD (spot p r (d * wdt r + c)) 0) (if two = true then q.2.2.2.getD (spot p r (d * wdt r + c)) 0 else 0)).1 out]).length * 8 ≤ 140737488355328 := by
      rw [List.length_append, List.length_map, List.length_range]; show (_ + 1) * 8 ≤ _; omega
    rw [pointwise_Tile.loop1_s, decide_eq_true (by omega), cond_true, w64_id (n := (r.2.1 + (d : Int)) * p.1) (by omega) (by omega), w64_id (n := (r.2.1 + (d : Int)) * p.1 + (r.1 + (c : Int))) (by omega) (by omega), w64_id (n := r.1 + (c : Int) + 1) (by omega) (by omega)]
    rw [x1]
    cases two with
    | true =>
      simp only [if_true] at hrun hl v1
      rw [cond_true, if_pos a3, (hx2 rfl).1]
      simp only [Option.bind_some]
      rw [if_pos a3, hrun]
      simp only [Option.bind_some, v1]
      rw [bne_self_eq_false, cond_false, pclamp_ok]
      simp only [Option.bind_some]
      rw [if_pos hl]
      exact hnext
    | false =>
      simp only [Bool.false_eq_true, if_false] at hrun hl v1
      rw [cond_false, if_pos a3]
      simp only [Option.bind_some]
      rw [hrun]
      simp only [Option.bind_some, v1]
      rw [bne_self_eq_false, cond_false, pclamp_ok]
      simp only [Option.bind_some]
      rw [if_pos hl]
      exact hnext

theorem ptile0 {R : Type} {k : Nat} (hk : 4097 ≤ k) (h : TileOk p q two l out r) (b0 b1 b2 : Int) (b3 : List Int) (c0 c1 c2 : Int) (e0 : Int → Int → Int → Int → List Int → Option R) (e1 : Int → Int → Int → List Int → Int → Int → Int → List Int → Option R) :
    ∀ (n d j : Nat), hgt r - d = n → d ≤ hgt r → n < j →
    pointwise_Tile.loop0 k j two l out (r.2.1 + (d : Int)) p.1 p.2.1 p.2.2.1 p.2.2.2 q.1 q.2.1 q.2.2.1 q.2.2.2 r.1 r.2.1 r.2.2.1 r.2.2.2 b0 b1 b2 b3 c0 c1 c2 ((List.range (d * wdt r)).map (tval p q two l out r)) e0 e1 =
      e1 b0 b1 b2 b3 c0 c1 c2 ((List.range (hgt r * wdt r)).map (tval p q two l out r)) := by
  obtain ⟨w1, w2, w3, w4, w5, w6, g1, g2, g3, g4, s2, s4⟩ := h.dims
  intro n
  induction n with
  | zero =>
    intro d j hn hd hj
    obtain ⟨j, rfl⟩ : ∃ j', j = j' + 1 := ⟨j - 1, by omega⟩
    rw [pointwise_Tile.loop0_s, decide_eq_false (by omega), cond_false, show d = hgt r by omega]
  | succ n ih =>
    intro d j hn hd hj
    obtain ⟨j, rfl⟩ : ∃ j', j = j' + 1 := ⟨j - 1, by omega⟩
    rw [pointwise_Tile.loop0_s, decide_eq_true (by omega), cond_true]
    have := ptile1 hk h b0 b1 b2 b3 c0 c1 c2 e0 (fun (z13 : Int) (z14 : Int) (z15 : Int) (z16 : List Int) (z17 : Int) (z18 : Int) (z19 : Int) (z20 : List Int) (z21 : Int) (z22 : Int) (z23 : Int) (z24 : Int) (z25 : Int) (z26 : Int) (z27 : Int) (z28 : List Int) (z29 : Int) (z30 : Int) (z31 : Int) (z32 : List Int) => (pointwise_Tile.loop0 k j two l out (w64 (r.2.1 + (d : Int) + 1)) z13 z14 z15 z16 z17 z18 z19 z20 z21 z22 z23 z24 z25 z26 z27 z28 z29 z30 z31 z32 e0 e1)) (d := d) (by omega) (wdt r) 0 k rfl (by omega) (by omega)
    rw [Nat.add_zero, show r.1 + ((0 : Nat) : Int) = r.1 from Int.add_zero _] at this
    refine this.trans ?_
    rw [w64_id (n := r.2.1 + (d : Int) + 1) (by omega) (by omega), Int.add_assoc]
    exact ih (d + 1) j (by omega) (by omega) (by omega)

/-- The reference's list after some of the values. -/
def part (N : Nat) (f : Nat → Int) (m : Nat) : List Int := (List.range N).map fun i => if i < m then f i else 0
theorem part_length {N : Nat} {f : Nat → Int} {m : Nat} : (part N f m).length = N := by unfold part; rw [List.length_map, List.length_range]
theorem part_zero (N : Nat) (f : Nat → Int) : List.replicate N (0 : Int) = part N f 0 := by
  apply List.ext_getElem
  · rw [part_length, List.length_replicate]
  · intro i h1 h2; simp [part]
theorem part_all (N : Nat) (f : Nat → Int) : part N f N = (List.range N).map f := by
  unfold part
  apply List.map_congr_left
  intro i hi
  rw [if_pos (List.mem_range.1 hi)]
theorem part_set {N : Nat} {f : Nat → Int} {m : Nat} (hm : m < N) : (part N f m).set m (f m) = part N f (m + 1) := by
  apply List.ext_getElem
  · rw [List.length_set, part_length, part_length]
  · intro i h1 h2
    rw [List.getElem_set]
    by_cases e : m = i
    · subst e; rw [if_pos rfl]; simp [part]
    · rw [if_neg e]
      simp only [part, List.getElem_map, List.getElem_range]
      by_cases e2 : i < m
      · rw [if_pos e2, if_pos (by omega)]
      · rw [if_neg e2, if_neg (by omega)]

theorem rtile1 {R : Type} {k : Nat} (hk : 4097 ≤ k) (h : TileOk p q two l out r) (c1 c2 : Int) (e0 : Int → Int → Int → List Int → Int → Int → Int → List Int → Int → Int → Int → Int → Int → Int → Int → List Int → Option R) {d : Nat} (hd : d < hgt r) :
    ∀ (n c j : Nat), wdt r - c = n → c ≤ wdt r → n < j →
    tilefarmref14_Tile.loop1 k j two l out (r.2.1 + (d : Int)) (r.1 + (c : Int)) p.1 p.2.1 p.2.2.1 p.2.2.2 q.1 q.2.1 q.2.2.1 q.2.2.2 r.1 r.2.1 r.2.2.1 r.2.2.2 (r.2.2.1 - r.1) c1 c2 (part (hgt r * wdt r) (tval p q two l out r) (d * wdt r + c)) e0 =
      e0 p.1 p.2.1 p.2.2.1 p.2.2.2 q.1 q.2.1 q.2.2.1 q.2.2.2 r.1 r.2.1 r.2.2.1 r.2.2.2 (r.2.2.1 - r.1) c1 c2 (part (hgt r * wdt r) (tval p q two l out r) ((d + 1) * wdt r)) := by
  obtain ⟨w1, w2, w3, w4, w5, w6, g1, g2, g3, g4, s2, s4⟩ := h.dims
  intro n
  induction n with
  | zero =>
    intro c j hn hc hj
    obtain ⟨j, rfl⟩ : ∃ j', j = j' + 1 := ⟨j - 1, by omega⟩
    rw [tilefarmref14_Tile.loop1_s, decide_eq_false (by omega), cond_false, show c = wdt r by omega, Nat.add_mul, Nat.one_mul]
  | succ n ih =>
    intro c j hn hc hj
    obtain ⟨j, rfl⟩ : ∃ j', j = j' + 1 := ⟨j - 1, by omega⟩
    have hlt : c < wdt r := by omega
    obtain ⟨a1, a2, a3, a4⟩ := h.at hd hlt
    obtain ⟨x1, x2, x3⟩ := h.get hd hlt
    have hx2 := fun ht => h.get2 ht hd hlt
    have hN : d * wdt r ≤ 128 * 128 := Nat.mul_le_mul (by omega) w5
    have hM : (d + 1) * wdt r ≤ hgt r * wdt r := Nat.mul_le_mul (by omega) (Nat.le_refl _)
    rw [Nat.add_mul, Nat.one_mul] at hM
    have hm : d * wdt r + c < hgt r * wdt r := by omega
    obtain ⟨v1, v2⟩ := h.run ⟨x2, x3⟩ (h.two0 (d * wdt r + c) fun ht => (hx2 ht).2)
    have hrun := reval_ok k l (p.2.2.2.getD (spot p r (d * wdt r + c)) 0) (if two = true then q.2.2.2.getD (spot p r (d * wdt r + c)) 0 else 0) (by omega)
    rw [v2] at hrun
    have hnext := ih (c + 1) j (by omega) (by omega) (by omega)
    rw [← Nat.add_assoc, ← part_set hm, show ((c + 1 : Nat) : Int) = (c : Int) + 1 from rfl, ← Int.add_assoc] at hnext
    have e1 : (r.2.1 + (d : Int) - r.2.1) * (r.2.2.1 - r.1) = ((d * wdt r : Nat) : Int) := by
      rw [show r.2.1 + (d : Int) - r.2.1 = (d : Int) by omega, ← w1]; simp
    have e2 : ((d * wdt r : Nat) : Int) + (r.1 + (c : Int)) - r.1 = ((d * wdt r + c : Nat) : Int) := by omega
    rw [tilefarmref14_Tile.loop1_s, decide_eq_true (by omega), cond_true, w64_id (n := (r.2.1 + (d : Int)) * p.1) (by omega) (by omega), w64_id (n := (r.2.1 + (d : Int)) * p.1 + (r.1 + (c : Int))) (by omega) (by omega), w64_id (n := r.1 + (c : Int) + 1) (by omega) (by omega),
      w64_id (n := r.2.1 + (d : Int) - r.2.1) (by omega) (by omega), e1, w64_id (n := ((d * wdt r : Nat) : Int)) (by omega) (by omega), w64_id (n := ((d * wdt r : Nat) : Int) + (r.1 + (c : Int))) (by omega) (by omega), e2, w64_id (n := ((d * wdt r + c : Nat) : Int)) (by omega) (by omega)]
    have hset : 0 ≤ ((d * wdt r + c : Nat) : Int) ∧ ((d * wdt r + c : Nat) : Int) < (((part (hgt r * wdt r) (tval p q two l out r) (d * wdt r + c)).length : Nat) : Int) := by rw [part_length]; omega
    have hget : (part (hgt r * wdt r) (tval p q two l out r) (d * wdt r + c))[d * wdt r + c]? = some ((part (hgt r * wdt r) (tval p q two l out r) (d * wdt r + c)).getD (d * wdt r + c) 0) := getD_of (by rw [part_length]; exact hm)
    cases two with
    | true =>
      obtain ⟨q1, q2, q3⟩ := h.hq rfl
      simp only [if_true] at hrun
      rw [cond_true, ← q2, w64_id (n := (r.2.1 + (d : Int)) * p.1) (by omega) (by omega), w64_id (n := (r.2.1 + (d : Int)) * p.1 + (r.1 + (c : Int))) (by omega) (by omega), if_pos a3, (hx2 rfl).1]
      simp only [Option.bind_some]
      rw [if_pos a3, x1]
      simp only [Option.bind_some]
      rw [hrun]
      simp only [Option.bind_some]
      rw [rclamp_ok k _ (by have := h.ho; omega)]
      simp only [Option.bind_some]
      rw [if_pos hset, Int.toNat_natCast, hget]
      simp only [Option.bind_some]
      rw [← q2] at hnext
      exact hnext
    | false =>
      simp only [Bool.false_eq_true, if_false] at hrun
      rw [cond_false, if_pos a3, x1]
      simp only [Option.bind_some]
      rw [hrun]
      simp only [Option.bind_some]
      rw [rclamp_ok k _ (by have := h.ho; omega)]
      simp only [Option.bind_some]
      rw [if_pos hset, Int.toNat_natCast, hget]
      simp only [Option.bind_some]
      exact hnext

theorem rtile0 {R : Type} {k : Nat} (hk : 4097 ≤ k) (h : TileOk p q two l out r) (c1 c2 : Int) (e0 : Int → Int → Int → List Int → Option R) :
    ∀ (n d j : Nat), hgt r - d = n → d ≤ hgt r → n < j →
    tilefarmref14_Tile.loop0 k j two l out (r.2.1 + (d : Int)) p.1 p.2.1 p.2.2.1 p.2.2.2 q.1 q.2.1 q.2.2.1 q.2.2.2 r.1 r.2.1 r.2.2.1 r.2.2.2 (r.2.2.1 - r.1) c1 c2 (part (hgt r * wdt r) (tval p q two l out r) (d * wdt r)) e0 =
      e0 (r.2.2.1 - r.1) c1 c2 (part (hgt r * wdt r) (tval p q two l out r) (hgt r * wdt r)) := by
  obtain ⟨w1, w2, w3, w4, w5, w6, g1, g2, g3, g4, s2, s4⟩ := h.dims
  intro n
  induction n with
  | zero =>
    intro d j hn hd hj
    obtain ⟨j, rfl⟩ : ∃ j', j = j' + 1 := ⟨j - 1, by omega⟩
    rw [tilefarmref14_Tile.loop0_s, decide_eq_false (by omega), cond_false, show d = hgt r by omega]
  | succ n ih =>
    intro d j hn hd hj
    obtain ⟨j, rfl⟩ : ∃ j', j = j' + 1 := ⟨j - 1, by omega⟩
    rw [tilefarmref14_Tile.loop0_s, decide_eq_true (by omega), cond_true]
    have := rtile1 hk h c1 c2 (fun (z8 : Int) (z9 : Int) (z10 : Int) (z11 : List Int) (z12 : Int) (z13 : Int) (z14 : Int) (z15 : List Int) (z16 : Int) (z17 : Int) (z18 : Int) (z19 : Int) (z20 : Int) (z21 : Int) (z22 : Int) (z23 : List Int) => (tilefarmref14_Tile.loop0 k j two l out (w64 (r.2.1 + (d : Int) + 1)) z8 z9 z10 z11 z12 z13 z14 z15 z16 z17 z18 z19 z20 z21 z22 z23 e0)) (d := d) (by omega) (wdt r) 0 k rfl (by omega) (by omega)
    rw [Nat.add_zero, show r.1 + ((0 : Nat) : Int) = r.1 from Int.add_zero _] at this
    refine this.trans ?_
    rw [w64_id (n := r.2.1 + (d : Int) + 1) (by omega) (by omega), Int.add_assoc]
    exact ih (d + 1) j (by omega) (by omega) (by omega)
end

/-- The result of a tile. -/
def tspec (p q : Pl) (two : Bool) (l : List (Int × Int)) (out : Int) (r : Rc) : Pl × Int :=
  if planeP p ∧ (two = true → planeP q) then
    if vcode l two ≠ 0 then ((0, 0, 0, []), vcode l two)
    else if 1 ≤ out ∧ out ≤ 4294967296 then
      if (iv l p.2.2.1 (if two = true then q.2.2.1 else 1)).2.2 ≠ 0 then ((0, 0, 0, []), (iv l p.2.2.1 (if two = true then q.2.2.1 else 1)).2.2)
      else if (two = true → p.1 = q.1 ∧ p.2.1 = q.2.1) ∧ goodP r p.1 p.2.1 then
        ((r.2.2.1 - r.1, r.2.2.2 - r.2.1, out, (List.range (hgt r * wdt r)).map (tval p q two l out r)), 0)
      else ((0, 0, 0, []), 8)
    else ((0, 0, 0, []), 2)
  else ((0, 0, 0, []), 1)

theorem iv_valid {l : List (Int × Int)} {a b : Int} (h : (iv l a b).2.2 = 0) : vcode l true = 0 := by
  unfold iv at h
  by_cases hv : vcode l true = 0
  · exact hv
  · rw [if_pos hv] at h; exact (hv h).elim
end Go.Lf.T

import Derived.Test.YtgfhdajbgkpgkaaLfP14d
/-! Lf: made programs. -/
set_option linter.unusedVariables false
set_option maxRecDepth 100000
namespace Go.Lf.T
open Go Go.Lf

/-! ### The tape -/
def Tp (t : List Int × Int) : Prop := 0 ≤ t.2 ∧ t.2 ≤ t.1.length ∧ t.1.length ≤ 9223372036854775807

theorem next_ok (k : Nat) {t : List Int × Int} (ht : Tp t) {n : Int} (h1 : 0 < n) (h2 : n ≤ 4611686018427387904) : ∃ v t', tilefarmgen_Tape_Next k t n = some ((v, ()), (t', ())) ∧ 0 ≤ v ∧ v < n ∧ Tp t' := by
  obtain ⟨a1, a2, a3⟩ := ht
  unfold tilefarmgen_Tape_Next
  rw [decide_eq_false (by omega), cond_false]
  by_cases h : t.2 ≥ t.1.length
  · rw [decide_eq_true h, cond_true]
    exact ⟨0, t, rfl, by omega, h1, a1, a2, a3⟩
  · rw [decide_eq_false h, cond_false, w64_id (n := t.2 + 1) (by omega) (by omega), Int.add_sub_cancel, w64_id (n := t.2) (by omega) (by omega), if_pos a1]
    obtain ⟨v, hv, v1, v2⟩ := mod_ok k (t.1[t.2.toNat]'(by omega)) n h1 h2
    rw [List.getElem?_eq_getElem (by omega), Option.bind_some, hv]
    exact ⟨v, (t.1, t.2 + 1), rfl, v1, v2, show 0 ≤ t.2 + 1 by omega, show t.2 + 1 ≤ t.1.length by omega, a3⟩

theorem pick_ok (k : Nat) {t : List Int × Int} (ht : Tp t) {l : List Int} (h1 : 0 < l.length) (h2 : l.length ≤ 1000) : ∃ v t', tilefarmgen_Tape_Pick k t l = some ((v, ()), (t', ())) ∧ v ∈ l ∧ Tp t' := by
  obtain ⟨i, t', hn, i1, i2, ht'⟩ := next_ok k ht (n := (l.length : Int)) (by omega) (by omega)
  unfold tilefarmgen_Tape_Pick
  rw [hn]
  simp only [Option.bind_some]
  rw [if_pos i1, List.getElem?_eq_getElem (by omega : i.toNat < l.length)]
  exact ⟨_, t', rfl, List.getElem_mem _, ht'⟩

/-! ### Programs in pieces -/
def isChunk (c : List (Int × Int)) : Prop := (∃ x op, c = [(2, x), (op, 0)] ∧ -100 ≤ x ∧ x ≤ 199 ∧ 3 ≤ op ∧ op ≤ 9) ∨ (∃ s, c = [(10, s)] ∧ 0 ≤ s ∧ s ≤ 3) ∨ c = [(11, 0)]

theorem isChunk_length {c : List (Int × Int)} (h : isChunk c) : c.length ≤ 2 := by
  rcases h with ⟨x, op, rfl, _⟩ | ⟨s, rfl, _⟩ | rfl <;> simp

def ops37 : List Int := [3, 4, 5, 6, 7, 8, 9]
theorem ops37_mem {v : Int} (h : v ∈ ops37) : 3 ≤ v ∧ v ≤ 9 := by simp [ops37] at h; omega

theorem ops_loop {R : Type} (k : Nat) (e0 : List Int → Int → List (Int × Int) → Option R) : ∀ (n j : Nat) (t : List Int × Int) (l : List (Int × Int)), n < j → n ≤ 10 → Tp t → l.length + 2 * n ≤ 100 →
    ∃ (cs : List (List (Int × Int))) (t' : List Int × Int), tilefarmgen_Tape_Ops.loop0 k j n t.1 t.2 l e0 = e0 t'.1 t'.2 (l ++ cs.flatten) ∧ cs.length = n ∧ (∀ c ∈ cs, isChunk c) ∧ Tp t' := by
  intro n
  induction n with
  | zero =>
    intro j t l hj hn ht hl
    obtain ⟨j, rfl⟩ : ∃ j', j = j' + 1 := ⟨j - 1, by omega⟩
    refine ⟨[], t, ?_, rfl, fun c hc => (by cases hc), ht⟩
    rw [tilefarmgen_Tape_Ops.loop0_s, decide_eq_false (by omega), cond_false]
    simp
  | succ n ih =>
    intro j t l hj hn ht hl
    obtain ⟨j, rfl⟩ : ∃ j', j = j' + 1 := ⟨j - 1, by omega⟩
    have hw : w64 ((((n + 1 : Nat)) : Int) - 1) = (n : Int) := by rw [w64_id (by omega) (by omega)]; omega
    have go : ∀ (c : List (Int × Int)) (t1 : List Int × Int), isChunk c → Tp t1 → ∃ (cs : List (List (Int × Int))) (t' : List Int × Int), (if (l ++ c).length * 16 ≤ 140737488355328 then tilefarmgen_Tape_Ops.loop0 k j (w64 ((((n + 1 : Nat)) : Int) - 1)) t1.1 t1.2 (l ++ c) e0 else none) = e0 t'.1 t'.2 (l ++ cs.flatten) ∧ cs.length = n + 1 ∧ (∀ c ∈ cs, isChunk c) ∧ Tp t' := by
      intro c t1 hc ht1
      have hcl := isChunk_length hc
      obtain ⟨cs, t', h1, h2, h3, h4⟩ := ih j t1 (l ++ c) (by omega) (by omega) ht1 (by rw [List.length_append]; omega)
      refine ⟨c :: cs, t', ?_, by rw [List.length_cons, h2], fun x hx => ?_, h4⟩
      · rw [if_pos (by rw [List.length_append]; omega), hw, h1, List.flatten_cons, List.append_assoc]
      · rcases List.mem_cons.1 hx with rfl | hx
        · exact hc
        · exact h3 x hx
    rw [tilefarmgen_Tape_Ops.loop0_s, decide_eq_true (by omega), cond_true]
    obtain ⟨v, t1, e1, v1, v2, ht1⟩ := next_ok k (t := (t.1, t.2)) ht (n := 3) (by omega) (by omega)
    rw [e1, Option.bind_some]
    by_cases h0 : v = 0
    · have e : (v == 0) = true := by simpa using h0
      simp only [e, cond_true]
      obtain ⟨v3, t3, e3, a1, a2, ht3⟩ := next_ok k ht1 (n := 300) (by omega) (by omega)
      rw [e3, Option.bind_some]
      obtain ⟨v4, t4, e4, a3, ht4⟩ := pick_ok k ht3 (l := [w64 (v3 - 100), 0, 3, (-2)]) (by simp) (by simp)
      simp only [e4, Option.bind_some]
      obtain ⟨v5, t5, e5, a5, ht5⟩ := pick_ok k ht4 (l := [3, 4, 5, 6, 7, 8, 9]) (by simp) (by simp)
      simp only [e5, Option.bind_some]
      have hx : -100 ≤ v4 ∧ v4 ≤ 199 := by
        rw [w64_id (n := v3 - 100) (by omega) (by omega)] at a3
        simp at a3
        omega
      have hop := ops37_mem a5
      exact go [(2, v4), (v5, 0)] t5 (.inl ⟨v4, v5, rfl, hx.1, hx.2, hop.1, hop.2⟩) ht5
    · have e : (v == 0) = false := by simpa using h0
      simp only [e, cond_false]
      by_cases h1 : v = 1
      · have e : (v == 1) = true := by simpa using h1
        simp only [e, cond_true]
        obtain ⟨v3, t3, e3, a1, a2, ht3⟩ := next_ok k ht1 (n := 4) (by omega) (by omega)
        rw [e3, Option.bind_some]
        exact go [(10, v3)] t3 (.inr (.inl ⟨v3, rfl, a1, by omega⟩)) ht3
      · have e : (v == 1) = false := by simpa using h1
        simp only [e, cond_false]
        exact go [(11, 0)] t1 (.inr (.inr rfl)) ht1

theorem opsTrue (k : Nat) (hk : 5 ≤ k) {t : List Int × Int} (ht : Tp t) : ∃ (op : Int) (cs : List (List (Int × Int))) (t' : List Int × Int), tilefarmgen_Tape_Ops k t true = some (([(0, 0), (1, 0), (op, 0)] ++ cs.flatten, ()), (t', ())) ∧ 3 ≤ op ∧ op ≤ 9 ∧ cs.length ≤ 3 ∧ (∀ c ∈ cs, isChunk c) ∧ Tp t' := by
  unfold tilefarmgen_Tape_Ops
  rw [cond_true]
  obtain ⟨op, t1, e1, a1, ht1⟩ := pick_ok k ht (l := [3, 4, 5, 6, 7, 8, 9]) (by simp) (by simp)
  obtain ⟨n, t2, e2, b1, b2, ht2⟩ := next_ok k ht1 (n := 4) (by omega) (by omega)
  have hop := ops37_mem a1
  rw [e1, Option.bind_some, if_pos (by simp)]
  simp only [e2, Option.bind_some]
  obtain ⟨m, rfl⟩ : ∃ m : Nat, n = m := ⟨n.toNat, by omega⟩
  obtain ⟨cs, t', h1, h2, h3, h4⟩ := ops_loop k (fun (z8 : List Int) (z9 : Int) (z10 : List (Int × Int)) => some ((z10, ()), ((z8, z9), ()))) m k t2 ([(0, 0)] ++ [(1, 0), (op, 0)]) (by omega) (by omega) ht2 (by simp; omega)
  exact ⟨op, cs, t', h1, hop.1, hop.2, by omega, h3, h4⟩

theorem opsFalse (k : Nat) (hk : 5 ≤ k) {t : List Int × Int} (ht : Tp t) : ∃ (cs : List (List (Int × Int))) (t' : List Int × Int), tilefarmgen_Tape_Ops k t false = some (([(0, 0)] ++ cs.flatten, ()), (t', ())) ∧ cs.length ≤ 3 ∧ (∀ c ∈ cs, isChunk c) ∧ Tp t' := by
  unfold tilefarmgen_Tape_Ops
  rw [cond_false]
  obtain ⟨n, t2, e2, b1, b2, ht2⟩ := next_ok k ht (n := 4) (by omega) (by omega)
  simp only [e2, Option.bind_some]
  obtain ⟨m, rfl⟩ : ∃ m : Nat, n = m := ⟨n.toNat, by omega⟩
  obtain ⟨cs, t', h1, h2, h3, h4⟩ := ops_loop k (fun (z8 : List Int) (z9 : Int) (z10 : List (Int × Int)) => some ((z10, ()), ((z8, z9), ()))) m k t2 [(0, 0)] (by omega) (by omega) ht2 (by simp; omega)
  exact ⟨cs, t', h1, by omega, h3, h4⟩

/-! ### Their values -/
def cval (c : List (Int × Int)) (v : Int) : Int :=
  match c with
  | [o] => estep 0 0 o v 0
  | [o1, o2] => estep 0 0 o2 v o1.2
  | _ => v

def cvals (cs : List (List (Int × Int))) (v : Int) : Int := cs.foldl (fun v c => cval c v) v

theorem res_ab {op v x B : Int} (hv : ab v ≤ B) (hx1 : -100 ≤ x) (hx2 : x ≤ 199) (hB : B * 200 + 200 ≤ 17592186044416) : ab (res op v x) ≤ B * 200 + 200 := by
  have hB0 : 0 ≤ B := Int.le_trans (ab_nonneg v) hv
  have hv' := ab_le.1 hv
  have hmul : ab (v * x) ≤ B * 200 := by
    rw [ab_mul]
    have hx : ab x ≤ 200 := ab_le.2 (by omega)
    exact Int.mul_le_mul hv hx (ab_nonneg x) hB0
  unfold res
  split
  · exact ab_le.2 (by omega)
  split
  · exact ab_le.2 (by omega)
  split
  · unfold tms
    split
    · rename_i h
      exfalso
      have h0 : 0 < ab v := by have := ab_nonneg v; have := mt ab_zero.1 h.1; omega
      rw [ab_mul] at hmul
      have : ab x ≤ 17592186044416 / ab v := (Int.le_ediv_iff_mul_le h0).2 (by rw [Int.mul_comm]; omega)
      omega
    · omega
  split
  · unfold mm; simp only; exact ab_le.2 (by split <;> omega)
  split
  · unfold mm; simp only; exact ab_le.2 (by split <;> omega)
  split
  · exact ab_le.2 (by unfold ab; split <;> omega)
  · have := dvd_ab (x := v) (y := x); omega

theorem cval_ab {c : List (Int × Int)} (hc : isChunk c) {v B : Int} (hv : ab v ≤ B) (hB : B * 200 + 200 ≤ 17592186044416) : ab (cval c v) ≤ B * 200 + 200 := by
  have hB0 : 0 ≤ B := Int.le_trans (ab_nonneg v) hv
  rcases hc with ⟨x, op, rfl, x1, x2, o1, o2⟩ | ⟨s, rfl, s1, s2⟩ | rfl
  · have e : cval [(2, x), (op, 0)] v = res op v x := by
      show estep 0 0 (op, 0) v x = _
      unfold estep
      rw [if_neg (show ¬ op = 0 by omega), if_neg (show ¬ op = 1 by omega), if_neg (show ¬ op = 2 by omega), if_neg (show ¬ op = 10 by omega), if_neg (show ¬ op = 11 by omega)]
    rw [e]
    exact res_ab hv x1 x2 hB
  · have : ab (shf v s) ≤ ab v := shf_ab s1 (by omega)
    show ab (shf v s) ≤ _
    omega
  · show ab (ab v) ≤ _
    have := ab_nonneg v
    exact ab_le.2 (by omega)

theorem erun_chunk {R : Type} {c : List (Int × Int)} (hc : isChunk c) (a b : Int) (e0 : Option R) (e1 : List Int → Option R) (l : List (Int × Int)) {v : Int} (h : inM (cval c v)) : erun a b e0 e1 (c ++ l) [v] = erun a b e0 e1 l [cval c v] := by
  rcases hc with ⟨x, op, rfl, x1, x2, o1, o2⟩ | ⟨s, rfl, s1, s2⟩ | rfl
  · have ht : tk op = 2 := by unfold tk; rw [if_neg (by omega), if_neg (by omega)]
    have e : ∀ a b, estep a b (op, 0) v x = estep 0 0 (op, 0) v x := fun a b => by
      unfold estep
      rw [if_neg (show ¬ op = 0 by omega), if_neg (show ¬ op = 1 by omega), if_neg (show ¬ op = 0 by omega), if_neg (show ¬ op = 1 by omega)]
    have h1 : eone a b (2, x) [v] = x := rfl
    have h2 : eone a b (op, 0) [v, x] = cval [(2, x), (op, 0)] v := by
      unfold eone
      show estep a b (op, 0) ([v, x].getD (2 - tk op) 0) ([v, x].getD (2 - tk op + 1) 0) = _
      rw [ht]
      exact e a b
    show (if inM (eone a b (2, x) [v]) then erun a b e0 e1 ((op, 0) :: l) ([v].take ([v].length - tk 2) ++ [eone a b (2, x) [v]]) else e0) = _
    rw [h1, if_pos (show inM x from ⟨by omega, by omega⟩)]
    show (if inM (eone a b (op, 0) [v, x]) then erun a b e0 e1 l ([v, x].take ([v, x].length - tk op) ++ [eone a b (op, 0) [v, x]]) else e0) = _
    rw [h2, if_pos h, ht]
    rfl
  · show (if inM (eone a b (10, s) [v]) then _ else e0) = _
    rw [show eone a b (10, s) [v] = cval [(10, s)] v from rfl, if_pos h]
    rfl
  · show (if inM (eone a b (11, 0) [v]) then _ else e0) = _
    rw [show eone a b (11, 0) [v] = cval [(11, 0)] v from rfl, if_pos h]
    rfl

def bnd : Nat → Int → Int
  | 0, B => B
  | n + 1, B => bnd n (B * 200 + 200)

theorem bnd_le : ∀ (n : Nat) {B : Int}, 0 ≤ B → B ≤ bnd n B
  | 0, B, _ => Int.le_refl _
  | n + 1, B, h => by
    have := bnd_le n (B := B * 200 + 200) (by omega)
    show B ≤ bnd n (B * 200 + 200)
    omega

theorem bnd_mono : ∀ {n m : Nat} {B : Int}, n ≤ m → 0 ≤ B → bnd n B ≤ bnd m B
  | 0, m, B, _, h => bnd_le m h
  | n + 1, m + 1, B, h, hB => bnd_mono (n := n) (m := m) (by omega) (by omega)
  | n + 1, 0, B, h, _ => by omega

theorem erun_chunks {R : Type} (a b : Int) (e0 : Option R) (e1 : List Int → Option R) (l : List (Int × Int)) : ∀ (cs : List (List (Int × Int))) {v B : Int}, (∀ c ∈ cs, isChunk c) → ab v ≤ B → bnd cs.length B ≤ 17592186044416 →
    erun a b e0 e1 (cs.flatten ++ l) [v] = erun a b e0 e1 l [cvals cs v] ∧ ab (cvals cs v) ≤ bnd cs.length B
  | [], v, B, _, hv, _ => ⟨rfl, hv⟩
  | c :: cs, v, B, hc, hv, hB => by
    have hB0 : 0 ≤ B := Int.le_trans (ab_nonneg v) hv
    have hB' : bnd cs.length (B * 200 + 200) ≤ 17592186044416 := hB
    have hle := bnd_le cs.length (B := B * 200 + 200) (by omega)
    have h1 := cval_ab (hc c (by simp)) hv (by omega)
    obtain ⟨h2, h3⟩ := erun_chunks a b e0 e1 l cs (v := cval c v) (fun x hx => hc x (by simp [hx])) h1 hB'
    refine ⟨?_, h3⟩
    rw [List.flatten_cons, List.append_assoc, erun_chunk (hc c (by simp)) a b e0 e1 _ (inM_ab.2 (by omega))]
    exact h2

theorem vgo_cons {R : Type} (two : Bool) (e0 e1 : Int → Option R) (o : Int × Int) (l : List (Int × Int)) (h : Int) : vgo two e0 e1 (o :: l) h =
    if ¬ (0 ≤ o.1 ∧ o.1 ≤ 11) ∨ (o.1 = 1 ∧ two = false) ∨ h < tk o.1 then e0 1 else if argB o = false then e0 10 else vgo two e0 e1 l (h + (1 - tk o.1)) := rfl

theorem vgo_chunk {R : Type} {c : List (Int × Int)} (hc : isChunk c) (two : Bool) (e0 e1 : Int → Option R) (l : List (Int × Int)) : vgo two e0 e1 (c ++ l) 1 = vgo two e0 e1 l 1 := by
  rcases hc with ⟨x, op, rfl, x1, x2, o1, o2⟩ | ⟨s, rfl, s1, s2⟩ | rfl
  · have ht : tk op = 2 := by unfold tk; rw [if_neg (by omega), if_neg (by omega)]
    have ha : argB (op, 0) = true := by unfold argB; rw [if_neg (show ¬ op = 2 by omega), if_neg (show ¬ op = 10 by omega)]; rfl
    have hx : argB (2, x) = true := by unfold argB; rw [if_pos rfl]; exact decide_eq_true (show -4294967296 ≤ x ∧ x ≤ 4294967296 by omega)
    show vgo two e0 e1 ((2, x) :: (op, 0) :: l) 1 = _
    rw [vgo_cons, if_neg (by show ¬ (¬ ((0 : Int) ≤ 2 ∧ (2 : Int) ≤ 11) ∨ ((2 : Int) = 1 ∧ two = false) ∨ (1 : Int) < ((0 : Nat) : Int)); omega), hx, if_neg (by simp)]
    rw [vgo_cons, ht, if_neg (by show ¬ (¬ (0 ≤ op ∧ op ≤ 11) ∨ (op = 1 ∧ two = false) ∨ (1 + (1 - ((0 : Nat) : Int))) < ((2 : Nat) : Int)); omega), ha, if_neg (by simp)]
    rfl
  · have ha : argB (10, s) = true := by unfold argB; rw [if_neg (show ¬ (10 : Int) = 2 by omega), if_pos rfl]; exact decide_eq_true (show 0 ≤ s ∧ s ≤ 24 by omega)
    show vgo two e0 e1 ((10, s) :: l) 1 = _
    rw [vgo_cons, if_neg (by show ¬ (¬ ((0 : Int) ≤ 10 ∧ (10 : Int) ≤ 11) ∨ ((10 : Int) = 1 ∧ two = false) ∨ (1 : Int) < ((1 : Nat) : Int)); omega), ha, if_neg (by simp)]
    rfl
  · show vgo two e0 e1 ((11, 0) :: l) 1 = _
    rw [vgo_cons, if_neg (by show ¬ (¬ ((0 : Int) ≤ 11 ∧ (11 : Int) ≤ 11) ∨ ((11 : Int) = 1 ∧ two = false) ∨ (1 : Int) < ((1 : Nat) : Int)); omega), show argB (11, 0) = true from rfl, if_neg (by simp)]
    rfl

theorem vgo_chunks {R : Type} (two : Bool) (e0 e1 : Int → Option R) (l : List (Int × Int)) : ∀ (cs : List (List (Int × Int))), (∀ c ∈ cs, isChunk c) → vgo two e0 e1 (cs.flatten ++ l) 1 = vgo two e0 e1 l 1
  | [], _ => rfl
  | c :: cs, hc => by
    rw [List.flatten_cons, List.append_assoc, vgo_chunk (hc c (by simp))]
    exact vgo_chunks two e0 e1 l cs fun x hx => hc x (by simp [hx])

theorem flatten_length : ∀ (cs : List (List (Int × Int))), (∀ c ∈ cs, isChunk c) → cs.flatten.length ≤ 2 * cs.length
  | [], _ => by simp
  | c :: cs, hc => by
    have h1 := isChunk_length (hc c (by simp))
    have h2 := flatten_length cs fun x hx => hc x (by simp [hx])
    rw [List.flatten_cons, List.length_append, List.length_cons]
    omega

/-- Made programs for two sources, and with more behind them. -/
theorem made2 {op a b : Int} {cs : List (List (Int × Int))} (o1 : 3 ≤ op) (o2 : op ≤ 9) (hc : ∀ c ∈ cs, isChunk c) (hl : cs.length ≤ 10) (ha : 0 ≤ a ∧ a ≤ 255) (hb : 0 ≤ b ∧ b ≤ 255) (hv : inM (res op a b)) {B : Int} (hB : ab (res op a b) ≤ B) (hB2 : bnd cs.length B ≤ 17592186044416) :
    ev ([(0, 0), (1, 0), (op, 0)] ++ cs.flatten) a b = (cvals cs (res op a b), 0) := by
  have ht : tk op = 2 := by unfold tk; rw [if_neg (by omega), if_neg (by omega)]
  have harg : argB (op, 0) = true := by unfold argB; rw [if_neg (show ¬ op = 2 by omega), if_neg (show ¬ op = 10 by omega)]; rfl
  have hlen := flatten_length cs hc
  have hcode : vcode ([(0, 0), (1, 0), (op, 0)] ++ cs.flatten) true = 0 := by
    unfold vcode
    rw [if_pos (by rw [List.length_append]; show 1 ≤ 3 + _ ∧ 3 + _ ≤ 32; omega)]
    have : vgo (R := Int) true some (fun h => some (if h ≠ 1 then 1 else 0)) ([(0, 0), (1, 0), (op, 0)] ++ cs.flatten) 0 = vgo (R := Int) true some (fun h => some (if h ≠ 1 then 1 else 0)) ((op, 0) :: cs.flatten) 2 := rfl
    rw [this, vgo_cons, ht, if_neg (by show ¬ (¬ (0 ≤ op ∧ op ≤ 11) ∨ (op = 1 ∧ true = false) ∨ (2 : Int) < ((2 : Nat) : Int)); simp; omega), harg, if_neg (by simp)]
    have := vgo_chunks (R := Int) true some (fun h => some (if h ≠ 1 then 1 else 0)) [] cs hc
    rw [List.append_nil] at this
    show (vgo (R := Int) true some (fun h => some (if h ≠ 1 then 1 else 0)) cs.flatten (2 + (1 - ((2 : Nat) : Int)))).getD 0 = 0
    rw [show (2 : Int) + (1 - ((2 : Nat) : Int)) = 1 from rfl, this]
    rfl
  unfold ev
  rw [hcode, if_neg (by simp), if_pos (by omega)]
  unfold rv
  have e1 : erun (R := Int × Int) a b (some (0, 11)) (fun st => some (st.getD 0 0, 0)) ([(0, 0), (1, 0), (op, 0)] ++ cs.flatten) [] = erun (R := Int × Int) a b (some (0, 11)) (fun st => some (st.getD 0 0, 0)) ((op, 0) :: cs.flatten) [a, b] := by
    show (if inM a then (if inM b then _ else _) else _) = _
    rw [if_pos (show inM a from ⟨by omega, by omega⟩), if_pos (show inM b from ⟨by omega, by omega⟩)]
    rfl
  have h2 : eone a b (op, 0) [a, b] = res op a b := by
    unfold eone
    show estep a b (op, 0) ([a, b].getD (2 - tk op) 0) ([a, b].getD (2 - tk op + 1) 0) = _
    rw [ht]
    unfold estep
    rw [if_neg (show ¬ op = 0 by omega), if_neg (show ¬ op = 1 by omega), if_neg (show ¬ op = 2 by omega), if_neg (show ¬ op = 10 by omega), if_neg (show ¬ op = 11 by omega)]
    rfl
  have e2 : erun (R := Int × Int) a b (some (0, 11)) (fun st => some (st.getD 0 0, 0)) ((op, 0) :: cs.flatten) [a, b] = erun (R := Int × Int) a b (some (0, 11)) (fun st => some (st.getD 0 0, 0)) cs.flatten [res op a b] := by
    show (if inM (eone a b (op, 0) [a, b]) then erun a b _ _ cs.flatten ([a, b].take ([a, b].length - tk op) ++ [eone a b (op, 0) [a, b]]) else _) = _
    rw [h2, if_pos hv, ht]
    rfl
  obtain ⟨h3, _⟩ := erun_chunks (R := Int × Int) a b (some (0, 11)) (fun st => some (st.getD 0 0, 0)) [] cs hc hB hB2
  rw [List.append_nil] at h3
  rw [e1, e2, h3]
  rfl

theorem made1 {a b : Int} {cs : List (List (Int × Int))} (hc : ∀ c ∈ cs, isChunk c) (hl : cs.length ≤ 10) (ha : 0 ≤ a ∧ a ≤ 1000) (hb : 0 ≤ b ∧ b ≤ 1000) {B : Int} (hB : a ≤ B) (hB2 : bnd cs.length B ≤ 17592186044416) :
    ev ([(0, 0)] ++ cs.flatten) a b = (cvals cs a, 0) := by
  have hlen := flatten_length cs hc
  have hcode : vcode ([(0, 0)] ++ cs.flatten) true = 0 := by
    unfold vcode
    rw [if_pos (by rw [List.length_append]; show 1 ≤ 1 + _ ∧ 1 + _ ≤ 32; omega)]
    have : vgo (R := Int) true some (fun h => some (if h ≠ 1 then 1 else 0)) ([(0, 0)] ++ cs.flatten) 0 = vgo (R := Int) true some (fun h => some (if h ≠ 1 then 1 else 0)) cs.flatten 1 := rfl
    rw [this]
    have := vgo_chunks (R := Int) true some (fun h => some (if h ≠ 1 then 1 else 0)) [] cs hc
    rw [List.append_nil] at this
    rw [this]
    rfl
  unfold ev
  rw [hcode, if_neg (by simp), if_pos (by omega)]
  unfold rv
  have e1 : erun (R := Int × Int) a b (some (0, 11)) (fun st => some (st.getD 0 0, 0)) ([(0, 0)] ++ cs.flatten) [] = erun (R := Int × Int) a b (some (0, 11)) (fun st => some (st.getD 0 0, 0)) cs.flatten [a] := by
    show (if inM a then _ else _) = _
    rw [if_pos (show inM a from ⟨by omega, by omega⟩)]
    rfl
  obtain ⟨h3, _⟩ := erun_chunks (R := Int × Int) a b (some (0, 11)) (fun st => some (st.getD 0 0, 0)) [] cs hc (v := a) (B := B) (ab_le.2 (by omega)) hB2
  rw [List.append_nil] at h3
  rw [e1, h3]
  rfl
end Go.Lf.T

import Derived.Test.YtgfhdajbgkpgkaaLfP14e
/-! Lf: PointwiseJoins. -/
set_option linter.unusedVariables false
set_option maxRecDepth 100000
namespace Go.Lf.T
open Go Go.Lf

theorem cvals_append (cs ds : List (List (Int × Int))) (v : Int) : cvals (cs ++ ds) v = cvals ds (cvals cs v) := List.foldl_append

theorem joins_pure (l : List Int) (hl : l.length ≤ 9223372036854775807) (a b : Int) : tilefarmlaw14_PointwiseJoins 40 l a b = some ((true, ()), ()) := by
  unfold tilefarmlaw14_PointwiseJoins
  have ht : Tp (l, 0) := ⟨Int.le_refl _, Int.natCast_nonneg _, hl⟩
  rw [show tilefarmgen_New 40 l = some (((l, 0), ()), ()) from rfl, Option.bind_some]
  obtain ⟨op, cs, t1, e1, o1, o2, cl, hc, ht1⟩ := opsTrue 40 (by omega) ht
  obtain ⟨ds, t2, e2, dl, hd, ht2⟩ := opsFalse 40 (by omega) ht1
  obtain ⟨u, e3, u1, u2⟩ := mod_ok 40 a 256 (by omega) (by omega)
  obtain ⟨v, e4, v1, v2⟩ := mod_ok 40 b 256 (by omega) (by omega)
  simp only [e1, Option.bind_some]
  simp only [e2, Option.bind_some, e3, e4]
  have hv0 : ab (res op u v) ≤ 65536 := by
    have hm : u * v ≤ 65536 := by
      have := Int.mul_le_mul (a := u) (b := v) (c := 256) (d := 256) (by omega) (by omega) v1 (by omega)
      omega
    have hm0 : 0 ≤ u * v := Int.mul_nonneg u1 v1
    unfold res
    split
    · exact ab_le.2 (by omega)
    split
    · exact ab_le.2 (by omega)
    split
    · unfold tms
      split
      · rename_i h
        exfalso
        have h0 : 0 < ab u := by have := ab_nonneg u; have := mt ab_zero.1 h.1; omega
        have e : ab u = u := by unfold ab; rw [if_neg (by omega)]
        have e' : ab v = v := by unfold ab; rw [if_neg (by omega)]
        have := (Int.le_ediv_iff_mul_le h0 (a := v) (b := 17592186044416)).2 (by rw [e, Int.mul_comm]; omega)
        omega
      · exact ab_le.2 (by omega)
    split
    · unfold mm; simp only; exact ab_le.2 (by split <;> omega)
    split
    · unfold mm; simp only; exact ab_le.2 (by split <;> omega)
    split
    · exact ab_le.2 (by unfold ab; split <;> omega)
    · have := dvd_ab (x := u) (y := v)
      have e : ab u = u := by unfold ab; rw [if_neg (by omega)]
      omega
  have hin : inM (res op u v) := inM_ab.2 (by omega)
  have b3 : bnd 3 65536 ≤ 17592186044416 := by decide
  have hL := made2 (a := u) (b := v) o1 o2 hc (by omega) (by omega) (by omega) hin hv0 (Int.le_trans (bnd_mono cl (by omega)) b3)
  have E1 := eval_ok 40 ([(0, 0), (1, 0), (op, 0)] ++ cs.flatten) u v (by omega)
  rw [hL] at E1
  simp only [E1, Option.bind_some]
  rw [show ((0 : Int) != 0) = false from rfl, cond_false, sane_ok]
  generalize hw : cvals cs (res op u v) = w at *
  by_cases h1 : w < 0
  · rw [decide_eq_true h1]; rfl
  · rw [decide_eq_false h1, cond_false]
    by_cases h2 : w > 1000
    · rw [decide_eq_true h2]; rfl
    · have hne : ((((([(0, 0)] ++ ds.flatten : List (Int × Int)).length : Nat) : Int)) == 0) = false := by
        rw [List.length_append]
        simp
        omega
      rw [decide_eq_false h2, cond_false, hne, cond_false]
      have hcl := flatten_length cs hc
      have hdl := flatten_length ds hd
      have hdrop : (([(0, 0)] ++ ds.flatten : List (Int × Int)).drop 1).take (([(0, 0)] ++ ds.flatten : List (Int × Int)).length - 1) = ds.flatten := by
        show ds.flatten.take (([(0, 0)] ++ ds.flatten : List (Int × Int)).length - 1) = ds.flatten
        rw [List.length_append]
        show ds.flatten.take (1 + ds.flatten.length - 1) = _
        rw [Nat.add_sub_cancel_left, List.take_length]
      rw [hdrop, if_pos (by rw [List.length_append]; show (3 + _) * 16 ≤ _; omega), if_pos (by rw [List.length_append]; show 0 ≤ 1 ∧ (1 : Int) ≤ ((1 + ds.flatten.length : Nat) : Int); omega),
        if_pos (by rw [List.length_append, List.length_append]; show (3 + _ + _) * 16 ≤ _; omega)]
      have hb : ab (cvals cs (res op u v)) ≤ 1000 := by rw [hw]; exact ab_le.2 (by omega)
      -- all of it
      have hall : ev ([(0, 0), (1, 0), (op, 0)] ++ cs.flatten ++ ds.flatten) u v = (cvals ds w, 0) := by
        have b6 : bnd 3 65536 ≤ 17592186044416 := by decide
        have b1000 : bnd 3 1000 ≤ 17592186044416 := by decide
        have hcode : vcode ([(0, 0), (1, 0), (op, 0)] ++ cs.flatten ++ ds.flatten) true = 0 := by
          have ht : tk op = 2 := by unfold tk; rw [if_neg (by omega), if_neg (by omega)]
          have harg : argB (op, 0) = true := by unfold argB; rw [if_neg (show ¬ op = 2 by omega), if_neg (show ¬ op = 10 by omega)]; rfl
          unfold vcode
          rw [if_pos (by rw [List.length_append, List.length_append]; show 1 ≤ 3 + _ + _ ∧ 3 + _ + _ ≤ 32; omega)]
          have : vgo (R := Int) true some (fun h => some (if h ≠ 1 then 1 else 0)) ([(0, 0), (1, 0), (op, 0)] ++ cs.flatten ++ ds.flatten) 0 = vgo (R := Int) true some (fun h => some (if h ≠ 1 then 1 else 0)) ((op, 0) :: (cs.flatten ++ ds.flatten)) 2 := rfl
          rw [this, vgo_cons, ht, if_neg (by show ¬ (¬ (0 ≤ op ∧ op ≤ 11) ∨ (op = 1 ∧ true = false) ∨ (2 : Int) < ((2 : Nat) : Int)); simp; omega), harg, if_neg (by simp)]
          rw [show (2 : Int) + (1 - ((2 : Nat) : Int)) = 1 from rfl, vgo_chunks true _ _ _ cs hc]
          have := vgo_chunks (R := Int) true some (fun h => some (if h ≠ 1 then 1 else 0)) [] ds hd
          rw [List.append_nil] at this
          rw [this]
          rfl
        unfold ev
        rw [hcode, if_neg (by simp), if_pos (by omega)]
        unfold rv
        have ht : tk op = 2 := by unfold tk; rw [if_neg (by omega), if_neg (by omega)]
        have x1 : erun (R := Int × Int) u v (some (0, 11)) (fun st => some (st.getD 0 0, 0)) ([(0, 0), (1, 0), (op, 0)] ++ cs.flatten ++ ds.flatten) [] = erun (R := Int × Int) u v (some (0, 11)) (fun st => some (st.getD 0 0, 0)) ((op, 0) :: (cs.flatten ++ ds.flatten)) [u, v] := by
          show (if inM u then (if inM v then _ else _) else _) = _
          rw [if_pos (show inM u from ⟨by omega, by omega⟩), if_pos (show inM v from ⟨by omega, by omega⟩)]
          rfl
        have h2 : eone u v (op, 0) [u, v] = res op u v := by
          unfold eone
          show estep u v (op, 0) ([u, v].getD (2 - tk op) 0) ([u, v].getD (2 - tk op + 1) 0) = _
          rw [ht]
          unfold estep
          rw [if_neg (show ¬ op = 0 by omega), if_neg (show ¬ op = 1 by omega), if_neg (show ¬ op = 2 by omega), if_neg (show ¬ op = 10 by omega), if_neg (show ¬ op = 11 by omega)]
          rfl
        have x2 : erun (R := Int × Int) u v (some (0, 11)) (fun st => some (st.getD 0 0, 0)) ((op, 0) :: (cs.flatten ++ ds.flatten)) [u, v] = erun (R := Int × Int) u v (some (0, 11)) (fun st => some (st.getD 0 0, 0)) (cs.flatten ++ ds.flatten) [res op u v] := by
          show (if inM (eone u v (op, 0) [u, v]) then erun u v _ _ (cs.flatten ++ ds.flatten) ([u, v].take ([u, v].length - tk op) ++ [eone u v (op, 0) [u, v]]) else _) = _
          rw [h2, if_pos hin, ht]
          rfl
        have x3 := (erun_chunks (R := Int × Int) u v (some (0, 11)) (fun st => some (st.getD 0 0, 0)) ds.flatten cs hc hv0 (Int.le_trans (bnd_mono cl (by omega)) b3)).1
        have x4 := (erun_chunks (R := Int × Int) u v (some (0, 11)) (fun st => some (st.getD 0 0, 0)) [] ds hd hb (Int.le_trans (bnd_mono dl (by omega)) b1000)).1
        rw [List.append_nil] at x4
        rw [x1, x2, x3, x4, hw]
        rfl
      have b1000 : bnd 3 1000 ≤ 17592186044416 := by decide
      have hM := made1 (a := w) (b := 0) (cs := ds) hd (by omega) (by omega) (by omega) (B := 1000) (by omega) (Int.le_trans (bnd_mono dl (by omega)) b1000)
      have E2 := eval_ok 40 ([(0, 0), (1, 0), (op, 0)] ++ cs.flatten ++ ds.flatten) u v (by omega)
      have E3 := eval_ok 40 ([(0, 0)] ++ ds.flatten) w 0 (by omega)
      rw [hall] at E2
      rw [hM] at E3
      simp only [E2, E3, Option.bind_some]
      simp
end Go.Lf.T

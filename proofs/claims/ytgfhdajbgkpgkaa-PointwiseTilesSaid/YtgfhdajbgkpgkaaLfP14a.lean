import Derived.Test.YtgfhdajbgkpgkaaLfSnd1
import Derived.KernelRfl
/-! Lf: pointwise: small facts. -/
set_option linter.unusedVariables false
set_option maxRecDepth 100000
namespace Go.Lf.T
open Go Go.Lf

theorem w64_id {n : Int} (h1 : -9223372036854775808 ≤ n) (h2 : n < 9223372036854775808) : w64 n = n := by
  unfold w64 IntKind.wrap
  simp [IntKind.bits, IntKind.signed] <;> omega

theorem tmod_gt (a m : Int) (h : 0 < m) : -m < a.tmod m := by
  by_cases h0 : 0 ≤ a
  · have := Int.tmod_nonneg m h0; omega
  · have h1 := Int.tmod_lt_of_pos (-a) h
    rw [Int.neg_tmod] at h1
    omega

theorem mod_ok (k : Nat) (a m : Int) (h1 : 0 < m) (h2 : m ≤ 4611686018427387904) : ∃ u, tilefarmgen_Mod k a m = some ((u, ()), ()) ∧ 0 ≤ u ∧ u < m := by
  have hlt := Int.tmod_lt_of_pos a h1
  have hgt := tmod_gt a m h1
  unfold tilefarmgen_Mod
  rw [if_neg (by omega)]
  by_cases h : a.tmod m < 0
  · refine ⟨a.tmod m + m, ?_, by omega, by omega⟩
    simp only [h, decide_true, cond]
    rw [w64_id (by omega) (by omega)]
  · refine ⟨a.tmod m, ?_, by omega, by omega⟩
    simp only [h, decide_false, cond]

theorem sum_ok (k : Nat) {n : Int} (h1 : -17592186044416 ≤ n) (h2 : n ≤ 17592186044416) : pointwise_sum k n = some ((true, ()), ()) := by
  simp [pointwise_sum, pointwise_between, h1, h2]

theorem abs_ok (k : Nat) {n : Int} (h1 : -9223372036854775808 < n) (h2 : n < 9223372036854775808) : pointwise_abs k n = some ((if n < 0 then -n else n, ()), ()) := by
  unfold pointwise_abs mm
  rw [w64_id (by omega) (by omega)]
  simp only
  congr 2
  split <;> split <;> first | rfl | omega | simp only [Prod.mk.injEq, and_true]; omega

theorem sane_ok : tilefarmlaw14_sane 40 = some ((true, ()), ()) := by kernel_rfl
end Go.Lf.T

import Derived.Test.YtgfhdajbgkpgkaaLfP14w
import Derived.Test.YtgfhdajbgkpgkaaLfCc
import Derived.Test.YtgfhdajbgkpgkaaProg
set_option linter.unusedVariables false
set_option maxRecDepth 100000
namespace Go.Lf.T
open Go Go.Lf
theorem tilefarmlaw14_PointwiseWithin.walk (a0 : Option Addr) (len0 cap0 : Nat) (z0 : List Int) (a1 : Int) (a2 : Int) (w : World) (w0 : (a0 = none ∧ len0 = 0 ∧ cap0 = 0 ∧ z0 = []) ∨ ∃ x, a0 = some x ∧ len0 ≤ cap0 ∧ cap0 ≤ maxLen ∧ z0.length = cap0 ∧ (∀ i, i < z0.length → w.cell? (x.add i) = some (.int .i64 (z0.getD i 0))) ∧ ∀ n ∈ z0, (Lit.int .i64 n).wf = true) (w1 : (Lit.int .i64 a1).wf = true) (w2 : (Lit.int .i64 a2).wf = true) :
    Calls Proofs.Try.prog 4 #[.slice a0 len0 cap0, .int .i64 a1, .int .i64 a2] w fun e w' => e = .returned (.bool true) ∧ RowKit.Below w.heap.size w w' := by
  obtain ⟨k, hk⟩ := (⟨40, within_pure (z0.take len0) (ints_len w0) a1 a2⟩ : ∃ k, tilefarmlaw14_PointwiseWithin k (z0.take len0) a1 a2 = some ((true, ()), ()))
  exact law_calls tilefarmlaw14_PointwiseWithin.snd rfl (k := k) (x := (z0.take len0, a1, a2, ())) (y := ((true, ()), ())) hk (fun w F rs G h => res_true h) (us := [.slice a0 len0 cap0, .int .i64 a1, .int .i64 a2]) ⟨_, _, rfl, rfl, val_ints (fun _ h => h) w0, ⟨_, _, rfl, rfl, val_int, ⟨_, _, rfl, rfl, val_int, ⟨rfl, fun _ h => h⟩⟩⟩⟩
end Go.Lf.T

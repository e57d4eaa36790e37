import Derived.Test.YtgfhdajbgkpgkaaLfP14o
import Derived.Test.YtgfhdajbgkpgkaaProg
set_option linter.unusedVariables false
set_option maxRecDepth 100000
namespace Go.Lf.T
open Go Go.Lf
theorem tilefarmlaw14_PointwiseOrderless.walk (a0 : Int) (a1 : Int) (w : World) (w0 : (Lit.int .i64 a0).wf = true) (w1 : (Lit.int .i64 a1).wf = true) :
    Calls Proofs.Try.prog 6 #[.int .i64 a0, .int .i64 a1] w fun e w' => e = .returned (.bool true) ∧ RowKit.Below w.heap.size w w' := by
  obtain ⟨k, hk⟩ := (⟨40, orderless_pure a0 a1⟩ : ∃ k, tilefarmlaw14_PointwiseOrderless k a0 a1 = some ((true, ()), ()))
  exact law_calls tilefarmlaw14_PointwiseOrderless.snd rfl (k := k) (x := (a0, a1, ())) (y := ((true, ()), ())) hk (fun w F rs G h => res_true h) (us := [.int .i64 a0, .int .i64 a1]) ⟨_, _, rfl, rfl, val_int, ⟨_, _, rfl, rfl, val_int, ⟨rfl, fun _ h => h⟩⟩⟩
end Go.Lf.T

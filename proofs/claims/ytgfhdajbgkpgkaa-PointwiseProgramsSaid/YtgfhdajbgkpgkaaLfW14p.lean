import Derived.Test.YtgfhdajbgkpgkaaLfP14p
import Derived.Test.YtgfhdajbgkpgkaaLfCc
import Derived.Test.YtgfhdajbgkpgkaaProg
set_option linter.unusedVariables false
set_option maxRecDepth 100000
namespace Go.Lf.T
open Go Go.Lf
theorem tilefarmlaw14_PointwisePrograms.walk (w : World) (v0 : Value) (x0 : (Ty.den (.sl (.int .i64)))) (hx0 : ValR w (fun _ => False) (.sl (.int .i64)) x0 v0 (fun _ => False)) (fit0 : Fit (.sl (.int .i64)) x0) (v1 : Value) (x1 : (Ty.den (.sl (.pair (.int .i64) (.int .i64))))) (hx1 : ValR w (fun _ => False) (.sl (.pair (.int .i64) (.int .i64))) x1 v1 (fun _ => False)) (fit1 : Fit (.sl (.pair (.int .i64) (.int .i64))) x1) (v2 : Value) (x2 : (Ty.den .bool)) (hx2 : ValR w (fun _ => False) .bool x2 v2 (fun _ => False)) (fit2 : Fit .bool x2) (v3 : Value) (x3 : (Ty.den (.int .i64))) (hx3 : ValR w (fun _ => False) (.int .i64) x3 v3 (fun _ => False)) (fit3 : Fit (.int .i64) x3) (v4 : Value) (x4 : (Ty.den (.int .i64))) (hx4 : ValR w (fun _ => False) (.int .i64) x4 v4 (fun _ => False)) (fit4 : Fit (.int .i64) x4) :
    Calls Proofs.Try.prog 3 #[v0, v1, v2, v3, v4] w fun e w' => e = .returned (.bool true) ∧ RowKit.Below w.heap.size w w' := by
  obtain ⟨k, hk⟩ := (⟨40, programs_pure x0 fit0.1 x1 x2 x3 x4⟩ : ∃ k, tilefarmlaw14_PointwisePrograms k x0 x1 x2 x3 x4 = some ((true, ()), ()))
  exact law_calls tilefarmlaw14_PointwisePrograms.snd rfl (k := k) (x := (x0, x1, x2, x3, x4, ())) (y := ((true, ()), ())) hk (fun w F rs G h => res_true h) (us := [v0, v1, v2, v3, v4]) ⟨_, _, rfl, rfl, hx0, ⟨_, _, rfl, rfl, hx1, ⟨_, _, rfl, rfl, hx2, ⟨_, _, rfl, rfl, hx3, ⟨_, _, rfl, rfl, hx4, ⟨rfl, fun _ h => h⟩⟩⟩⟩⟩⟩
end Go.Lf.T

import Derived.Test.YtmndobcnlakglaaGreatLfP17k
import Derived.Test.YtmndobcnlakglaaGreatLfSnd17z
import Derived.Test.YtmndobcnlakglaaGreatLfCc
import Derived.Test.YtmndobcnlakglaaGreatProg
set_option linter.unusedVariables false
set_option maxRecDepth 100000
namespace Go.Lf.T
open Go Go.Lf
theorem F115.walk (w : World) (v0 : Value) (x0 : (Ty.den (.sl (.int .i64)))) (hx0 : ValR w (fun _ => False) (.sl (.int .i64)) x0 v0 (fun _ => False)) (fit0 : Fit (.sl (.int .i64)) x0) (v1 : Value) (x1 : (Ty.den (.int .i64))) (hx1 : ValR w (fun _ => False) (.int .i64) x1 v1 (fun _ => False)) (fit1 : Fit (.int .i64) x1) :
  Calls Proofs.Tryz.prog 5 #[v0, v1] w fun e w' => e = .returned (.bool true) /\ RowKit.Below w.heap.size w w' := by
 obtain ⟨k, hk⟩ := (⟨5000, q544 x0 x1 fit0.1⟩ : ∃ k, F115 k x0 x1 = some ((true, ()), ()))
 exact q706 F115.snd rfl (k := k) (x := (x0, x1, ())) (y := ((true, ()), ())) hk (fun w F rs G h => res_true h) (us := [v0, v1]) ⟨_, _, rfl, rfl, hx0, ⟨_, _, rfl, rfl, hx1, ⟨rfl, fun _ h => h⟩⟩⟩
end Go.Lf.T

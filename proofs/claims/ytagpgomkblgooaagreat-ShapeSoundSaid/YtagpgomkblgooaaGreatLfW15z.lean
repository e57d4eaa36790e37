import Derived.Test.YtagpgomkblgooaaGreatLfP15i
import Derived.Test.YtagpgomkblgooaaGreatLfSnd15z
import Derived.Test.YtagpgomkblgooaaGreatLfCc
import Derived.Test.YtagpgomkblgooaaGreatProg
set_option linter.unusedVariables false
set_option maxRecDepth 100000
namespace Go.Lf.T
open Go Go.Lf
theorem F127.walk (w : World) (v0 : Value) (x0 : (Ty.den (.sl (.int .i64)))) (hx0 : ValR w (fun _ => False) (.sl (.int .i64)) x0 v0 (fun _ => False)) (fit0 : Fit (.sl (.int .i64)) x0) :
    Calls Proofs.Tryz.prog 3 #[v0] w fun e w' => e = .returned (.bool true) ∧ RowKit.Below w.heap.size w w' := by
  obtain ⟨k, hk⟩ := (⟨5000, sound_pure x0 fit0.1⟩ : ∃ k, F127 k x0 = some ((true, ()), ()))
  exact law_calls F127.snd rfl (k := k) (x := (x0, ())) (y := ((true, ()), ())) hk (fun w F rs G h => res_true h) (us := [v0]) ⟨_, _, rfl, rfl, hx0, ⟨rfl, fun _ h => h⟩⟩
end Go.Lf.T

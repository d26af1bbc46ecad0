/-
  Rows of equations, plain: numbers from 75 on.
  No condition.
-/
import Derived.Test.YtmommjagndadjaaJcT
namespace Go.Proofs.Ytmommjagndadjaa.Sc

set_option maxRecDepth 100000 in
theorem flat_e : ∀ n : Fin 6, flatOk (75 + n.val) = true := by decide +kernel
end Go.Proofs.Ytmommjagndadjaa.Sc

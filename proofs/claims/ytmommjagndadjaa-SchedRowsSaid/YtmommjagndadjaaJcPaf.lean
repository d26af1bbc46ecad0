/-
  Rows of equations, plain: numbers from 0 on.
  No condition.
-/
import Derived.Test.YtmommjagndadjaaJcT
namespace Go.Proofs.Ytmommjagndadjaa.Sc

set_option maxRecDepth 100000 in
theorem flat_a : ∀ n : Fin 50, flatOk (0 + n.val) = true := by decide +kernel
end Go.Proofs.Ytmommjagndadjaa.Sc

/-
  Rows of equations, plain: numbers from 60 on.
  No condition.
-/
import Derived.Test.YtmommjagndadjaaJcT
namespace Go.Proofs.Ytmommjagndadjaa.Sc

set_option maxRecDepth 100000 in
theorem flat_c : ∀ n : Fin 8, flatOk (60 + n.val) = true := by decide +kernel
end Go.Proofs.Ytmommjagndadjaa.Sc

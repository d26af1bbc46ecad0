/-
  Rows of equations, plain: numbers from 50 on.
  No condition.
-/
import Derived.Test.YtmommjagndadjaaJcT
namespace Go.Proofs.Ytmommjagndadjaa.Sc

set_option maxRecDepth 100000 in
theorem rows_b : ∀ n : Fin 10, rowOk (50 + n.val) = true := by decide +kernel
end Go.Proofs.Ytmommjagndadjaa.Sc

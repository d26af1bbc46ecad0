/-
  Rows of equations, plain: numbers from 68 on.
  No condition.
-/
import Derived.Test.YtmommjagndadjaaJcT
namespace Go.Proofs.Ytmommjagndadjaa.Sc

set_option maxRecDepth 100000 in
theorem rows_d : ∀ n : Fin 7, rowOk (68 + n.val) = true := by decide +kernel
end Go.Proofs.Ytmommjagndadjaa.Sc

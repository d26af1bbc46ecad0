/-
  Rows of equations, plain: numbers from 96 on.
  No condition.
-/
import Derived.Test.YtmommjagndadjaaJcT
namespace Go.Proofs.Ytmommjagndadjaa.Sc

set_option maxRecDepth 100000 in
theorem rows_i : ∀ n : Fin 4, rowOk (96 + n.val) = true := by decide +kernel
end Go.Proofs.Ytmommjagndadjaa.Sc

/-
  Rows of equations, plain: numbers from 81 on.
  No condition.
-/
import Derived.Test.YtmommjagndadjaaJcT
namespace Go.Proofs.Ytmommjagndadjaa.Sc

set_option maxRecDepth 100000 in
theorem rows_f : ∀ n : Fin 5, rowOk (81 + n.val) = true := by decide +kernel
end Go.Proofs.Ytmommjagndadjaa.Sc

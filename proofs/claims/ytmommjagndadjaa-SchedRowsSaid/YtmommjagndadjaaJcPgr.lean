/-
  Rows of equations, plain: numbers from 86 on.
  No condition.
-/
import Derived.Test.YtmommjagndadjaaJcT
namespace Go.Proofs.Ytmommjagndadjaa.Sc

set_option maxRecDepth 100000 in
theorem rows_g : ∀ n : Fin 5, rowOk (86 + n.val) = true := by decide +kernel
end Go.Proofs.Ytmommjagndadjaa.Sc

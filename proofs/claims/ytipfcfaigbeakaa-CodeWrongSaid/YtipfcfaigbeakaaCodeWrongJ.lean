/-
  The law on what can be wrong with code: its walk, all cases.
  No condition.
-/
import Derived.Test.YtipfcfaigbeakaaCodeWrongC
import Derived.Test.YtipfcfaigbeakaaCodeWrongD
import Derived.Test.YtipfcfaigbeakaaCodeWrongE
import Derived.Test.YtipfcfaigbeakaaCodeWrongF
import Derived.Test.YtipfcfaigbeakaaCodeWrongG
import Derived.Test.YtipfcfaigbeakaaCodeWrongH
import Derived.Test.YtipfcfaigbeakaaCodeWrongI
namespace Go.Proofs.Ytipfcfaigbeakaa
open Go.RowKit
set_option maxRecDepth 100000

theorem codeWrong_any (k : Int) (hk : I64 k) (w : World) : Calls Try.prog 5 #[.int .i64 k] w fun e w' => e = .returned (.bool true) ∧ Ext w w' := by
  by_cases hbad : k < 0 ∨ 22 ≤ k
  · exact codeWrong_out k hk hbad w
  · obtain ⟨K, rfl⟩ : ∃ K : Nat, k = K := ⟨k.toNat, by omega⟩
    rcases (by omega : (K = 0 ∨ K = 1 ∨ K = 2 ∨ K = 3 ∨ K = 5 ∨ K = 6 ∨ K = 19 ∨ K = 20) ∨ (K = 7 ∨ K = 8 ∨ K = 9 ∨ K = 10) ∨ (K = 11 ∨ K = 12 ∨ K = 13 ∨ K = 14) ∨ (K = 16 ∨ K = 17 ∨ K = 21) ∨ K = 4 ∨ K = 15 ∨ K = 18) with h | h | h | h | h | h | h
    · exact codeWrong_a K h w
    · exact codeWrong_b K h w
    · exact codeWrong_c K h w
    · exact codeWrong_d K h w
    · exact codeWrong_e K h w
    · exact codeWrong_f K h w
    · exact codeWrong_g K h w
end Go.Proofs.Ytipfcfaigbeakaa

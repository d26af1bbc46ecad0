/-
  What the rows of the two parsing laws list: seven variables of the library.
  No condition.
-/
import Derived.Lay
import Derived.Test.YtlikmdeplpldlaaDoorCnfTab
namespace Go.Proofs.YtlikmdeplpldlaaDoor
open Go.RowKit Go.WideShapes Go.ChangeAt
set_option linter.unusedSimpArgs false
set_option linter.unusedVariables false
set_option maxRecDepth 100000

def laid7 : List (String × DataW Unit) := [("math/bits.deBruijn32tab", Rows.laid_math_bits_deBruijn32tab), ("math/bits.deBruijn64tab", Rows.laid_math_bits_deBruijn64tab), ("internal/strconv.uint64pow10", Rows.laid_internal_strconv_uint64pow10), ("unicode/utf8.acceptRanges", Rows.laid_unicode_utf8_acceptRanges), ("strconv.ErrRange", Rows.laid_strconv_ErrRange), ("strconv.ErrSyntax", Rows.laid_strconv_ErrSyntax), ("unicode/utf8.first", Rows.laid_unicode_utf8_first)]
theorem tab_of_laid7 {W : World} (h : laidMetH Tryd.prog laid7 W) : Lib.TabIs Tryd.prog W "internal/strconv.uint64pow10" .u64 Lib.pow10Tab := by
  have h1 := h.filter (fun x => x.1 == "internal/strconv.uint64pow10")
  rw [show laid7.filter (fun x => x.1 == "internal/strconv.uint64pow10") = [("internal/strconv.uint64pow10", Lib.tabData .u64 Lib.pow10Tab)] by kernel_rfl] at h1
  rw [MakeChecks.laidMetH_plain _ _ _ (by kernel_rfl)] at h1
  exact Lib.tabIs_of_head gPow tPow Tryd.underlying118 Tryd.underlying83 (by kernel_rfl) (by kernel_rfl) h1
/-- The start in which the listed variables are laid meets the condition. -/
theorem laid_met7 (os : Os) (args : Array Value) : laidMetH Tryd.prog laid7 ((World.laidAll Tryd.prog os laid7).forCall (fun _ _ => 0) ⟨#[], args, []⟩).memory := by
  rw [MakeChecks.laidMetH_plain _ _ _ (by kernel_rfl)]
  exact laidMet_laidAll _ (by kernel_rfl) (by kernel_rfl)
end Go.Proofs.YtlikmdeplpldlaaDoor

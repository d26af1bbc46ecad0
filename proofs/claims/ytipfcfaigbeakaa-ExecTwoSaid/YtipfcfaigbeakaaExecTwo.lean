/-
  The law on two machines: whatever comes in.
  No condition.
-/
import Derived.Test.YtipfcfaigbeakaaTwoGood
namespace Go.Proofs.Ytipfcfaigbeakaa
open Go.RowKit
set_option linter.unusedSimpArgs false
set_option linter.unusedVariables false
set_option maxRecDepth 100000

theorem execTwo_any (c : CodeV) (kv iv bv v v2 : Value) (vs vs2 : List Value) (rs rs2 : List (List Int)) (w : World) (h : CodeIn w kv iv bv c) (wf : CodeWf c) (hr : RowsIn w v vs rs) (hr2 : RowsIn w v2 vs2 rs2) (hI : ∀ r ∈ rs, ∀ n ∈ r, I64 n) (hI2 : ∀ r ∈ rs2, ∀ n ∈ r, I64 n) :
    Calls Try.prog 10 #[codeA c kv iv bv, v, v2] w fun e w' => e = .returned (.bool true) ∧ Ext w w' := by
  by_cases hb : bigV c = true ∨ bigR 0 rs = true ∨ bigR 0 rs2 = true ∨ 20 < rs.length ∨ 20 < rs2.length ∨ chk c ≠ 0
  · exact two_live c kv iv bv v v2 vs vs2 rs rs2 w h hr hr2 hb
  · simp only [not_or, Bool.not_eq_true, Nat.not_lt, Decidable.not_not, ne_eq] at hb
    exact two_good c kv iv bv v v2 vs vs2 rs rs2 w h wf hr hr2 hI hI2 hb.1 hb.2.1 hb.2.2.1 hb.2.2.2.1 hb.2.2.2.2.1 hb.2.2.2.2.2
end Go.Proofs.Ytipfcfaigbeakaa

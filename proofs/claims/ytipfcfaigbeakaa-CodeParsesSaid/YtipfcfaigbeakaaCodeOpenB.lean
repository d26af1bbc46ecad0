/-
  Bytes that come in.
  No condition.
-/
import Derived.Test.YtipfcfaigbeakaaJPost
import Derived.WideShapes
namespace Go.Proofs.Ytipfcfaigbeakaa
open Go.RowKit Go.ChangeShapes Go.WideShapes Go.ChangeAt
set_option linter.unusedSimpArgs false
set_option linter.unusedVariables false
set_option maxRecDepth 100000

/-- A slice of bytes that came in. -/
theorem open_bytes {H : Type} {enc : TypeId × Value → H} {w : World} {base base0 : Nat} {r : Reach} {sp : Nat → Bool} {held : Bool} {v : Value} {d : DataW H} {p : List MemPlace}
    (hval : Value.okWide Try.prog w r base0 38 v) (hd : DataW.Trod enc Try.prog w base sp held 38 v d p) : ∃ l : List Int, SlC w v l.length (u8s l) ∧ ∀ n ∈ l, 0 ≤ n ∧ n < 256 := by
  obtain ⟨a, m, c, rfl⟩ := okWide_slice Try.underlying38 hval
  obtain ⟨fuel, h⟩ := hd
  obtain ⟨l, h1, h2⟩ := open_numbers Try.underlying38 Try.underlying5 (by kernel_rfl) h
  refine ⟨l, h1, fun n hn => ?_⟩
  have := h2 n hn
  simp [Lit.wf, IntKind.min, IntKind.max, IntKind.signed, IntKind.bits] at this
  omega
end Go.Proofs.Ytipfcfaigbeakaa

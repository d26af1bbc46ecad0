/-
  An argument that is a row of numbers: how it lies in memory.
  No condition.
-/
import Derived.Test.YtkjgghbdpmkmoaaCnfOpen
namespace Go.Proofs.Ytkjgghbdpmkmoaa
open Go.RowKit Go.ChangeShapes Go.WideShapes Go.ChangeAt
set_option linter.unusedSimpArgs false
set_option linter.unusedVariables false
set_option maxRecDepth 100000

theorem open_ints64 {H : Type} {enc : TypeId × Value → H} {W : World} {base base0 : Nat} {r : Reach} {sp : Nat → Bool} {held : Bool} {v : Value} {d : DataW H} {p : List MemPlace} (hval : Value.okWide Try.prog W r base0 23 v) (h : DataW.Trod enc Try.prog W base sp held 23 v d p) :
    ∃ l : List Int, SlC W v l.length (i64s l) ∧ ∀ n ∈ l, I64 n := by
  obtain ⟨va, vm, vc, rfl⟩ := okWide_slice Try.underlying23 hval
  obtain ⟨fuel, h⟩ := h
  change DataW.trod enc Try.prog W base sp held fuel 23 [.slice va vm vc] = _ at h
  obtain ⟨l, hl, hw⟩ := open_numbers Try.underlying23 Try.underlying3 cellsInt h
  exact ⟨l, hl, fun n hn => lit_I64 (hw n hn)⟩
end Go.Proofs.Ytkjgghbdpmkmoaa

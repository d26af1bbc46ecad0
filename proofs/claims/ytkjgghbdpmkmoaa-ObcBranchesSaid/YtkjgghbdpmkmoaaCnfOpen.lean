/-
  Nets of gates, formulas, rows of bools and of numbers that came in as arguments: how they lie in memory.
  No condition.
-/
import Derived.Test.YtkjgghbdpmkmoaaCnfPlain
import Derived.Test.YtkjgghbdpmkmoaaRowsG
namespace Go.Proofs.Ytkjgghbdpmkmoaa
open Go.RowKit Go.ChangeShapes Go.WideShapes Go.ChangeAt
set_option linter.unusedSimpArgs false
set_option linter.unusedVariables false
set_option maxRecDepth 100000

def gateCells (l : List GateV) : List Value := l.flatMap fun q => [.int .i64 q.op, .int .i64 q.a, .int .i64 q.b]
theorem gateCells_len : ∀ (l : List GateV), (gateCells l).length = l.length * 3
  | [] => rfl
  | q :: l => by
    have := gateCells_len l
    unfold gateCells at this ⊢
    rw [List.flatMap_cons, List.length_append, this, List.length_cons]; simp; omega
theorem gateCells_at : ∀ (l : List GateV) (i : Nat) (q : GateV), l[i]? = some q → (gateCells l)[i * 3]? = some (.int .i64 q.op) ∧ (gateCells l)[i * 3 + 1]? = some (.int .i64 q.a) ∧ (gateCells l)[i * 3 + 2]? = some (.int .i64 q.b)
  | x :: l, 0, q, h => by simp at h; subst h; exact ⟨rfl, rfl, rfl⟩
  | x :: l, i + 1, q, h => by
    simp only [List.getElem?_cons_succ] at h
    obtain ⟨h1, h2, h3⟩ := gateCells_at l i q h
    have e : gateCells (x :: l) = [.int .i64 x.op, .int .i64 x.a, .int .i64 x.b] ++ gateCells l := by unfold gateCells; rw [List.flatMap_cons]
    rw [e]
    refine ⟨?_, ?_, ?_⟩
    · rw [List.getElem?_append_right (by simp; omega)]; simpa [show (i + 1) * 3 - 3 = i * 3 by omega] using h1
    · rw [List.getElem?_append_right (by simp; omega)]; simpa [show (i + 1) * 3 + 1 - 3 = i * 3 + 1 by omega] using h2
    · rw [List.getElem?_append_right (by simp; omega)]; simpa [show (i + 1) * 3 + 2 - 3 = i * 3 + 2 by omega] using h3
theorem gateCells_get {l : List GateV} {j : Nat} {u : Value} (h : (gateCells l)[j]? = some u) : ∃ i q, l[i]? = some q ∧ (j = i * 3 ∧ u = .int .i64 q.op ∨ j = i * 3 + 1 ∧ u = .int .i64 q.a ∨ j = i * 3 + 2 ∧ u = .int .i64 q.b) := by
  have hj := (List.getElem?_eq_some_iff.1 h).1
  rw [gateCells_len] at hj
  have hi : j / 3 < l.length := by omega
  have hq := List.getElem?_eq_getElem hi
  obtain ⟨h0, h1, h2⟩ := gateCells_at l (j / 3) _ hq
  refine ⟨j / 3, _, hq, ?_⟩
  rcases (by omega : j = j / 3 * 3 ∨ j = j / 3 * 3 + 1 ∨ j = j / 3 * 3 + 2) with e | e | e
  · rw [← e, h] at h0; exact .inl ⟨e, Option.some.inj h0⟩
  · rw [← e, h] at h1; exact .inr (.inl ⟨e, Option.some.inj h1⟩)
  · rw [← e, h] at h2; exact .inr (.inr ⟨e, Option.some.inj h2⟩)
/-- Gates in memory. -/
def GatesIn (w : World) (v : Value) (l : List GateV) : Prop := SlC w v l.length (gateCells l)
def GatesWf (l : List GateV) : Prop := ∀ q ∈ l, I64 q.op ∧ I64 q.a ∧ I64 q.b
def bools (l : List Bool) : List Value := l.map .bool
@[simp] theorem bools_len (l : List Bool) : (bools l).length = l.length := by simp [bools]
theorem bools_at (l : List Bool) (i : Nat) (x : Bool) (h : l[i]? = some x) : (bools l)[i]? = some (.bool x) := by simp [bools, h]
theorem cellsRows : Try.prog.cellsOf 46 = 1 := by kernel_rfl
theorem cellsBool : Try.prog.cellsOf 4 = 1 := by kernel_rfl
section
variable {H : Type} {enc : TypeId × Value → H} {W : World} {base : Nat} {sp : Nat → Bool} {held : Bool}
theorem trod_parts {t : TypeId} {fs : Array Field} {fuel : Nat} {cs : List Value} {x : DataW H × List MemPlace} (ht : Try.prog.underlying t = some (.struct fs))
    (h : DataW.trod enc Try.prog W base sp held fuel t cs = some x) : ∃ n parts, x.1 = .agg parts ∧ cs.length = Try.prog.cellsOf t ∧ ∀ (i o : Nat) (ty : TypeId) (v : Value), (fs[i]?).map (fun f => (f.type, f.offset)) = some (ty, o) → Try.prog.cellsOf ty = 1 → cs[o]? = some v → ∃ y, DataW.trod enc Try.prog W base sp held n ty [v] = some y ∧ parts[i]? = some y.1 := by
  obtain ⟨xs, n, rfl, rfl, hl, hxl, hf⟩ := DataW.trod_struct ht h
  refine ⟨n, _, rfl, hl, fun i o ty v hfs hc hv => ?_⟩
  obtain ⟨f, hfi, e⟩ := Option.map_eq_some_iff.1 hfs
  simp only [Prod.mk.injEq] at e
  obtain ⟨rfl, rfl⟩ := e
  have := hf i f hfi
  have hi : i < xs.length := by rw [hxl]; exact (Array.getElem?_eq_some_iff.1 hfi).1
  obtain ⟨ho, hov⟩ := List.getElem?_eq_some_iff.1 hv
  rw [hc, List.drop_eq_getElem_cons ho, List.take_succ_cons, List.take_zero, hov, List.getElem?_eq_getElem hi] at this
  exact ⟨_, this, by rw [List.getElem?_map, List.getElem?_eq_getElem hi]; rfl⟩
end
end Go.Proofs.Ytkjgghbdpmkmoaa

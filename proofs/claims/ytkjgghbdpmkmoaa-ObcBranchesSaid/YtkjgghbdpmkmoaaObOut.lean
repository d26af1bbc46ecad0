/-
  Rows that a run tells.
  No condition.
-/
import Derived.Test.YtkjgghbdpmkmoaaRowsG
namespace Go.Proofs.Ytkjgghbdpmkmoaa
open Go.RowKit
set_option linter.unusedSimpArgs false
set_option linter.unusedVariables false
set_option maxRecDepth 100000

/-- Rows that are told: the blocks of Sr are none of the rows', those of St not their list's. -/
structure OutsA (W : World) (ov : Value) (vs : List Value) (os : List (List Int)) (Sr St : List Nat) (w : World) : Prop where
  ext : Ext W w
  top : w.ownsRow W.heap.size 23 1 ov vs.length vs
  len : vs.length = os.length
  row : ∀ (j : Nat) (x : Value) (r : List Int), vs[j]? = some x → os[j]? = some r → w.ownsRow W.heap.size 3 1 x r.length (i64s r) ∧ ∀ b, x.ownBlock = some b → b ∉ Sr ∧ ov.ownBlock ≠ some b
  off : ∀ b, ov.ownBlock = some b → b ∉ St
section
variable {W w w' w2 : World} {ov ov2 x : Value} {vs : List Value} {os : List (List Int)} {Sr St Sr' St' T : List Nat} {r : List Int}
theorem OutsA.rows (h : OutsA W ov vs os Sr St w) : RowsIn w ov vs os :=
  ⟨by rw [← h.len]; exact SlC.of_owns h.top, h.len, fun j x r h1 h2 => SlC.of_owns (h.row j x r h1 h2).1⟩
theorem OutsA.tick (h : OutsA W ov vs os Sr St w) (hk : Kb T w w') (hT : ∀ k ∈ T, k ∈ Sr ∧ k ∈ St ∧ W.heap.size ≤ k) (h1 : ∀ k ∈ Sr', k ∈ Sr ∨ w.heap.size ≤ k) (h2 : ∀ k ∈ St', k ∈ St ∨ w.heap.size ≤ k) : OutsA W ov vs os Sr' St' w' := by
  refine ⟨hk.ext h.ext (fun k hk1 => (hT k hk1).2.2), hk.row h.top (fun g hg e => h.off g e (hT g hg).2.1), h.len, fun j x r e1 e2 => ?_, fun b hb hs => ?_⟩
  · obtain ⟨a1, a2⟩ := h.row j x r e1 e2
    refine ⟨hk.row a1 (fun g hg e => (a2 g e).1 (hT g hg).1), fun b hb => ⟨fun hs => ?_, (a2 b hb).2⟩⟩
    rcases h1 b hs with e | e
    · exact (a2 b hb).1 e
    · have := (a1.lt b hb).2; omega
  · rcases h2 b hs with e | e
    · exact h.off b hb e
    · have := (h.top.lt b hb).2; omega
theorem OutsA.push (h : OutsA W ov vs os Sr St w) {B : Nat} (hx : w.ownsRow B 3 1 x r.length (i64s r)) (hB : W.heap.size ≤ B) (hoff : ∀ b, x.ownBlock = some b → b ∉ Sr ∧ ov.ownBlock ≠ some b) (hSr : ∀ k ∈ Sr, k < w.heap.size) (hSt : ∀ k ∈ St, k < w.heap.size) {o : Obj}
    (hg : (w.alloc o).grownBy w2 ov.ownBlock) (hown : w2.ownsRow W.heap.size 23 1 ov2 (vs.length + 1) (vs ++ [x])) (hat : ov2.ownBlock = ov.ownBlock ∨ ov2.ownBlock = some (w.alloc o).heap.size) : OutsA W ov2 (vs ++ [x]) (os ++ [r]) Sr St w2 ∧ Kb ov.ownBlock.toList w w2 := by
  have hk : Kb ov.ownBlock.toList w w2 := (Kb.of_ext ((Ext.refl w).alloc o)).trans (Kb.grown hg (fun g hg => Option.mem_toList.2 hg))
  have hnew : ∀ b, ov2.ownBlock = some b → ov.ownBlock = some b ∨ w.heap.size < b := fun b hb => by
    rcases hat with e | e
    · rw [e] at hb; exact .inl hb
    · rw [e] at hb; simp at hb; exact .inr (by omega)
  have hrow : ∀ {y : Value} {l : List Int}, w.ownsRow W.heap.size 3 1 y l.length (i64s l) → (∀ b, y.ownBlock = some b → b ∉ Sr ∧ ov.ownBlock ≠ some b) → w2.ownsRow W.heap.size 3 1 y l.length (i64s l) ∧ ∀ b, y.ownBlock = some b → b ∉ Sr ∧ ov2.ownBlock ≠ some b := fun {y l} a1 a2 => by
    refine ⟨hk.row a1 (fun g hg e => (a2 g e).2 (Option.mem_toList.1 hg)), fun b hb => ⟨(a2 b hb).1, fun e => ?_⟩⟩
    rcases hnew b e with e | e
    · exact (a2 b hb).2 e
    · have := (a1.lt b hb).2; omega
  refine ⟨⟨hk.ext h.ext (fun k hk1 => (h.top.lt k (Option.mem_toList.1 hk1)).1), by simpa using hown, by simp [h.len], fun j y l e1 e2 => ?_, fun b hb hs => ?_⟩, hk⟩
  · by_cases hj : j < vs.length
    · rw [List.getElem?_append_left hj] at e1
      rw [List.getElem?_append_left (by rw [← h.len]; exact hj)] at e2
      obtain ⟨a1, a2⟩ := h.row j y l e1 e2
      exact hrow a1 a2
    · have hjl : j = vs.length := by
        have := (List.getElem?_eq_some_iff.1 e1).1
        simp at this
        omega
      subst hjl
      rw [List.getElem?_append_right (Nat.le_refl _), Nat.sub_self] at e1
      rw [h.len, List.getElem?_append_right (Nat.le_refl _), Nat.sub_self] at e2
      simp only [List.getElem?_cons_zero, Option.some.injEq] at e1 e2
      subst e1
      subst e2
      exact hrow (ownsRow_base hx hB) hoff
  · rcases hnew b hb with e | e
    · exact h.off b e hs
    · have := hSt b hs; omega
end
def RunP (W : World) (G : Int × List (List Int)) (e : Ending) (w' : World) : Prop := ∃ (v : Value) (vs : List Value), e = .returned (.tuple #[v, .int .i64 G.1]) ∧ RowsIn w' v vs G.2 ∧ Ext W w'
theorem RowsIn.nil (w : World) : RowsIn w (.slice none 0 0) [] [] := ⟨⟨none, 0, rfl, Nat.le_refl _, Nat.zero_le _, fun j u hu => by simp at hu⟩, rfl, fun j x r h => by simp at h⟩
theorem RunP.no {W w : World} {G : Int × List (List Int)} {er : Int} (hx : Ext W w) (h : G = (er, [])) : RunP W G (.returned (.tuple #[.slice none 0 0, .int .i64 er])) w := by
  subst h; exact ⟨_, [], rfl, RowsIn.nil w, hx⟩
theorem RunP.yes {W w : World} {G : Int × List (List Int)} {os : List (List Int)} {v : Value} {vs : List Value} (h : G = (0, os)) (hr : RowsIn w v vs os) (hx : Ext W w) : RunP W G (.returned (.tuple #[v, .int .i64 0])) w := by
  subst h; exact ⟨_, vs, rfl, hr, hx⟩
end Go.Proofs.Ytkjgghbdpmkmoaa

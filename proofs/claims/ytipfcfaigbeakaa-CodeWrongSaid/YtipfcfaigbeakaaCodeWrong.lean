/-
  The law on what can be wrong with code: its walk.
  No condition.
-/
import Derived.Test.YtipfcfaigbeakaaJLaw
import Derived.Test.YtipfcfaigbeakaaCodePlain5
import Derived.Test.YtipfcfaigbeakaaCodeStacks
import Derived.Laws.Rows
namespace Go.Proofs.Ytipfcfaigbeakaa
open Go.RowKit
set_option maxRecDepth 100000

/-- The example's slices, turned or not: the kinds in block g, the instructions in block g + 1. -/
def LikeAt (g : Nat) (ks bs : Array Value) (w : World) : Prop := w.heap[g]? = some (.cells ks 3) ∧ w.heap[g + 1]? = some (.cells bs 33)
theorem LikeAt.ext {g : Nat} {ks bs : Array Value} {w w' : World} (h : LikeAt g ks bs w) (hx : Ext w w') : LikeAt g ks bs w' :=
  ⟨by rw [Below.block hx g (Array.getElem?_eq_some_iff.1 h.1).1]; exact h.1, by rw [Below.block hx (g + 1) (Array.getElem?_eq_some_iff.1 h.2).1]; exact h.2⟩
theorem LikeAt.kindAt {g : Nat} {ks bs : Array Value} {w : World} (h : LikeAt g ks bs w) (j : Nat) (u : Value) (hj : ks[j]? = some u) : w.cell? ⟨g, j, none⟩ = some u := by rw [cell_of_row w g j ks _ (0, 0) h.1]; exact hj
theorem LikeAt.insAt {g : Nat} {ks bs : Array Value} {w : World} (h : LikeAt g ks bs w) (j : Nat) (u : Value) (hj : bs[j]? = some u) : w.cell? ⟨g + 1, j, none⟩ = some u := by rw [cell_of_row w (g + 1) j bs _ (0, 0) h.2]; exact hj
theorem LikeAt.insAll {g : Nat} {ks bs : Array Value} {w : World} (h : LikeAt g ks bs w) (j : Nat) (u : Value) (hj : bs.toList[j]? = some u) : w.cell? ⟨g + 1, j, none⟩ = some u := h.insAt j u (by simpa using hj)
theorem take_get {j : Nat} {u : Value} (h : (insCells [⟨2, 0, 0⟩, ⟨1, 1, 2⟩, ⟨5, 3, 2⟩])[j]? = some u) : smallB.toList[j]? = some u := by
  have e : insCells [⟨2, 0, 0⟩, ⟨1, 1, 2⟩, ⟨5, 3, 2⟩] = smallB.toList.take 9 := rfl
  rw [e, List.getElem?_take] at h
  split at h
  · exact h
  · cases h
theorem LikeAt.kind {g : Nat} {ks bs : Array Value} {w : World} (h : LikeAt g ks bs w) (j : Nat) (u : Value) : LikeAt g (ks.setIfInBounds j u) bs (w.setCell ⟨g, j, none⟩ u) :=
  ⟨heap_setCell_same _ _ _ _ _ _ h.1, (heap_setCell_other _ _ _ _ (by simp)).trans h.2⟩
theorem LikeAt.ins {g : Nat} {ks bs : Array Value} {w : World} (h : LikeAt g ks bs w) (j : Nat) (u : Value) : LikeAt g ks (bs.setIfInBounds j u) (w.setCell ⟨g + 1, j, none⟩ u) :=
  ⟨(heap_setCell_other _ _ _ _ (by simp)).trans h.1, heap_setCell_same _ _ _ _ _ _ h.2⟩
theorem LikeAt.other {g : Nat} {ks bs : Array Value} {w : World} (h : LikeAt g ks bs w) {X : Nat} (h1 : g ≠ X) (h2 : g + 1 ≠ X) (j : Nat) (u : Value) : LikeAt g ks bs (w.setCell ⟨X, j, none⟩ u) :=
  ⟨(heap_setCell_other _ _ _ _ h1).trans h.1, (heap_setCell_other _ _ _ _ h2).trans h.2⟩
theorem LikeAt.code {g : Nat} {ks bs : Array Value} {w : World} (h : LikeAt g ks bs w) (kinds : List Int) (body : List InsV) (c : CodeV) (n cap : Nat) (hk : ks.toList = i64s kinds) (hk2 : kinds.length = 2) (hb : bs.toList.take (n * 3) = insCells body) (hn : body.length = n) (hc : n ≤ cap) (hcm : cap ≤ maxLen)
    (e1 : c.kinds = kinds) (e2 : c.init = []) (e3 : c.body = body) : CodeIn w (.slice (some ⟨g, 0, none⟩) 2 2) (.slice none 0 0) (.slice (some ⟨g + 1, 0, none⟩) n cap) c := by
  refine ⟨?_, by rw [e2]; exact SlC.nil w, ?_⟩
  · rw [e1, hk2]; exact SlC.of_block h.1 2 2 _ (by decide) (by decide) hk
  · rw [e3, hn]
    refine ⟨_, cap, rfl, hc, hcm, fun j u hu => ⟨g + 1, 0, rfl, ?_⟩⟩
    rw [Nat.zero_add, cell_of_row w (g + 1) j bs _ (0, 0) h.2]
    rw [← hb, List.getElem?_take] at hu
    split at hu
    · simpa using hu
    · cases hu
end Go.Proofs.Ytipfcfaigbeakaa

/-
  Code that was lent to a machine and is written over: what the machines keep.
  No condition.
-/
import Derived.Test.YtipfcfaigbeakaaJExecU
import Derived.Deep.MidRow
namespace Go.Proofs.Ytipfcfaigbeakaa
open Go.RowKit
set_option linter.unusedSimpArgs false
set_option linter.unusedVariables false
set_option maxRecDepth 100000

theorem own_room3 {w : World} {base g n cap : Nat} {e : TypeId} {xs : List Value} (h : w.ownsRow base e 3 (.slice (some ⟨g, 0, none⟩) n cap) n xs) (j : Nat) (hj : j < n) : w.there g (j * 3) 3 := by
  obtain ⟨h1, h2⟩ := h
  rcases h2 with ⟨h2, _⟩ | ⟨g', cap', cur, hv, hg, hh, hn, hc, hs, ht⟩
  · cases h2
  · simp only [Value.slice.injEq, Option.some.injEq, Addr.mk.injEq] at hv
    obtain ⟨⟨rfl, -, -⟩, -, rfl⟩ := hv
    refine fun i hi => ⟨?_, frozen_of_row _ _ _ _ _ hh⟩
    rw [cell_of_row w g _ cur e (0, 0) hh, Array.getElem?_eq_getElem (by rw [hs]; omega)]
    rfl
theorem own_put3 {w : World} {base g n cap : Nat} {e : TypeId} {xs : List Value} (h : w.ownsRow base e 3 (.slice (some ⟨g, 0, none⟩) n cap) n xs) (j : Nat) (a b c : Value) : (w.setCells g j [a, b, c]).ownsRow base e 3 (.slice (some ⟨g, 0, none⟩) n cap) n (((xs.set j a).set (j + 1) b).set (j + 1 + 1) c) :=
  (((h.stored j a).1.stored (j + 1) b).1.stored (j + 1 + 1) c).1
theorem kb_put3 (w : World) (g j : Nat) (a b c : Value) : Kb [g] w (w.setCells g j [a, b, c]) :=
  ((Kb.set w g j (by simp) a).trans (Kb.set _ g (j + 1) (by simp) b)).trans (Kb.set _ g (j + 1 + 1) (by simp) c)
/-- A row of its own: its slice, its elements' type, their size, their number. -/
structure RowD where
  v : Value
  e : TypeId
  sz : Nat
  n : Nat
/-- Two machines, made of code that was lent; the rows of R, its own, are apart from them. -/
structure Lends (W : World) (X D : Nat) (cl dl : List Value) (c : CodeV) (g1 B1 g2 B2 : Nat) (S1 S2 : List Nat) (R : List RowD) (w : World) : Prop where
  ext : Ext W w
  bx : BoxV X cl w
  bd : BoxV D dl w
  rows : ∀ p ∈ R, ∃ xs, w.ownsRow W.heap.size p.e p.sz p.v p.n xs
  off : ∀ p ∈ R, ∀ b, p.v.ownBlock = some b → b ≠ X ∧ b ≠ D ∧ b ∉ S1 ∧ b ∉ S2
  two : R.Pairwise fun p q => ∀ b, p.v.ownBlock = some b → q.v.ownBlock ≠ some b
  m : MI g1 B1 c c.init S1 w
  o : MI g2 B2 c c.init S2 w
section
variable {W w w' : World} {X D : Nat} {cl dl : List Value} {c : CodeV} {g1 B1 g2 B2 : Nat} {S1 S2 : List Nat} {R : List RowD} {p : RowD}
theorem Lends.more (h : Lends W X D cl dl c g1 B1 g2 B2 S1 S2 R w) (hx : Ext w w') : Lends W X D cl dl c g1 B1 g2 B2 S1 S2 R w' :=
  ⟨h.ext.trans hx, h.bx.ext hx, h.bd.ext hx, fun p hp => by obtain ⟨xs, h1⟩ := h.rows p hp; exact ⟨xs, ownsRow_ext h1 hx⟩, h.off, h.two, h.m.ext hx, h.o.ext hx⟩
theorem Lends.tail (h : Lends W X D cl dl c g1 B1 g2 B2 S1 S2 (p :: R) w) : Lends W X D cl dl c g1 B1 g2 B2 S1 S2 R w :=
  ⟨h.ext, h.bx, h.bd, fun q hq => h.rows q (List.mem_cons.2 (.inr hq)), fun q hq => h.off q (List.mem_cons.2 (.inr hq)), (List.pairwise_cons.1 h.two).2, h.m, h.o⟩
theorem Lends.write (h : Lends W X D cl dl c g1 B1 g2 B2 S1 S2 (p :: R) w) {b : Nat} (hb : p.v.ownBlock = some b) (hk : Kb [b] w w') (hr : ∃ xs, w'.ownsRow W.heap.size p.e p.sz p.v p.n xs) : Lends W X D cl dl c g1 B1 g2 B2 S1 S2 (p :: R) w' := by
  obtain ⟨o1, o2, o3, o4⟩ := h.off p (List.mem_cons.2 (.inl rfl)) b hb
  obtain ⟨xs, hp⟩ := h.rows p (List.mem_cons.2 (.inl rfl))
  have hlt := hp.lt b hb
  refine ⟨hk.ext h.ext (fun k hk1 => by rw [List.mem_singleton.1 hk1]; exact hlt.1), h.bx.kb hk (by simpa using Ne.symm o1), h.bd.kb hk (by simpa using Ne.symm o2), fun q hq => ?_, h.off, h.two, h.m.kb hk (fun k hk1 hk2 => by rw [List.mem_singleton.1 hk2] at hk1; exact o3 hk1), h.o.kb hk (fun k hk1 hk2 => by rw [List.mem_singleton.1 hk2] at hk1; exact o4 hk1)⟩
  rcases List.mem_cons.1 hq with e | e
  · rw [e]; exact hr
  · obtain ⟨ys, hy⟩ := h.rows q hq
    exact ⟨ys, hk.row hy (fun k hk1 => by rw [List.mem_singleton.1 hk1]; exact (List.pairwise_cons.1 h.two).1 q e b hb)⟩
/-- An instruction of the code that was lent is written over. -/
theorem Lends.ins {e : TypeId} {b n cap : Nat} (h : Lends W X D cl dl c g1 B1 g2 B2 S1 S2 (⟨.slice (some ⟨b, 0, none⟩) n cap, e, 3, n⟩ :: R) w) (j : Nat) (x y z : Value) : Lends W X D cl dl c g1 B1 g2 B2 S1 S2 (⟨.slice (some ⟨b, 0, none⟩) n cap, e, 3, n⟩ :: R) (w.setCells b j [x, y, z]) := by
  refine h.write rfl (kb_put3 w b j x y z) ?_
  obtain ⟨xs, hp⟩ := h.rows _ (List.mem_cons.2 (.inl rfl))
  exact ⟨_, own_put3 hp j x y z⟩
/-- A number of the code that was lent is written over. -/
theorem Lends.num {e : TypeId} {b n cap : Nat} (h : Lends W X D cl dl c g1 B1 g2 B2 S1 S2 (⟨.slice (some ⟨b, 0, none⟩) n cap, e, 1, n⟩ :: R) w) (j : Nat) (hj : j < n) (x : Value) : Lends W X D cl dl c g1 B1 g2 B2 S1 S2 (⟨.slice (some ⟨b, 0, none⟩) n cap, e, 1, n⟩ :: R) (w.setCell ⟨b, j, none⟩ x) := by
  refine h.write rfl (Kb.set w b j (by simp) x) ?_
  obtain ⟨xs, hp⟩ := h.rows _ (List.mem_cons.2 (.inl rfl))
  exact ⟨_, own_set1 hp j hj x⟩
end
end Go.Proofs.Ytipfcfaigbeakaa

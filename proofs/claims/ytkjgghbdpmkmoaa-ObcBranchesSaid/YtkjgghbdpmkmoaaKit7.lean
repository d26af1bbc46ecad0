/-
  More steps of the walk: all blocks but a few stay as they are.
  No condition.
-/
import Derived.Test.YtkjgghbdpmkmoaaKit4
namespace Go.Proofs.Ytkjgghbdpmkmoaa
open Go.RowKit
set_option linter.unusedSimpArgs false
set_option linter.unusedVariables false
set_option maxRecDepth 100000

/-- All blocks but those of S stay as they are. -/
structure Kb (S : List Nat) (w w' : World) : Prop where
  os : w'.os = w.os
  tape : w'.tape = w.tape
  output : w'.output = w.output
  size : w.heap.size ≤ w'.heap.size
  block : ∀ k, k < w.heap.size → k ∉ S → w'.heap[k]? = w.heap[k]?
theorem Kb.of_ext {S : List Nat} {w w' : World} (h : Ext w w') : Kb S w w' := ⟨h.os, h.tape, h.output, h.size, fun k hk _ => Below.block h k hk⟩
theorem Kb.refl (S : List Nat) (w : World) : Kb S w w := Kb.of_ext (Ext.refl w)
theorem Kb.trans {S : List Nat} {a b c : World} (h : Kb S a b) (k : Kb S b c) : Kb S a c := ⟨k.os.trans h.os, k.tape.trans h.tape, k.output.trans h.output, Nat.le_trans h.size k.size, fun i hi h1 => (k.block i (Nat.lt_of_lt_of_le hi h.size) h1).trans (h.block i hi h1)⟩
theorem Kb.mono {S T : List Nat} {a b : World} (h : Kb S a b) (hs : ∀ k ∈ S, k ∈ T) : Kb T a b := ⟨h.os, h.tape, h.output, h.size, fun i hi h1 => h.block i hi (fun e => h1 (hs i e))⟩
/-- A new block may be written: it is none of the old ones. -/
theorem Kb.trans_new {S T : List Nat} {a b c : World} (h : Kb S a b) (k : Kb T b c) (hT : ∀ i ∈ T, i ∈ S ∨ a.heap.size ≤ i) : Kb S a c :=
  ⟨k.os.trans h.os, k.tape.trans h.tape, k.output.trans h.output, Nat.le_trans h.size k.size, fun i hi h1 => (k.block i (Nat.lt_of_lt_of_le hi h.size) (fun e => (hT i e).elim h1 (fun q => absurd hi (Nat.not_lt.2 q)))).trans (h.block i hi h1)⟩
theorem Kb.set {S : List Nat} (w : World) (b j : Nat) (hb : b ∈ S) (u : Value) : Kb S w (w.setCell ⟨b, j, none⟩ u) :=
  ⟨rfl, rfl, rfl, by simp, fun k _ h1 => Below.heap_setCell _ _ _ _ (fun (e : k = b) => h1 (by rw [e]; exact hb))⟩
theorem Kb.ext {S : List Nat} {W w w' : World} (h : Kb S w w') (hx : Ext W w) (hS : ∀ k ∈ S, W.heap.size ≤ k) : Ext W w' :=
  Below.trans hx ⟨h.os, h.tape, h.output, h.size, fun k hk => h.block k (Nat.lt_of_lt_of_le hk hx.size) (fun e => absurd hk (Nat.not_lt.2 (hS k e)))⟩
theorem Kb.below {S : List Nat} {B : Nat} {W w w' : World} (h : Kb S w w') (hx : Below B W w) (hB : B ≤ W.heap.size) (hS : ∀ k ∈ S, B ≤ k) : Below B W w' :=
  Below.trans hx ⟨h.os, h.tape, h.output, h.size, fun k hk => h.block k (Nat.lt_of_lt_of_le hk (Nat.le_trans hB hx.size)) (fun e => absurd hk (Nat.not_lt.2 (hS k e)))⟩
theorem Kb.cell {S : List Nat} {w w' : World} (h : Kb S w w') {b o : Nat} {u : Value} (hb : b ∉ S) (hc : w.cell? ⟨b, o, none⟩ = some u) : w'.cell? ⟨b, o, none⟩ = some u := by
  have hl := World.block_lt_of_cell? w _ hc
  rw [← hc]; unfold World.cell?; simp only [h.block b hl hb]
theorem Kb.frozen {S : List Nat} {w w' : World} (h : Kb S w w') {b o : Nat} (hl : b < w.heap.size) (hb : b ∉ S) : w'.frozen? ⟨b, o, none⟩ = w.frozen? ⟨b, o, none⟩ := by
  unfold World.frozen?; simp only [h.block b hl hb]
theorem Kb.row {S : List Nat} {w w' : World} (h : Kb S w w') {base : Nat} {e : TypeId} {size : Nat} {v : Value} {n : Nat} {xs : List Value} (ho : w.ownsRow base e size v n xs) (hS : ∀ g ∈ S, v.ownBlock ≠ some g) : w'.ownsRow base e size v n xs := by
  refine ⟨ho.1, ho.2.imp id ?_⟩
  rintro ⟨g, cap, cur, rfl, h1, h2, r⟩
  exact ⟨g, cap, cur, rfl, h1, by rw [h.block g (Array.getElem?_eq_some_iff.1 h2).1 (fun e => hS g e rfl)]; exact h2, r⟩
theorem Kb.heap {S : List Nat} {w w' : World} (h : Kb S w w') {X : Nat} {o : Obj} (hX : X ∉ S) (hw : w.heap[X]? = some o) : w'.heap[X]? = some o := by
  rw [h.block X (Array.getElem?_eq_some_iff.1 hw).1 hX]; exact hw
/-- What an append leaves: only its own row's block. -/
theorem Kb.grown {S : List Nat} {w w' : World} {r : Option Nat} (h : w.grownBy w' r) (hS : ∀ g, r = some g → g ∈ S) : Kb S w w' :=
  ⟨h.os, h.tape, h.output, h.size, fun k hk hs => h.block k hk (fun e => hs (hS k e.symm))⟩
end Go.Proofs.Ytkjgghbdpmkmoaa

/-
  Step code and its checker as they lie in memory.
  No condition.
-/
import Derived.Test.YtkjgghbdpmkmoaaObW2
import Derived.Test.YtkjgghbdpmkmoaaObW3
import Derived.Test.YtkjgghbdpmkmoaaSMap
namespace Go.Proofs.Ytkjgghbdpmkmoaa
open Go.RowKit Go.Maps
set_option linter.unusedSimpArgs false
set_option linter.unusedVariables false
set_option maxRecDepth 100000

/-! ### Variables and cells -/
def vCells : List CV → List Value → List Value
  | v :: l, q :: qs => [.string v.name, .int .i64 v.kind, q] ++ vCells l qs
  | _, _ => []
/-- Variables that a slice shows. -/
def VIn (w : World) (v : Value) (l : List CV) : Prop := ∃ qs : List Value, qs.length = l.length ∧ (∀ q ∈ qs, ∃ p n c, q = .slice p n c) ∧ SlC w v l.length (vCells l qs)
theorem vCells_at : ∀ {l : List CV} {qs : List Value} {i : Nat} {x : CV}, qs.length = l.length → l[i]? = some x → ∃ q ∈ qs, ∀ k u, ([.string x.name, .int .i64 x.kind, q] : List Value)[k]? = some u → (vCells l qs)[i * 3 + k]? = some u
  | [], _, _, _, _, h => by simp at h
  | y :: l, [], _, _, h, _ => by simp at h
  | y :: l, q :: qs, 0, x, hl, h => by
    simp at h
    subst h
    refine ⟨q, by simp, fun k u hu => ?_⟩
    rw [vCells, Nat.zero_mul, Nat.zero_add, List.getElem?_append_left]
    · exact hu
    · exact (List.getElem?_eq_some_iff.1 hu).1
  | y :: l, q :: qs, i + 1, x, hl, h => by
    obtain ⟨q', h1, h2⟩ := vCells_at (l := l) (qs := qs) (i := i) (x := x) (by simpa using hl) (by simpa using h)
    refine ⟨q', by simp [h1], fun k u hu => ?_⟩
    rw [vCells, List.getElem?_append_right (by simp; omega), show (i + 1) * 3 + k - List.length [Value.string y.name, Value.int .i64 y.kind, q] = i * 3 + k by simp; omega]
    exact h2 k u hu
theorem VIn.slice {w : World} {v : Value} {l : List CV} (h : VIn w v l) : ∃ p c, v = .slice p l.length c ∧ l.length ≤ c ∧ c ≤ maxLen := by
  obtain ⟨qs, -, -, a, c, e1, h2, h3, -⟩ := h
  exact ⟨a, c, e1, h2, h3⟩
theorem VIn.ext {w w' : World} {v : Value} {l : List CV} (h : VIn w v l) (hx : Ext w w') : VIn w' v l := by
  obtain ⟨qs, h1, h2, h3⟩ := h
  exact ⟨qs, h1, h2, h3.ext hx⟩
theorem VIn.at {w : World} {l : List CV} {p : Option Addr} {m c i : Nat} {x : CV} (h : VIn w (.slice p m c) l) (hs : l[i]? = some x) : ∃ b o pq nq cq, p = some ⟨b, o, none⟩ ∧ w.cell? ⟨b, o + i * 3, none⟩ = some (.string x.name) ∧ w.cell? ⟨b, o + i * 3 + 1, none⟩ = some (.int .i64 x.kind) ∧ w.cell? ⟨b, o + i * 3 + 2, none⟩ = some (.slice pq nq cq) ∧ b < w.heap.size := by
  obtain ⟨qs, h1, h2, a', c', e1, h3, h4, h5⟩ := h
  simp only [Value.slice.injEq] at e1
  obtain ⟨rfl, rfl, rfl⟩ := e1
  obtain ⟨q, hq, h6⟩ := vCells_at h1 hs
  obtain ⟨pq, nq, cq, rfl⟩ := h2 q hq
  obtain ⟨b, o, rfl, c0⟩ := h5 _ _ (h6 0 _ rfl)
  have hh : ∀ k u, ([.string x.name, .int .i64 x.kind, .slice pq nq cq] : List Value)[k]? = some u → w.cell? ⟨b, o + i * 3 + k, none⟩ = some u := fun k u hu => by
    obtain ⟨b', o', e2, h7⟩ := h5 _ _ (h6 k u hu)
    simp only [Option.some.injEq, Addr.mk.injEq] at e2
    obtain ⟨rfl, rfl, -⟩ := e2
    rw [Nat.add_assoc]
    exact h7
  exact ⟨b, o, pq, nq, cq, rfl, c0, hh 1 _ rfl, hh 2 _ rfl, World.block_lt_of_cell? w _ c0⟩
def cCells : List CL → List Value
  | [] => []
  | x :: l => [.string x.name, .int .i64 x.kind, .int .i64 x.init] ++ cCells l
theorem cCells_at : ∀ {l : List CL} {i : Nat} {x : CL}, l[i]? = some x → ∀ k u, ([.string x.name, .int .i64 x.kind, .int .i64 x.init] : List Value)[k]? = some u → (cCells l)[i * 3 + k]? = some u
  | [], _, _, h => by simp at h
  | y :: l, 0, x, h => by
    simp at h
    subst h
    intro k u hu
    rw [cCells, Nat.zero_mul, Nat.zero_add, List.getElem?_append_left]
    · exact hu
    · exact (List.getElem?_eq_some_iff.1 hu).1
  | y :: l, i + 1, x, h => by
    intro k u hu
    rw [cCells, List.getElem?_append_right (by simp; omega), show (i + 1) * 3 + k - List.length [Value.string y.name, Value.int .i64 y.kind, Value.int .i64 y.init] = i * 3 + k by simp; omega]
    exact cCells_at (l := l) (by simpa using h) k u hu
/-- Cells that a slice shows. -/
def CIn (w : World) (v : Value) (l : List CL) : Prop := SlC w v l.length (cCells l)
theorem CIn.ext {w w' : World} {v : Value} {l : List CL} (h : CIn w v l) (hx : Ext w w') : CIn w' v l := by
  unfold CIn at h ⊢
  exact h.ext hx
theorem CIn.slice {w : World} {v : Value} {l : List CL} (h : CIn w v l) : ∃ p c, v = .slice p l.length c ∧ l.length ≤ c ∧ c ≤ maxLen := by
  obtain ⟨a, c, e1, h2, h3, -⟩ := h
  exact ⟨a, c, e1, h2, h3⟩
theorem CIn.at {w : World} {l : List CL} {p : Option Addr} {m c i : Nat} {x : CL} (h : CIn w (.slice p m c) l) (hs : l[i]? = some x) : ∃ b o, p = some ⟨b, o, none⟩ ∧ w.cell? ⟨b, o + i * 3, none⟩ = some (.string x.name) ∧ w.cell? ⟨b, o + i * 3 + 1, none⟩ = some (.int .i64 x.kind) ∧ w.cell? ⟨b, o + i * 3 + 2, none⟩ = some (.int .i64 x.init) ∧ b < w.heap.size := by
  obtain ⟨a', c', e1, h3, h4, h5⟩ := h
  simp only [Value.slice.injEq] at e1
  obtain ⟨rfl, rfl, rfl⟩ := e1
  have h6 := cCells_at hs
  obtain ⟨b, o, rfl, c0⟩ := h5 _ _ (h6 0 _ rfl)
  have hh : ∀ k u, ([.string x.name, .int .i64 x.kind, .int .i64 x.init] : List Value)[k]? = some u → w.cell? ⟨b, o + i * 3 + k, none⟩ = some u := fun k u hu => by
    obtain ⟨b', o', e2, h7⟩ := h5 _ _ (h6 k u hu)
    simp only [Option.some.injEq, Addr.mk.injEq] at e2
    obtain ⟨rfl, rfl, -⟩ := e2
    rw [Nat.add_assoc]
    exact h7
  exact ⟨b, o, rfl, c0, hh 1 _ rfl, hh 2 _ rfl, World.block_lt_of_cell? w _ c0⟩
/-! ### Step code -/
/-- The five slices of step code. -/
structure S5 where
  iv : Value
  ov : Value
  vv : Value
  cv : Value
  bv : Value
structure SPIn (w : World) (s : SP) (x : S5) : Prop where
  ins : VIn w x.iv s.ins
  outs : VIn w x.ov s.outs
  vars : VIn w x.vv s.vars
  cells : CIn w x.cv s.cells
  body : BIn w x.bv s.body
structure okP (s : SP) : Prop where
  ins : ∀ v ∈ s.ins, v.name.size ≤ maxLen ∧ I64 v.kind
  outs : ∀ v ∈ s.outs, v.name.size ≤ maxLen ∧ I64 v.kind
  vars : ∀ v ∈ s.vars, v.name.size ≤ maxLen ∧ I64 v.kind
  cells : ∀ v ∈ s.cells, v.name.size ≤ maxLen ∧ I64 v.kind ∧ I64 v.init
  body : okL s.body
/-- The checker: its block, its names' map. -/
structure CK (W0 : World) (x : S5) (X M : Nat) (L : List (ByteArray × Value)) (c : Int) (w : World) : Prop where
  ext : Ext W0 w
  box : BoxV X [x.iv, x.ov, x.vv, x.cv, x.bv, .map (some M), .int .i64 c] w
  map : SM Try.prog 9 M L w
  nx : W0.heap.size ≤ X
  nm : W0.heap.size ≤ M
  ne : X ≠ M
section
variable {W0 w w' : World} {x : S5} {X M : Nat} {L : List (ByteArray × Value)} {c d : Int}
theorem CK.next (h : CK W0 x X M L c w) (hx : Ext w w') : CK W0 x X M L c w' :=
  { h with ext := h.ext.trans hx, box := h.box.ext hx, map := h.map.ext hx }
theorem CK.count (h : CK W0 x X M L c w) (d : Int) : CK W0 x X M L d (w.setCell ⟨X, 6, none⟩ (.int .i64 d)) :=
  { h with ext := (Kb.set (S := [X]) w X 6 (by simp) _).ext h.ext (by simpa using h.nx), box := (h.box.put 6 _).cast rfl, map := h.map.kb (Kb.set (S := [X]) w X 6 (by simp) _) (by simpa using h.ne.symm) }
end
end Go.Proofs.Ytkjgghbdpmkmoaa

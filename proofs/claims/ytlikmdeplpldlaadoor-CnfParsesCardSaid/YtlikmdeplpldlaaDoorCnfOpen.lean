/-
  Nets of gates, formulas, rows of bools and of numbers that came in as arguments: how they lie in memory.
  No condition.
-/
import Derived.Test.YtlikmdeplpldlaaDoorCnfPlain
import Derived.Test.YtlikmdeplpldlaaDoorRowsG
namespace Go.Proofs.YtlikmdeplpldlaaDoor
open Go.RowKit Go.ChangeShapes Go.WideShapes Go.ChangeAt
set_option linter.unusedSimpArgs false
set_option linter.unusedVariables false
set_option maxRecDepth 100000

def gateCells (l : List GateV) : List Value := l.flatMap fun q => [.int .i64 q.op, .int .i64 q.a, .int .i64 q.b]
theorem gateCells_len : ∀ (l : List GateV), (gateCells l).length = l.length * 3
  | [] => rfl
  | q :: l => by
    have := gateCells_len l
    unfold gateCells at this ⊢
    rw [List.flatMap_cons, List.length_append, this, List.length_cons]; simp; omega
theorem gateCells_at : ∀ (l : List GateV) (i : Nat) (q : GateV), l[i]? = some q → (gateCells l)[i * 3]? = some (.int .i64 q.op) ∧ (gateCells l)[i * 3 + 1]? = some (.int .i64 q.a) ∧ (gateCells l)[i * 3 + 2]? = some (.int .i64 q.b)
  | x :: l, 0, q, h => by simp at h; subst h; exact ⟨rfl, rfl, rfl⟩
  | x :: l, i + 1, q, h => by
    simp only [List.getElem?_cons_succ] at h
    obtain ⟨h1, h2, h3⟩ := gateCells_at l i q h
    have e : gateCells (x :: l) = [.int .i64 x.op, .int .i64 x.a, .int .i64 x.b] ++ gateCells l := by unfold gateCells; rw [List.flatMap_cons]
    rw [e]
    refine ⟨?_, ?_, ?_⟩
    · rw [List.getElem?_append_right (by simp; omega)]; simpa [show (i + 1) * 3 - 3 = i * 3 by omega] using h1
    · rw [List.getElem?_append_right (by simp; omega)]; simpa [show (i + 1) * 3 + 1 - 3 = i * 3 + 1 by omega] using h2
    · rw [List.getElem?_append_right (by simp; omega)]; simpa [show (i + 1) * 3 + 2 - 3 = i * 3 + 2 by omega] using h3
theorem gateCells_get {l : List GateV} {j : Nat} {u : Value} (h : (gateCells l)[j]? = some u) : ∃ i q, l[i]? = some q ∧ (j = i * 3 ∧ u = .int .i64 q.op ∨ j = i * 3 + 1 ∧ u = .int .i64 q.a ∨ j = i * 3 + 2 ∧ u = .int .i64 q.b) := by
  have hj := (List.getElem?_eq_some_iff.1 h).1
  rw [gateCells_len] at hj
  have hi : j / 3 < l.length := by omega
  have hq := List.getElem?_eq_getElem hi
  obtain ⟨h0, h1, h2⟩ := gateCells_at l (j / 3) _ hq
  refine ⟨j / 3, _, hq, ?_⟩
  rcases (by omega : j = j / 3 * 3 ∨ j = j / 3 * 3 + 1 ∨ j = j / 3 * 3 + 2) with e | e | e
  · rw [← e, h] at h0; exact .inl ⟨e, Option.some.inj h0⟩
  · rw [← e, h] at h1; exact .inr (.inl ⟨e, Option.some.inj h1⟩)
  · rw [← e, h] at h2; exact .inr (.inr ⟨e, Option.some.inj h2⟩)
/-- Gates in memory. -/
def GatesIn (w : World) (v : Value) (l : List GateV) : Prop := SlC w v l.length (gateCells l)
def GatesWf (l : List GateV) : Prop := ∀ q ∈ l, I64 q.op ∧ I64 q.a ∧ I64 q.b
def bools (l : List Bool) : List Value := l.map .bool
@[simp] theorem bools_len (l : List Bool) : (bools l).length = l.length := by simp [bools]
theorem bools_at (l : List Bool) (i : Nat) (x : Bool) (h : l[i]? = some x) : (bools l)[i]? = some (.bool x) := by simp [bools, h]
theorem cellsGate : Tryd.prog.cellsOf 48 = 3 := by kernel_rfl
theorem cellsGates : Tryd.prog.cellsOf 33 = 1 := by kernel_rfl
theorem cellsNet : Tryd.prog.cellsOf 35 = 1 := by kernel_rfl
theorem cellsFormula : Tryd.prog.cellsOf 24 = 2 := by kernel_rfl
theorem cellsRows : Tryd.prog.cellsOf 22 = 1 := by kernel_rfl
theorem cellsBool : Tryd.prog.cellsOf 4 = 1 := by kernel_rfl
section
variable {H : Type} {enc : TypeId × Value → H} {W : World} {base : Nat} {sp : Nat → Bool} {held : Bool}
theorem open_gates {fuel : Nat} {v : Value} {x : DataW H × List MemPlace} (h : DataW.trod enc Tryd.prog W base sp held fuel 33 [v] = some x) :
    ∃ l : List GateV, GatesIn W v l ∧ GatesWf l := by
  rcases Deep.open_slice Tryd.underlying33 h with ⟨e1, rfl⟩ | ⟨a, len, cap, m, n, D, Pl, e1, hb, hl, hcm, hm, rfl, hel⟩
  · simp only [List.cons.injEq, and_true] at e1
    subst e1
    exact ⟨[], ⟨none, 0, rfl, Nat.le_refl _, Nat.zero_le _, fun j u hu => by simp [gateCells] at hu⟩, fun n hn => by cases hn⟩
  · simp only [List.cons.injEq, and_true] at e1
    subst e1
    have hlm : len ≤ m := by rw [hm]; split <;> omega
    have each : ∀ i, i < len → ∃ q : GateV, W.cell? (a.add (i * 3)) = some (.int .i64 q.op) ∧ W.cell? (a.add (i * 3 + 1)) = some (.int .i64 q.a) ∧ W.cell? (a.add (i * 3 + 2)) = some (.int .i64 q.b) ∧ I64 q.op ∧ I64 q.a ∧ I64 q.b := by
      intro i hi
      obtain ⟨cs', h1, h2⟩ := hel i (by omega)
      rw [cellsGate] at h1
      obtain ⟨_, hlen, hcell⟩ := World.cells?_some h1
      obtain ⟨k, _, hf⟩ := trod_fields Tryd.underlying48 h2
      match cs', hlen with
      | [v0, v1, v2], _ =>
        obtain ⟨y0, f0⟩ := hf 0 0 3 v0 rfl cellsInt rfl
        obtain ⟨y1, f1⟩ := hf 1 1 3 v1 rfl cellsInt rfl
        obtain ⟨y2, f2⟩ := hf 2 2 3 v2 rfl cellsInt rfl
        obtain ⟨n0, e0, _, w0⟩ := DataW.trod_int Tryd.underlying3 f0
        obtain ⟨n1, e1, _, w1⟩ := DataW.trod_int Tryd.underlying3 f1
        obtain ⟨n2, e2, _, w2⟩ := DataW.trod_int Tryd.underlying3 f2
        simp only [List.cons.injEq, and_true] at e0 e1 e2
        subst e0
        subst e1
        subst e2
        have c0 := hcell 0 (by omega)
        have c1 := hcell 1 (by omega)
        have c2 := hcell 2 (by omega)
        rw [Deep.add_add] at c0 c1 c2
        exact ⟨⟨n0, n1, n2⟩, c0, c1, c2, lit_I64 w0, lit_I64 w1, lit_I64 w2⟩
    have hch : ∃ f : Nat → GateV, ∀ i, i < len → W.cell? (a.add (i * 3)) = some (.int .i64 (f i).op) ∧ W.cell? (a.add (i * 3 + 1)) = some (.int .i64 (f i).a) ∧ W.cell? (a.add (i * 3 + 2)) = some (.int .i64 (f i).b) ∧ I64 (f i).op ∧ I64 (f i).a ∧ I64 (f i).b := by
      classical
      exact ⟨fun i => if hi : i < len then Classical.choose (each i hi) else ⟨0, 0, 0⟩, fun i hi => by simp only [dif_pos hi]; exact Classical.choose_spec (each i hi)⟩
    obtain ⟨f, hf⟩ := hch
    have e2 : ((List.range len).map f).length = len := by simp
    refine ⟨(List.range len).map f, ?_, fun q hq => ?_⟩
    · unfold GatesIn
      rw [e2]
      refine slc_at hl hcm fun j u hu => ?_
      obtain ⟨i, q, hq, hh⟩ := gateCells_get hu
      have hi : i < len := by have := (List.getElem?_eq_some_iff.1 hq).1; simpa using this
      have hqf : q = f i := by
        rw [List.getElem?_map, List.getElem?_range hi] at hq
        exact (Option.some.inj hq).symm
      obtain ⟨h0, h1, h2, _⟩ := hf i hi
      subst hqf
      rcases hh with ⟨rfl, rfl⟩ | ⟨rfl, rfl⟩ | ⟨rfl, rfl⟩
      · exact h0
      · exact h1
      · exact h2
    · obtain ⟨i, hi, rfl⟩ := List.mem_map.1 hq
      exact (hf i (List.mem_range.1 hi)).2.2.2
/-- An argument that is a net. -/
theorem open_net {r : Reach} {base0 : Nat} {v : Value} {d : DataW H} {p : List MemPlace} (hval : Value.okWide Tryd.prog W r base0 35 v) (h : DataW.Trod enc Tryd.prog W base sp held 35 v d p) :
    ∃ (l : List GateV) (gv : Value), v = .agg #[gv] ∧ GatesIn W gv l ∧ GatesWf l := by
  obtain ⟨cs, rfl⟩ := okWide_agg Tryd.underlying35 hval
  obtain ⟨fuel, h⟩ := h
  obtain ⟨n, hl, hf⟩ := trod_fields Tryd.underlying35 h
  rw [cellsNet] at hl
  obtain ⟨l⟩ := cs
  change l.length = 1 at hl
  match l, hl with
  | [c0], _ =>
    obtain ⟨y0, f0⟩ := hf 0 0 33 c0 rfl cellsGates rfl
    obtain ⟨l, h1, h2⟩ := open_gates f0
    exact ⟨l, c0, rfl, h1, h2⟩
theorem trod_parts {t : TypeId} {fs : Array Field} {fuel : Nat} {cs : List Value} {x : DataW H × List MemPlace} (ht : Tryd.prog.underlying t = some (.struct fs))
    (h : DataW.trod enc Tryd.prog W base sp held fuel t cs = some x) : ∃ n parts, x.1 = .agg parts ∧ cs.length = Tryd.prog.cellsOf t ∧ ∀ (i o : Nat) (ty : TypeId) (v : Value), (fs[i]?).map (fun f => (f.type, f.offset)) = some (ty, o) → Tryd.prog.cellsOf ty = 1 → cs[o]? = some v → ∃ y, DataW.trod enc Tryd.prog W base sp held n ty [v] = some y ∧ parts[i]? = some y.1 := by
  obtain ⟨xs, n, rfl, rfl, hl, hxl, hf⟩ := DataW.trod_struct ht h
  refine ⟨n, _, rfl, hl, fun i o ty v hfs hc hv => ?_⟩
  obtain ⟨f, hfi, e⟩ := Option.map_eq_some_iff.1 hfs
  simp only [Prod.mk.injEq] at e
  obtain ⟨rfl, rfl⟩ := e
  have := hf i f hfi
  have hi : i < xs.length := by rw [hxl]; exact (Array.getElem?_eq_some_iff.1 hfi).1
  obtain ⟨ho, hov⟩ := List.getElem?_eq_some_iff.1 hv
  rw [hc, List.drop_eq_getElem_cons ho, List.take_succ_cons, List.take_zero, hov, List.getElem?_eq_getElem hi] at this
  exact ⟨_, this, by rw [List.getElem?_map, List.getElem?_eq_getElem hi]; rfl⟩
/-- An argument that is a formula. -/
theorem open_formula {r : Reach} {base0 : Nat} {v : Value} {d : DataW H} {p : List MemPlace} (hval : Value.okWide Tryd.prog W r base0 24 v) (h : DataW.Trod enc Tryd.prog W base sp held 24 v d p) (hz : ∀ n ∈ d.weights Tryd.prog 24, n ≤ reachBytes) :
    ∃ (k : Int) (cv : Value) (vs : List Value) (rs : List (List Int)), v = .agg #[.int .i64 k, cv] ∧ I64 k ∧ RowsIn W cv vs rs ∧ (∀ r ∈ rs, ∀ n ∈ r, I64 n) ∧ ∀ r ∈ rs, r.length ≤ 1000000000000000 := by
  obtain ⟨cs, rfl⟩ := okWide_agg Tryd.underlying24 hval
  obtain ⟨fuel, h⟩ := h
  obtain ⟨n, parts, hd, hl, hf⟩ := trod_parts Tryd.underlying24 h
  rw [cellsFormula] at hl
  obtain ⟨l⟩ := cs
  change l.length = 2 at hl
  match l, hl with
  | [c0, c1], _ =>
    obtain ⟨y0, f0, _⟩ := hf 0 0 3 c0 rfl cellsInt rfl
    obtain ⟨y1, f1, g1⟩ := hf 1 1 22 c1 rfl cellsRows rfl
    obtain ⟨k, e0, _, w0⟩ := DataW.trod_int Tryd.underlying3 f0
    simp only [List.cons.injEq, and_true] at e0
    subst e0
    obtain ⟨vs, rs, a1, a2, a3⟩ := open_rows_d f1 (fun m hm => hz m (by
      rw [show d = _ from hd]
      simp only [DataW.weights, Tryd.underlying24]
      exact DataW.weights_mem_each (j := 1) rfl g1 m hm))
    exact ⟨k, c1, vs, rs, rfl, lit_I64 w0, a1, a2, a3⟩
/-- An argument that is a row of bools. -/
theorem open_bools {r : Reach} {base0 : Nat} {v : Value} {d : DataW H} {p : List MemPlace} (hval : Value.okWide Tryd.prog W r base0 25 v) (h : DataW.Trod enc Tryd.prog W base sp held 25 v d p) :
    ∃ l : List Bool, SlC W v l.length (bools l) := by
  obtain ⟨va, vm, vc, rfl⟩ := okWide_slice Tryd.underlying25 hval
  obtain ⟨fuel, h⟩ := h
  rcases Deep.open_slice1 Tryd.underlying25 cellsBool h with ⟨e1, -⟩ | ⟨a, len, cap, m, n, V, D, Pl, e1, hb, hl, hcm, hm, -, hel⟩
  · change [Value.slice va vm vc] = _ at e1
    simp only [List.cons.injEq, and_true] at e1
    rw [e1]
    exact ⟨[], ⟨none, 0, rfl, Nat.le_refl _, Nat.zero_le _, fun j u hu => by simp [bools] at hu⟩⟩
  · change [Value.slice va vm vc] = _ at e1
    simp only [List.cons.injEq, and_true] at e1
    rw [e1]
    have hlm : len ≤ m := by rw [hm]; split <;> omega
    have each : ∀ i, i < len → ∃ b : Bool, V i = .bool b := fun i hi => by
      obtain ⟨_, h2⟩ := hel i (by omega)
      obtain ⟨b, e, _⟩ := DataW.trod_bool Tryd.underlying4 h2
      simp only [List.cons.injEq, and_true] at e
      exact ⟨b, e⟩
    have hch : ∃ f : Nat → Bool, ∀ i, i < len → V i = .bool (f i) := by
      classical
      exact ⟨fun i => if hi : i < len then Classical.choose (each i hi) else false, fun i hi => by simp only [dif_pos hi]; exact Classical.choose_spec (each i hi)⟩
    obtain ⟨f, hf⟩ := hch
    refine ⟨(List.range len).map f, ?_⟩
    rw [show ((List.range len).map f).length = len by simp]
    refine slc_at hl hcm fun j u hu => ?_
    have hj : j < len := by have := (List.getElem?_eq_some_iff.1 hu).1; simpa [bools] using this
    rw [(hel j (by omega)).1]
    unfold bools at hu
    rw [List.getElem?_map, List.getElem?_map, List.getElem?_range hj] at hu
    simp only [Option.map_some] at hu
    rw [hf j hj]
    exact hu
end
end Go.Proofs.YtlikmdeplpldlaaDoor

/-
  Rows of numbers that came in as an argument: how they lie in memory, none of them longer than a memory.
  No condition.
-/
import Derived.Test.YtkjgghbdpmkmoaaGen
import Derived.WideShapes
import Derived.SizedLaws
namespace Go.Proofs.Ytkjgghbdpmkmoaa
open Go.RowKit Go.ChangeShapes Go.WideShapes Go.ChangeAt
set_option linter.unusedSimpArgs false
set_option linter.unusedVariables false
set_option maxRecDepth 100000

/-- Rows of numbers in memory: the slice of slices v holds the slices vs, and they the numbers rs. -/
structure RowsIn (w : World) (v : Value) (vs : List Value) (rs : List (List Int)) : Prop where
  top : SlC w v rs.length vs
  len : vs.length = rs.length
  row : ∀ (j : Nat) (x : Value) (r : List Int), vs[j]? = some x → rs[j]? = some r → SlC w x r.length (i64s r)
theorem RowsIn.ext {w w' : World} {v : Value} {vs : List Value} {rs : List (List Int)} (h : RowsIn w v vs rs) (hx : Ext w w') : RowsIn w' v vs rs :=
  ⟨h.top.ext hx, h.len, fun j x r h1 h2 => (h.row j x r h1 h2).ext hx⟩
theorem RowsIn.at {w : World} {v : Value} {vs : List Value} {rs : List (List Int)} (h : RowsIn w v vs rs) {j : Nat} (hj : j < rs.length) : ∃ x r, vs[j]? = some x ∧ rs[j]? = some r ∧ SlC w x r.length (i64s r) := by
  have h1 := List.getElem?_eq_getElem (show j < vs.length by rw [h.len]; exact hj)
  have h2 := List.getElem?_eq_getElem hj
  exact ⟨_, _, h1, h2, h.row j _ _ h1 h2⟩
section
variable {H : Type} {enc : TypeId × Value → H} {W : World} {base : Nat} {sp : Nat → Bool} {held : Bool}
theorem open_rows {base0 : Nat} {r0 : Reach} {v : Value} {d : DataW H} {p : List MemPlace} (hval : Value.okWide Try.prog W r0 base0 46 v) (h : DataW.Trod enc Try.prog W base sp held 46 v d p) :
    ∃ (vs : List Value) (rs : List (List Int)), RowsIn W v vs rs ∧ ∀ r ∈ rs, ∀ n ∈ r, I64 n := by
  obtain ⟨va, vm, vc, rfl⟩ := okWide_slice Try.underlying46 hval
  obtain ⟨fuel, h⟩ := h
  rcases Deep.open_slice1 Try.underlying46 cellsInts h with ⟨e1, -⟩ | ⟨a, len, cap, m, n, V, D, Pl, e1, hb, hl, hcm, hm, -, hel⟩
  · change [Value.slice va vm vc] = _ at e1
    simp only [List.cons.injEq, and_true] at e1
    rw [e1]
    exact ⟨[], [], ⟨⟨none, 0, rfl, Nat.le_refl _, Nat.zero_le _, fun j u hu => by simp at hu⟩, rfl, fun j x r h1 => by simp at h1⟩, fun r hr => by cases hr⟩
  · change [Value.slice va vm vc] = _ at e1
    simp only [List.cons.injEq, and_true] at e1
    rw [e1]
    have hlm : len ≤ m := by rw [hm]; split <;> omega
    have each : ∀ i, i < len → ∃ r : List Int, SlC W (V i) r.length (i64s r) ∧ ∀ n ∈ r, I64 n := fun i hi => by
      obtain ⟨h1, h2⟩ := hel i (by omega)
      obtain ⟨l, hl, hw⟩ := open_numbers Try.underlying23 Try.underlying3 cellsInt h2
      exact ⟨l, hl, fun n hn => lit_I64 (hw n hn)⟩
    have hch : ∃ f : Nat → List Int, ∀ i, i < len → SlC W (V i) (f i).length (i64s (f i)) ∧ ∀ n ∈ f i, I64 n := by
      classical
      exact ⟨fun i => if hi : i < len then Classical.choose (each i hi) else [], fun i hi => by simp only [dif_pos hi]; exact Classical.choose_spec (each i hi)⟩
    obtain ⟨f, hf⟩ := hch
    refine ⟨(List.range len).map V, (List.range len).map f, ⟨?_, by simp, fun j x r h1 h2 => ?_⟩, fun r hr => ?_⟩
    · rw [show ((List.range len).map f).length = len by simp]
      refine slc_at hl hcm fun j u hu => ?_
      have hj : j < len := by have := (List.getElem?_eq_some_iff.1 hu).1; simpa using this
      rw [(hel j (by omega)).1]
      rw [List.getElem?_map, List.getElem?_range hj] at hu
      exact hu
    · have hj : j < len := by have := (List.getElem?_eq_some_iff.1 h1).1; simpa using this
      rw [List.getElem?_map, List.getElem?_range hj] at h1 h2
      simp only [Option.map_some, Option.some.injEq] at h1 h2
      subst h1
      subst h2
      exact (hf j hj).1
    · obtain ⟨i, hi, rfl⟩ := List.mem_map.1 hr
      exact (hf i (List.mem_range.1 hi)).2
end
end Go.Proofs.Ytkjgghbdpmkmoaa
namespace Go.Proofs.Ytkjgghbdpmkmoaa
open Go.RowKit Go.ChangeShapes Go.WideShapes Go.ChangeAt

theorem bytesInt : Try.prog.bytesOf 3 = 8 := by kernel_rfl
theorem weights_all {H : Type} {P : Program} {e : TypeId} : ∀ {l : List (DataW H)} {d : DataW H} {n : Nat}, d ∈ l → n ∈ d.weights P e → n ∈ DataW.weightsAll P e l
  | a :: l, d, n, hd, hn => by
    simp only [DataW.weightsAll, List.mem_append]
    rcases List.mem_cons.1 hd with h | h
    · subst h; exact .inl hn
    · exact .inr (weights_all h hn)
theorem open_numbers_d {P : Program} {H : Type} {enc : TypeId × Value → H} {w : World} {base : Nat} {sp : Nat → Bool} {held : Bool} {t e : TypeId} {k : IntKind} {fuel : Nat} {v : Value} {x : DataW H × List MemPlace} (ht : P.underlying t = some (.slice e)) (he : P.underlying e = some (.int k)) (hc : P.cellsOf e = 1)
    (h : DataW.trod enc P w base sp held fuel t [v] = some x) : ∃ l : List Int, SlC w v l.length (l.map (.int k)) ∧ (∀ n ∈ l, (Lit.int k n).wf = true) ∧ (l = [] ∨ ∃ sp, x.1 = .slice (lits k l) sp) := by
  rcases open_ints ht he hc h with ⟨e1, rfl⟩ | ⟨a, len, cap, zs, e1, hb, hl, hcm, hlen, rfl, hcell, hwf⟩
  · simp only [List.cons.injEq, and_true] at e1
    subst e1
    exact ⟨[], ⟨none, 0, rfl, Nat.le_refl _, Nat.zero_le _, fun j u hu => by simp at hu⟩, (fun n hn => by cases hn), .inl rfl⟩
  · simp only [List.cons.injEq, and_true] at e1
    subst e1
    have hz : len ≤ zs.length := by rw [hlen]; split <;> omega
    have e2 : (zs.take len).length = len := by rw [List.length_take]; omega
    refine ⟨zs.take len, ?_, fun n hn => hwf n (List.mem_of_mem_take hn), .inr ⟨_, rfl⟩⟩
    rw [e2]
    refine slc_at hl hcm fun j u hu => ?_
    have hj : j < len := by have := (List.getElem?_eq_some_iff.1 hu).1; rw [List.length_map, e2] at this; exact this
    rw [hcell j (by omega)]
    rw [List.getElem?_map, List.getElem?_take_of_lt hj, List.getElem?_eq_getElem (by omega)] at hu
    rw [← Option.some.inj hu]
    simp [List.getD, List.getElem?_eq_getElem (show j < zs.length by omega)]
section
variable {H : Type} {enc : TypeId × Value → H} {W : World} {base : Nat} {sp : Nat → Bool} {held : Bool}
theorem open_rows_d {fuel : Nat} {v : Value} {x : DataW H × List MemPlace} (h : DataW.trod enc Try.prog W base sp held fuel 46 [v] = some x) (hz : ∀ n ∈ x.1.weights Try.prog 46, n ≤ reachBytes) :
    ∃ (vs : List Value) (rs : List (List Int)), RowsIn W v vs rs ∧ (∀ r ∈ rs, ∀ n ∈ r, I64 n) ∧ ∀ r ∈ rs, r.length ≤ 1000000000000000 := by
  obtain ⟨d, p⟩ := x
  rcases Deep.open_slice1 Try.underlying46 cellsInts h with ⟨e1, -⟩ | ⟨a, len, cap, m, n, V, D, Pl, e1, hb, hl, hcm, hm, hd, hel⟩
  · simp only [List.cons.injEq, and_true] at e1
    subst e1
    exact ⟨[], [], ⟨⟨none, 0, rfl, Nat.le_refl _, Nat.zero_le _, fun j u hu => by simp at hu⟩, rfl, fun j x r h1 => by simp at h1⟩, (fun r hr => by cases hr), (fun r hr => by cases hr)⟩
  · simp only [List.cons.injEq, and_true] at e1
    subst e1
    have hlm : len ≤ m := by rw [hm]; split <;> omega
    simp only [Prod.mk.injEq] at hd
    obtain ⟨rfl, -⟩ := hd
    have each : ∀ i, i < len → ∃ r : List Int, SlC W (V i) r.length (i64s r) ∧ (∀ n ∈ r, I64 n) ∧ r.length ≤ 1000000000000000 := fun i hi => by
      obtain ⟨h1, h2⟩ := hel i (by omega)
      obtain ⟨l, hl, hw, hD⟩ := open_numbers_d Try.underlying23 Try.underlying3 cellsInt h2
      refine ⟨l, hl, fun n hn => lit_I64 (hw n hn), ?_⟩
      rcases hD with rfl | ⟨sp, hD⟩
      · simp
      · have hmem : D i ∈ (List.range len).map D := List.mem_map.2 ⟨i, List.mem_range.2 hi, rfl⟩
        have := hz ((l.length + sp.length) * 8) (by
          simp only [DataW.weights, Try.underlying46]
          refine List.mem_cons_of_mem _ (List.mem_append_left _ (weights_all hmem ?_))
          rw [show D i = _ from hD]
          simp only [DataW.weights, Try.underlying23, bytesInt]
          exact List.mem_cons.2 (.inl (by simp [lits])))
        have e : reachBytes < 2 ^ 47 := by decide
        omega
    have hch : ∃ f : Nat → List Int, ∀ i, i < len → SlC W (V i) (f i).length (i64s (f i)) ∧ (∀ n ∈ f i, I64 n) ∧ (f i).length ≤ 1000000000000000 := by
      classical
      exact ⟨fun i => if hi : i < len then Classical.choose (each i hi) else [], fun i hi => by simp only [dif_pos hi]; exact Classical.choose_spec (each i hi)⟩
    obtain ⟨f, hf⟩ := hch
    refine ⟨(List.range len).map V, (List.range len).map f, ⟨?_, by simp, fun j x r h1 h2 => ?_⟩, fun r hr => ?_, fun r hr => ?_⟩
    · rw [show ((List.range len).map f).length = len by simp]
      refine slc_at hl hcm fun j u hu => ?_
      have hj : j < len := by have := (List.getElem?_eq_some_iff.1 hu).1; simpa using this
      rw [(hel j (by omega)).1]
      rw [List.getElem?_map, List.getElem?_range hj] at hu
      exact hu
    · have hj : j < len := by have := (List.getElem?_eq_some_iff.1 h1).1; simpa using this
      rw [List.getElem?_map, List.getElem?_range hj] at h1 h2
      simp only [Option.map_some, Option.some.injEq] at h1 h2
      subst h1
      subst h2
      exact (hf j hj).1
    · obtain ⟨i, hi, rfl⟩ := List.mem_map.1 hr
      exact (hf i (List.mem_range.1 hi)).2.1
    · obtain ⟨i, hi, rfl⟩ := List.mem_map.1 hr
      exact (hf i (List.mem_range.1 hi)).2.2
end
end Go.Proofs.Ytkjgghbdpmkmoaa

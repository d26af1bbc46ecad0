/-
  Bytes that begin a block of the call's own, of which nothing is known but its cells; appends to them.
  No condition.
-/
import Derived.ArgAppend
import Derived.Lib.AppendStr
import Derived.Laws.IdiomCopy
import Derived.Laws.IdiomStrings
import Derived.Test.YtlikmdeplpldlaaDoorShAJ
namespace Go.Proofs.YtlikmdeplpldlaaDoor
open Go.RowKit
set_option linter.unusedSimpArgs false
set_option linter.unusedVariables false
set_option maxRecDepth 100000

structure OwnM (w : World) (base g n cap : Nat) (bs : List UInt8) : Prop where
  base : base ≤ g
  lt : g < w.heap.size
  len : bs.length = n
  le : n ≤ cap
  max : cap ≤ maxLen
  cells : ∀ (j : Nat) (u : Value), (Lib.byteCells bs)[j]? = some u → w.cell? ⟨g, j, none⟩ = some u
  spare : ∀ j, n ≤ j → j < cap → (w.cell? ⟨g, j, none⟩).isSome = true
  fz : ∀ j, j < cap → w.frozen? ⟨g, j, none⟩ = false
section
variable {w w' : World} {base g n cap : Nat} {bs l : List UInt8}
theorem OwnM.ext (h : OwnM w base g n cap bs) (hx : Ext w w') : OwnM w' base g n cap bs :=
  ⟨h.base, Nat.lt_of_lt_of_le h.lt hx.size, h.len, h.le, h.max, fun j u hu => hx.cell (h.cells j u hu), fun j h1 h2 => by
    obtain ⟨u, hu⟩ := Option.isSome_iff_exists.1 (h.spare j h1 h2)
    rw [hx.cell hu]; rfl, fun j hj => by rw [hx.frozens _ _ h.lt]; exact h.fz j hj⟩
theorem OwnM.of_block {cur : Array Value} {e : TypeId} {f : Nat × Nat} (hb : base ≤ g) (hg : w.heap[g]? = some (.cells cur e f)) (hf : f = (0, 0) ∨ cur.size ≤ f.1) (hc : cap ≤ cur.size) (hm : cap ≤ maxLen) (hl : bs.length = n) (hn : n ≤ cap) (ht : ∀ (j : Nat) (u : Value), (Lib.byteCells bs)[j]? = some u → cur[j]? = some u) : OwnM w base g n cap bs := by
  have hcell : ∀ j, w.cell? ⟨g, j, none⟩ = cur[j]? := fun j => by simp [World.cell?, hg]
  refine ⟨hb, (Array.getElem?_eq_some_iff.1 hg).1, hl, hn, hm, fun j u hu => by rw [hcell]; exact ht j u hu, fun j _ h2 => by rw [hcell, Array.getElem?_eq_getElem (by omega)]; rfl, fun j hj => ?_⟩
  unfold World.frozen?
  simp only [hg]
  rcases hf with rfl | hf
  · simp
  · simp; omega
theorem below_setCells (g : Nat) : ∀ (vs : List Value) (o : Nat) (w : World), Kb [g] w (w.setCells g o vs)
  | [], _, _ => Kb.refl _ _
  | v :: vs, o, w => by
    rw [World.setCells]
    exact (Kb.set w g o (by simp) v).trans (below_setCells g vs (o + 1) _)
theorem OwnM.room (h : OwnM w base g n cap bs) (hr : n + l.length ≤ cap) : OwnM (w.setCells g n (Lib.byteCells l)) base g (n + l.length) cap (bs ++ l) := by
  have hlen := Lib.byteCells_length l
  have hsome : ∀ j, j < (Lib.byteCells l).length → (w.cell? ⟨g, n + j, none⟩).isSome = true := fun j hj => h.spare _ (by omega) (by omega)
  refine ⟨h.base, Nat.lt_of_lt_of_le h.lt (below_setCells g _ n w).size, by rw [List.length_append, h.len], hr, h.max, fun j u hu => ?_, fun j h1 h2 => ?_, fun j hj => by rw [World.frozen?_setCells]; exact h.fz j hj⟩
  · rw [Lib.byteCells_append] at hu
    by_cases hj : j < n
    · rw [World.cell?_setCells_out _ _ _ _ _ (fun _ _ => .inl hj)]
      rw [List.getElem?_append_left (by rw [Lib.byteCells_length, h.len]; exact hj)] at hu
      exact h.cells j u hu
    · rw [List.getElem?_append_right (by rw [Lib.byteCells_length, h.len]; omega), Lib.byteCells_length, h.len] at hu
      have hj2 := (List.getElem?_eq_some_iff.1 hu).1
      have := World.cell?_setCells_in g (Lib.byteCells l) n w hsome (j - n) hj2
      rw [show n + (j - n) = j by omega] at this
      rw [this, ← hu, List.getElem?_eq_getElem hj2]
  · rw [World.cell?_setCells_out _ _ _ _ _ (fun _ _ => .inr (by rw [hlen]; exact h1))]
    exact h.spare j (by omega) h2
theorem OwnM.slc (h : OwnM w base g n cap bs) : ∀ j u, (Lib.byteCells bs)[j]? = some u → w.cell? ((⟨g, 0, none⟩ : Addr).add j) = some u := fun j u hu => by
  rw [show (⟨g, 0, none⟩ : Addr).add j = ⟨g, j, none⟩ by unfold Addr.add; split <;> simp_all]
  exact h.cells j u hu
theorem OwnM.of_owns {e : TypeId} {v : Value} (h : w.ownsRow base e 1 v n (Lib.byteCells bs)) (hn : 0 < n) : ∃ g cap, v = .slice (some ⟨g, 0, none⟩) n cap ∧ OwnM w base g n cap bs := by
  rcases h.2 with ⟨_, h0⟩ | ⟨g, cap, cur, rfl, hb, hg, hnc, hcm, hcs, ht⟩
  · omega
  · refine ⟨g, cap, rfl, OwnM.of_block hb hg (.inl rfl) (by omega) hcm (by have := h.1; rw [Lib.byteCells_length] at this; omega) hnc fun j u hu => ?_⟩
    rw [← ht, List.getElem?_take] at hu
    split at hu
    · simpa using hu
    · cases hu
end
section
variable {P : Program} {w : World} {base g n cap : Nat} {bs l : List UInt8}
theorem run_append_room_strM (t u ty e : TypeId) (i : TypeInfo) (ht : P.underlying t = some (.slice e)) (hu : P.underlying u = some .string) (hi : P.info? e = some i) (hs1 : i.size = 1) (h : OwnM w base g n cap bs) (hr : n + l.length ≤ cap) :
    (Builtin.append_ #[t, u] ty #[.slice (some ⟨g, 0, none⟩) n cap, .string ⟨l.toArray⟩]).run P w = .ok (.slice (some ⟨g, 0, none⟩) (n + l.length) cap) (w.setCells g n (Lib.byteCells l)) := by
  have hsz : (⟨l.toArray⟩ : ByteArray).size = l.length := by simp [ByteArray.size]
  have hf := Lib.run_firstCells_string (P := P) w 1 (⟨l.toArray⟩ : ByteArray)
  have hst := run_storeCells_cells (P := P) g n (Lib.byteCells l) 0 w (fun j hj => by rw [Lib.byteCells_length] at hj; rw [Nat.add_zero]; exact h.spare _ (by omega) (by omega)) (fun j hj => by rw [Lib.byteCells_length] at hj; rw [Nat.add_zero]; exact h.fz _ (by omega)) (Lib.byteCells_one l)
  simp only [Nat.add_zero] at hst
  rw [hsz] at hf
  have e1 : Lib.strCells (⟨l.toArray⟩ : ByteArray) = Lib.byteCells l := rfl
  rw [e1] at hf
  simp [Builtin.append_, run_underlying ht, run_underlying hu, sizeOf, typeInfo, hi, hs1, Builtin.lenOf, hsz, hr, hf, Addr.add_lit, hst]
/-- The step that appends a string. -/
theorem wpList_appM_str {ops : Array Oper} {rest : List Oper} {o : Oper} {a : Act} {Q : Exit → Act → World → Prop} (hgd : o.guard = none) (sl x : Operand) (t u : TypeId) (ho : o.op = .call { callee := .builtin .append, args := #[sl, x], argTypes := #[t, u] })
    (e : TypeId) (i : TypeInfo) (ht : P.underlying t = some (.slice e)) (hu : P.underlying u = some .string) (hi : P.info? e = some i) (hz : i.zero = some (.int .u8 0)) (hsize : i.size = 1) (hby : i.bytes = 1)
    (h : OwnM w base g n cap bs) (hs : a.eval sl = .slice (some ⟨g, 0, none⟩) n cap) (hx : a.eval x = .string ⟨l.toArray⟩) (hb : n + l.length ≤ 140737488355328) (hbase : base ≤ w.heap.size)
    (hK : ∀ g' cap' w', Hid (OwnM w' base g' (n + l.length) cap' (bs ++ l) ∧ Kb [g] w w' ∧ (g' = g ∨ w.heap.size ≤ g')) → wpList P ops Q rest (a.put o.dst (.slice (some ⟨g', 0, none⟩) (n + l.length) cap')) w') : wpList P ops Q (o :: rest) a w := by
  have hsz : (⟨l.toArray⟩ : ByteArray).size = l.length := by simp [ByteArray.size]
  refine wpList_plain hgd fun K hK' => ?_
  by_cases hr : n + l.length ≤ cap
  · have hrun := run_append_room_strM (P := P) t u o.type e i ht hu hi hsize h hr
    unfold Oper.wp execOp
    simp only [ho, resolve, invoke, builtin, Sem.run_bind, Sem.run_pure, Result.andThen_ok, List.map_toArray, List.map_cons, List.map_nil, hs, hx, hrun]
    exact hK' _ _ (hK g cap _ (Lib.hid ⟨h.room hr, below_setCells g _ n w, .inl rfl⟩))
  · have h63 : n + l.length ≤ maxLen := by unfold maxLen; omega
    have hrun := Lib.run_append_grow_string (P := P) w t u o.type e i (.int .u8 0) ht hu hi hz ⟨g, 0, none⟩ n cap (Lib.byteCells bs) (by rw [hsize, Lib.byteCells_length, h.len]; omega) h.slc (⟨l.toArray⟩ : ByteArray) (by rw [hsz]; omega) (by rw [hsz]; omega) (by rw [hby, hsz]; exact growslice_fits (by omega) (by omega))
    rw [hsz] at hrun
    have hge := grownCap_ge w (n + l.length) cap e
    have hcm : grownCap w (n + l.length) cap e ≤ maxLen := grownCap_le_maxLen w (n + l.length) cap e h63
    unfold Oper.wp execOp
    simp only [ho, resolve, invoke, builtin, Sem.run_bind, Sem.run_pure, Result.andThen_ok, List.map_toArray, List.map_cons, List.map_nil, hs, hx, hrun]
    refine hK' _ _ (hK w.heap.size _ _ (Lib.hid ⟨OwnM.of_block hbase (heap_alloc_new w.drew _) (.inl rfl) ?_ hcm (by rw [List.length_append, h.len]) hge (fun j v hv => ?_), Kb.of_ext ((Ext.refl w).drew.alloc _), .inr (Nat.le_refl _)⟩))
    · have hz1 : (Value.int IntKind.u8 0).cells.size = 1 := rfl
      simp only [Array.size_append, List.size_toArray, size_zeroCells, hz1, Lib.byteCells_length, h.len, Lib.strCells_length, hsz]
      omega
    · rw [Lib.byteCells_append] at hv
      have hj := (List.getElem?_eq_some_iff.1 hv).1
      have e1 : Lib.strCells (⟨l.toArray⟩ : ByteArray) = Lib.byteCells l := rfl
      rw [e1, Array.getElem?_append_left (by simp at hj ⊢; exact hj)]
      rw [← List.getElem?_toArray] at hv
      simpa using hv
/-- The step that appends bytes that lie in the block that was made last. -/
theorem wpList_appM_lit {ops : Array Oper} {rest : List Oper} {o : Oper} {a : Act} {Q : Exit → Act → World → Prop} (hgd : o.guard = none) (sl x : Operand) (t : TypeId) (ho : o.op = .call { callee := .builtin .append, args := #[sl, x], argTypes := #[t, t] })
    (e : TypeId) (i : TypeInfo) (ht : P.underlying t = some (.slice e)) (hi : P.info? e = some i) (hz : i.zero = some (.int .u8 0)) (hsize : i.size = 1) (hby : i.bytes = 1)
    (h : OwnM w base g n cap bs) (hs : a.eval sl = .slice (some ⟨g, 0, none⟩) n cap) (arr : Array Value) (harr : arr.toList = Lib.byteCells l) (nb : Nat) (hnb : nb = w.heap.size) (m : Nat) (hm : m = l.length) (hx : a.eval x = .slice (some ⟨nb, 0, none⟩) m m) (hl0 : 0 < l.length) (hb : n + l.length ≤ 140737488355328) (hbase : base ≤ w.heap.size)
    (hK : ∀ g' cap' w', Hid (OwnM w' base g' (n + l.length) cap' (bs ++ l) ∧ Kb [g] w w' ∧ (g' = g ∨ w.heap.size ≤ g')) → wpList P ops Q rest (a.put o.dst (.slice (some ⟨g', 0, none⟩) (n + l.length) cap')) w') : wpList P ops Q (o :: rest) a (w.alloc (.cells arr e)) := by
  subst hm
  have hx1 := (Ext.refl w).alloc (.cells arr e)
  have h1 := h.ext hx1
  refine wpList_append_arg _ hgd sl x t ho e i (.int .u8 0) 1 1 ht hi hz hsize hby rfl (by decide) g 0 n cap (Lib.byteCells bs) hs (by rw [Lib.byteCells_length, h.len, Nat.mul_one]) (fun j u hu => by rw [Nat.zero_add]; exact h1.cells j u hu) ⟨nb, 0, none⟩ l.length l.length arr.toList hx (by rw [harr, Lib.byteCells_length, Nat.mul_one]) (cell_alloc_list w arr _ nb hnb) (by rw [harr]; exact Lib.byteCells_one _) (fun hr j hj => ?_) (by unfold maxLen; omega) (by omega) (fun hr => ?_) (fun hr v' w' hown hg => ?_)
  · rw [harr, Lib.byteCells_length] at hj
    rw [Nat.zero_add, Nat.mul_one]
    exact ⟨h1.spare _ (by omega) (by omega), h1.fz _ (by omega)⟩
  · rw [harr, Nat.zero_add, Nat.mul_one]
    exact hK g cap _ (Lib.hid ⟨h1.room hr, (Kb.of_ext hx1).trans (below_setCells g _ n _), .inl rfl⟩)
  · rw [harr, ← Lib.byteCells_append] at hown
    have hb9 := hown
    obtain ⟨g', cap', rfl, ho'⟩ := OwnM.of_owns (base := (w.alloc (.cells arr e)).heap.size) hb9 (by omega)
    refine hK g' cap' w' (Lib.hid ⟨{ ho' with base := by have := ho'.base; rw [World.size_alloc] at this; omega }, (Kb.of_ext hx1).trans (Kb.of_ext ⟨hg.os, hg.tape, hg.output, hg.size, fun k hk => hg.block k hk (by simp)⟩), .inr (by have := ho'.base; rw [World.size_alloc] at this; omega)⟩)
end
end Go.Proofs.YtlikmdeplpldlaaDoor

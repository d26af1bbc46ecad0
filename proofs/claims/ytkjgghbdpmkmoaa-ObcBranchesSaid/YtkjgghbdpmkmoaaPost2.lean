/-
  The frame of a row for a call that leaves all that was there as it was, whatever its arguments' types; slices of numbers opened.
  No condition.
-/
import Derived.Test.YtkjgghbdpmkmoaaPost
import Derived.Carry
import Derived.Deep.Slices
import Derived.ChangeSlices
namespace Go.Proofs.Ytkjgghbdpmkmoaa
open Go.RowKit Go.ChangeShapes Go.WideShapes Go.ChangeAt
set_option linter.unusedSimpArgs false
set_option linter.unusedVariables false
set_option maxRecDepth 100000

theorem trodAll_below {P : Program} {H : Type} {enc : TypeId × Value → H} {W W' : World} (hl : laidOutB P = true) (hx : Ext W W') : ∀ {ts : List TypeId} {vs : List Value} {ds : List (DataW H)} {ps : List MemPlace},
    (∀ t ∈ ts, P.readableRec t = true ∧ t < P.types.size) → (∀ p ∈ ps, p.block < W.heap.size) → DataW.TrodAll enc P W 0 (fun _ => true) true ts vs ds ps →
    DataW.TrodAll enc P W' 0 (fun b => decide (b < W.heap.size)) true ts vs ds ps
  | [], [], [], _, _, _, h => h
  | _ :: _, _ :: _, _ :: _, _, hT, hs, ⟨p, q, h1, h2, e⟩ =>
    ⟨p, q, Below.trod hl (hT _ (List.mem_cons.2 (.inl rfl))).1 (hT _ (List.mem_cons.2 (.inl rfl))).2 h1 hx (fun x hx => hs x (by rw [e]; exact List.mem_append_left _ hx)),
      trodAll_below hl hx (fun t ht => hT t (List.mem_cons.2 (.inr ht))) (fun x hx => hs x (by rw [e]; exact List.mem_append_right _ hx)) h2, e⟩

/-- A law that answers a bool and leaves what was there as it was. -/
theorem post_of_ext2 {P : Program} {H : Type} {enc : TypeId × Value → H} {f : Func} {s : ChangeSpec} {apart fresh handsOn : Bool} {W W' : World} {args : Array Value} {v : Value} {ds gs : List (DataW H)} {before : List MemPlace} (hl : laidOutB P = true)
    (hT0 : (f.params.toList.all fun t => P.readableRec t && decide (t < P.types.size)) = true) (hvs : s.vars = [])
    (hW : DataW.Whole enc P f.params.toList s.vars apart W args.toList ds gs before)
    (hargs : (s.fn H (ds ++ gs)).args = ds) (hvars : (s.fn H (ds ++ gs)).vars = [])
    (hres : ∀ (b : Nat) (sp : Nat → Bool) (hd : Bool), DataW.TrodAll enc P W' b sp hd f.resultTypes.toList (v.resultList f.resultTypes.size) (s.fn H (ds ++ gs)).results [])
    (hx : Ext W W') : s.post enc P f apart fresh handsOn false W args v W' := by
  have hT : ∀ t ∈ f.params.toList, P.readableRec t = true ∧ t < P.types.size := fun t ht => by simpa using List.all_eq_true.1 hT0 t ht
  have hlt : ∀ p ∈ before, p.block < W.heap.size := fun p hp => hW.lt p hp
  have hW' := hW
  obtain ⟨p, q, hA, hV, hpq, hfz, hnd⟩ := hW'
  rw [hvs] at hV
  obtain ⟨rfl, rfl⟩ := trodVars_none hV
  rw [List.append_nil] at hpq
  subst hpq
  refine ⟨ds, [], before, [], before, [], hW, hres _ _ _, ?_, ?_, Below.frame hx _, fun h => by cases h⟩
  · rw [hargs]; exact trodAll_below hl hx hT hlt hA
  · rw [hvs, hvars]; rfl

theorem slot_add (b o : Nat) (j : Nat) : (⟨b, o, none⟩ : Addr).add j = ⟨b, o + j, none⟩ := by
  unfold Addr.add; split
  · next h0 => have : j = 0 := by simpa using h0
               rw [this]; rfl
  · rfl
theorem slc_at {w : World} {a : Addr} {len cap : Nat} {l : List Value} (hl : len ≤ cap) (hc : cap ≤ maxLen) (h : ∀ j u, l[j]? = some u → w.cell? (a.add j) = some u) : SlC w (.slice (some a) len cap) len l := by
  refine ⟨some a, cap, rfl, hl, hc, fun j u hu => ?_⟩
  have h0 : 0 < l.length := Nat.lt_of_le_of_lt (Nat.zero_le j) (List.getElem?_eq_some_iff.1 hu).1
  have h1 := World.cell?_spot (h 0 _ (List.getElem?_eq_getElem h0))
  obtain ⟨b, o, s⟩ := a
  simp [Addr.add] at h1
  subst h1
  exact ⟨b, o, rfl, by rw [← slot_add]; exact h j u hu⟩
/-- A slice of numbers that came in. -/
theorem open_numbers {P : Program} {H : Type} {enc : TypeId × Value → H} {w : World} {base : Nat} {sp : Nat → Bool} {held : Bool} {t e : TypeId} {k : IntKind} {fuel : Nat} {v : Value} {x : DataW H × List MemPlace} (ht : P.underlying t = some (.slice e)) (he : P.underlying e = some (.int k)) (hc : P.cellsOf e = 1)
    (h : DataW.trod enc P w base sp held fuel t [v] = some x) : ∃ l : List Int, SlC w v l.length (l.map (.int k)) ∧ ∀ n ∈ l, (Lit.int k n).wf = true := by
  rcases open_ints ht he hc h with ⟨e1, rfl⟩ | ⟨a, len, cap, zs, e1, hb, hl, hcm, hlen, rfl, hcell, hwf⟩
  · simp only [List.cons.injEq, and_true] at e1
    subst e1
    exact ⟨[], ⟨none, 0, rfl, Nat.le_refl _, Nat.zero_le _, fun j u hu => by simp at hu⟩, fun n hn => by cases hn⟩
  · simp only [List.cons.injEq, and_true] at e1
    subst e1
    have hz : len ≤ zs.length := by rw [hlen]; split <;> omega
    have e2 : (zs.take len).length = len := by rw [List.length_take]; omega
    refine ⟨zs.take len, ?_, fun n hn => hwf n (List.mem_of_mem_take hn)⟩
    rw [e2]
    refine slc_at hl hcm fun j u hu => ?_
    have hj : j < len := by have := (List.getElem?_eq_some_iff.1 hu).1; rw [List.length_map, e2] at this; exact this
    rw [hcell j (by omega)]
    rw [List.getElem?_map, List.getElem?_take_of_lt hj, List.getElem?_eq_getElem (by omega)] at hu
    rw [← Option.some.inj hu]
    simp [List.getD, List.getElem?_eq_getElem (show j < zs.length by omega)]
/-- A struct whose field at offset o is one cell. -/
theorem trod_fields {P : Program} {H : Type} {enc : TypeId × Value → H} {w : World} {base : Nat} {sp : Nat → Bool} {held : Bool} {t : TypeId} {fs : Array Field} {fuel : Nat} {cs : List Value} {x : DataW H × List MemPlace} (ht : P.underlying t = some (.struct fs))
    (h : DataW.trod enc P w base sp held fuel t cs = some x) : ∃ n, cs.length = P.cellsOf t ∧ ∀ (i o : Nat) (ty : TypeId) (v : Value), (fs[i]?).map (fun f => (f.type, f.offset)) = some (ty, o) → P.cellsOf ty = 1 → cs[o]? = some v → ∃ y, DataW.trod enc P w base sp held n ty [v] = some y := by
  obtain ⟨xs, n, rfl, _, hl, hxl, hf⟩ := DataW.trod_struct ht h
  refine ⟨n, hl, fun i o ty v hfs hc hv => ?_⟩
  obtain ⟨f, hfi, e⟩ := Option.map_eq_some_iff.1 hfs
  simp only [Prod.mk.injEq] at e
  obtain ⟨rfl, rfl⟩ := e
  have := hf i f hfi
  have hi : i < xs.length := by rw [hxl]; exact (Array.getElem?_eq_some_iff.1 hfi).1
  obtain ⟨ho, hov⟩ := List.getElem?_eq_some_iff.1 hv
  rw [hc, List.drop_eq_getElem_cons ho, List.take_succ_cons, List.take_zero, hov, List.getElem?_eq_getElem hi] at this
  exact ⟨_, this⟩
theorem okWide_agg {P : Program} {w : World} {r : Reach} {b : Nat} {t : TypeId} {v : Value} {fs : Array Field} (ht : P.underlying t = some (.struct fs)) (h : Value.okWide P w r b t v) : ∃ cs, v = .agg cs := by
  unfold Value.okWide at h
  rw [ht] at h
  obtain ⟨cs, e, _⟩ := h
  exact ⟨cs, e⟩
end Go.Proofs.Ytkjgghbdpmkmoaa

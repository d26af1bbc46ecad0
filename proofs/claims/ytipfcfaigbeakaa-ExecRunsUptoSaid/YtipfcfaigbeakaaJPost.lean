/-
  The frame of a row for a call that leaves all that was there as it was and makes blocks of its own, of whatever kind.
  No condition.
  The frame of a row for a call that leaves all that was there as it was, whatever its arguments' types; slices of numbers opened.
  No condition.
  A program of the machine that came in as an argument: how it lies in memory.
  No condition.
-/
import Derived.Test.YtipfcfaigbeakaaJKit
import Derived.ProofKit
import Derived.OpenShut
import Derived.Carry
import Derived.Deep.Slices
import Derived.ChangeSlices
import Derived.Test.YtipfcfaigbeakaaJNumber
namespace Go.Proofs.Ytipfcfaigbeakaa
open Go.ChangeShapes Go.WideShapes Go.ChangeAt Go.RowKit
theorem post_of_ext {P : Program} {H : Type} {enc : TypeId × Value → H} {f : Func} {s : ChangeSpec} {apart fresh handsOn : Bool} {W W' : World} {args : Array Value} {v : Value} {ds gs : List (DataW H)} {before pa pv : List MemPlace}
    (hW : DataW.Whole enc P f.params.toList s.vars apart W args.toList ds gs before)
    (hres : ∀ (b : Nat) (sp : Nat → Bool) (hd : Bool), DataW.TrodAll enc P W' b sp hd f.resultTypes.toList (v.resultList f.resultTypes.size) (s.fn H (ds ++ gs)).results [])
    (hargs : ∀ sp : Nat → Bool, (∀ p ∈ before, sp p.block = true) → DataW.TrodAll enc P W' 0 sp true f.params.toList args.toList (s.fn H (ds ++ gs)).args pa)
    (hvars : ∀ sp : Nat → Bool, (∀ p ∈ before, sp p.block = true) → DataW.TrodVars enc P W' sp s.vars (s.fn H (ds ++ gs)).vars pv)
    (_hps : before = pa ++ pv) (hx : Ext W W') :
    s.post enc P f apart fresh handsOn false W args v W' := by
  have hold : ∀ p ∈ before, (fun b => decide (b < W.heap.size)) p.block = true := fun p hp => by simpa using hW.lt p hp
  refine ⟨ds, gs, before, [], pa, pv, hW, hres _ _ _, hargs _ hold, hvars _ hold, Below.frame hx _, fun h => by cases h⟩
theorem wf_I64 {a : Int} (h : (Lit.int .i64 a).wf = true) : -9223372036854775808 ≤ a ∧ a < 9223372036854775808 := by
  simp [Lit.wf, IntKind.min, IntKind.max, IntKind.signed, IntKind.bits] at h
  omega
end Go.Proofs.Ytipfcfaigbeakaa

namespace Go.Proofs.Ytipfcfaigbeakaa
open Go.RowKit Go.ChangeShapes Go.WideShapes Go.ChangeAt
set_option maxRecDepth 100000

theorem trodAll_below {P : Program} {H : Type} {enc : TypeId × Value → H} {W W' : World} (hl : laidOutB P = true) (hx : Ext W W') : ∀ {ts : List TypeId} {vs : List Value} {ds : List (DataW H)} {ps : List MemPlace},
    (∀ t ∈ ts, P.readableRec t = true ∧ t < P.types.size) → (∀ p ∈ ps, p.block < W.heap.size) → DataW.TrodAll enc P W 0 (fun _ => true) true ts vs ds ps →
    DataW.TrodAll enc P W' 0 (fun b => decide (b < W.heap.size)) true ts vs ds ps
  | [], [], [], _, _, _, h => h
  | _ :: _, _ :: _, _ :: _, _, hT, hs, ⟨p, q, h1, h2, e⟩ =>
    ⟨p, q, Below.trod hl (hT _ (List.mem_cons.2 (.inl rfl))).1 (hT _ (List.mem_cons.2 (.inl rfl))).2 h1 hx (fun x hx => hs x (by rw [e]; exact List.mem_append_left _ hx)),
      trodAll_below hl hx (fun t ht => hT t (List.mem_cons.2 (.inr ht))) (fun x hx => hs x (by rw [e]; exact List.mem_append_right _ hx)) h2, e⟩

/-- A law that answers a bool and leaves what was there as it was. -/
theorem post_of_ext2 {P : Program} {H : Type} {enc : TypeId × Value → H} {f : Func} {s : ChangeSpec} {apart fresh handsOn : Bool} {W W' : World} {args : Array Value} {v : Value} {ds gs : List (DataW H)} {before : List MemPlace} (hl : laidOutB P = true)
    (hT0 : (f.params.toList.all fun t => P.readableRec t && decide (t < P.types.size)) = true) (hvs : s.vars = [])
    (hW : DataW.Whole enc P f.params.toList s.vars apart W args.toList ds gs before)
    (hargs : (s.fn H (ds ++ gs)).args = ds) (hvars : (s.fn H (ds ++ gs)).vars = [])
    (hres : ∀ (b : Nat) (sp : Nat → Bool) (hd : Bool), DataW.TrodAll enc P W' b sp hd f.resultTypes.toList (v.resultList f.resultTypes.size) (s.fn H (ds ++ gs)).results [])
    (hx : Ext W W') : s.post enc P f apart fresh handsOn false W args v W' := by
  have hT : ∀ t ∈ f.params.toList, P.readableRec t = true ∧ t < P.types.size := fun t ht => by simpa using List.all_eq_true.1 hT0 t ht
  have hlt : ∀ p ∈ before, p.block < W.heap.size := fun p hp => hW.lt p hp
  have hW' := hW
  obtain ⟨p, q, hA, hV, hpq, hfz, hnd⟩ := hW'
  rw [hvs] at hV
  obtain ⟨rfl, rfl⟩ := trodVars_none hV
  rw [List.append_nil] at hpq
  subst hpq
  refine ⟨ds, [], before, [], before, [], hW, hres _ _ _, ?_, ?_, Below.frame hx _, fun h => by cases h⟩
  · rw [hargs]; exact trodAll_below hl hx hT hlt hA
  · rw [hvs, hvars]; rfl

theorem slot_add (b o : Nat) (j : Nat) : (⟨b, o, none⟩ : Addr).add j = ⟨b, o + j, none⟩ := by
  unfold Addr.add; split
  · next h0 => have : j = 0 := by simpa using h0
               rw [this]; rfl
  · rfl
theorem slc_at {w : World} {a : Addr} {len cap : Nat} {l : List Value} (hl : len ≤ cap) (hc : cap ≤ maxLen) (h : ∀ j u, l[j]? = some u → w.cell? (a.add j) = some u) : SlC w (.slice (some a) len cap) len l := by
  refine ⟨some a, cap, rfl, hl, hc, fun j u hu => ?_⟩
  have h0 : 0 < l.length := Nat.lt_of_le_of_lt (Nat.zero_le j) (List.getElem?_eq_some_iff.1 hu).1
  have h1 := World.cell?_spot (h 0 _ (List.getElem?_eq_getElem h0))
  obtain ⟨b, o, s⟩ := a
  simp [Addr.add] at h1
  subst h1
  exact ⟨b, o, rfl, by rw [← slot_add]; exact h j u hu⟩
/-- A slice of numbers that came in. -/
theorem open_numbers {P : Program} {H : Type} {enc : TypeId × Value → H} {w : World} {base : Nat} {sp : Nat → Bool} {held : Bool} {t e : TypeId} {k : IntKind} {fuel : Nat} {v : Value} {x : DataW H × List MemPlace} (ht : P.underlying t = some (.slice e)) (he : P.underlying e = some (.int k)) (hc : P.cellsOf e = 1)
    (h : DataW.trod enc P w base sp held fuel t [v] = some x) : ∃ l : List Int, SlC w v l.length (l.map (.int k)) ∧ ∀ n ∈ l, (Lit.int k n).wf = true := by
  rcases open_ints ht he hc h with ⟨e1, rfl⟩ | ⟨a, len, cap, zs, e1, hb, hl, hcm, hlen, rfl, hcell, hwf⟩
  · simp only [List.cons.injEq, and_true] at e1
    subst e1
    exact ⟨[], ⟨none, 0, rfl, Nat.le_refl _, Nat.zero_le _, fun j u hu => by simp at hu⟩, fun n hn => by cases hn⟩
  · simp only [List.cons.injEq, and_true] at e1
    subst e1
    have hz : len ≤ zs.length := by rw [hlen]; split <;> omega
    have e2 : (zs.take len).length = len := by rw [List.length_take]; omega
    refine ⟨zs.take len, ?_, fun n hn => hwf n (List.mem_of_mem_take hn)⟩
    rw [e2]
    refine slc_at hl hcm fun j u hu => ?_
    have hj : j < len := by have := (List.getElem?_eq_some_iff.1 hu).1; rw [List.length_map, e2] at this; exact this
    rw [hcell j (by omega)]
    rw [List.getElem?_map, List.getElem?_take_of_lt hj, List.getElem?_eq_getElem (by omega)] at hu
    rw [← Option.some.inj hu]
    simp [List.getD, List.getElem?_eq_getElem (show j < zs.length by omega)]
/-- A struct whose field at offset o is one cell. -/
theorem trod_fields {P : Program} {H : Type} {enc : TypeId × Value → H} {w : World} {base : Nat} {sp : Nat → Bool} {held : Bool} {t : TypeId} {fs : Array Field} {fuel : Nat} {cs : List Value} {x : DataW H × List MemPlace} (ht : P.underlying t = some (.struct fs))
    (h : DataW.trod enc P w base sp held fuel t cs = some x) : ∃ n, cs.length = P.cellsOf t ∧ ∀ (i o : Nat) (ty : TypeId) (v : Value), (fs[i]?).map (fun f => (f.type, f.offset)) = some (ty, o) → P.cellsOf ty = 1 → cs[o]? = some v → ∃ y, DataW.trod enc P w base sp held n ty [v] = some y := by
  obtain ⟨xs, n, rfl, _, hl, hxl, hf⟩ := DataW.trod_struct ht h
  refine ⟨n, hl, fun i o ty v hfs hc hv => ?_⟩
  obtain ⟨f, hfi, e⟩ := Option.map_eq_some_iff.1 hfs
  simp only [Prod.mk.injEq] at e
  obtain ⟨rfl, rfl⟩ := e
  have := hf i f hfi
  have hi : i < xs.length := by rw [hxl]; exact (Array.getElem?_eq_some_iff.1 hfi).1
  obtain ⟨ho, hov⟩ := List.getElem?_eq_some_iff.1 hv
  rw [hc, List.drop_eq_getElem_cons ho, List.take_succ_cons, List.take_zero, hov, List.getElem?_eq_getElem hi] at this
  exact ⟨_, this⟩
theorem okWide_agg {P : Program} {w : World} {r : Reach} {b : Nat} {t : TypeId} {v : Value} {fs : Array Field} (ht : P.underlying t = some (.struct fs)) (h : Value.okWide P w r b t v) : ∃ cs, v = .agg cs := by
  unfold Value.okWide at h
  rw [ht] at h
  obtain ⟨cs, e, _⟩ := h
  exact ⟨cs, e⟩
end Go.Proofs.Ytipfcfaigbeakaa

namespace Go.Proofs.Ytipfcfaigbeakaa
open Go.RowKit Go.ChangeShapes Go.WideShapes Go.ChangeAt
set_option maxRecDepth 100000

theorem insCells_len : ∀ (l : List InsV), (insCells l).length = l.length * 3
  | [] => rfl
  | q :: l => by
    have := insCells_len l
    unfold insCells at this ⊢
    rw [List.flatMap_cons, List.length_append, this, List.length_cons]; simp; omega
theorem insCells_get {l : List InsV} {j : Nat} {u : Value} (h : (insCells l)[j]? = some u) : ∃ i q, l[i]? = some q ∧ (j = i * 3 ∧ u = .int .i64 q.op ∨ j = i * 3 + 1 ∧ u = .int .i64 q.n ∨ j = i * 3 + 2 ∧ u = .int .i64 q.k) := by
  have hj := (List.getElem?_eq_some_iff.1 h).1
  rw [insCells_len] at hj
  have hi : j / 3 < l.length := by omega
  have hq := List.getElem?_eq_getElem hi
  obtain ⟨h0, h1, h2⟩ := insCells_at l (j / 3) _ hq
  refine ⟨j / 3, _, hq, ?_⟩
  rcases (by omega : j = j / 3 * 3 ∨ j = j / 3 * 3 + 1 ∨ j = j / 3 * 3 + 2) with e | e | e
  · rw [← e, h] at h0; exact .inl ⟨e, Option.some.inj h0⟩
  · rw [← e, h] at h1; exact .inr (.inl ⟨e, Option.some.inj h1⟩)
  · rw [← e, h] at h2; exact .inr (.inr ⟨e, Option.some.inj h2⟩)
theorem cellsIns : Try.prog.cellsOf 33 = 3 := by kernel_rfl
theorem cellsCode : Try.prog.cellsOf 25 = 7 := by kernel_rfl
theorem cellsInt : Try.prog.cellsOf 3 = 1 := by kernel_rfl
theorem cellsInts : Try.prog.cellsOf 22 = 1 := by kernel_rfl
theorem cellsInss : Try.prog.cellsOf 23 = 1 := by kernel_rfl
theorem lit_I64 {a : Int} (h : (Lit.int .i64 a).wf = true) : I64 a := wf_I64 h
section
variable {H : Type} {enc : TypeId × Value → H} {W : World} {base : Nat} {sp : Nat → Bool} {held : Bool}
theorem open_ins {fuel : Nat} {v : Value} {x : DataW H × List MemPlace} (h : DataW.trod enc Try.prog W base sp held fuel 23 [v] = some x) :
    ∃ l : List InsV, SlC W v l.length (insCells l) ∧ ∀ q ∈ l, I64 q.op ∧ I64 q.n ∧ I64 q.k := by
  rcases Deep.open_slice Try.underlying23 h with ⟨e1, rfl⟩ | ⟨a, len, cap, m, n, D, Pl, e1, hb, hl, hcm, hm, rfl, hel⟩
  · simp only [List.cons.injEq, and_true] at e1
    subst e1
    exact ⟨[], ⟨none, 0, rfl, Nat.le_refl _, Nat.zero_le _, fun j u hu => by simp [insCells] at hu⟩, fun n hn => by cases hn⟩
  · simp only [List.cons.injEq, and_true] at e1
    subst e1
    have hlm : len ≤ m := by rw [hm]; split <;> omega
    have each : ∀ i, i < len → ∃ q : InsV, W.cell? (a.add (i * 3)) = some (.int .i64 q.op) ∧ W.cell? (a.add (i * 3 + 1)) = some (.int .i64 q.n) ∧ W.cell? (a.add (i * 3 + 2)) = some (.int .i64 q.k) ∧ I64 q.op ∧ I64 q.n ∧ I64 q.k := by
      intro i hi
      obtain ⟨cs', h1, h2⟩ := hel i (by omega)
      rw [cellsIns] at h1
      obtain ⟨_, hlen, hcell⟩ := World.cells?_some h1
      obtain ⟨k, _, hf⟩ := trod_fields Try.underlying33 h2
      match cs', hlen with
      | [v0, v1, v2], _ =>
        obtain ⟨y0, f0⟩ := hf 0 0 3 v0 rfl cellsInt rfl
        obtain ⟨y1, f1⟩ := hf 1 1 3 v1 rfl cellsInt rfl
        obtain ⟨y2, f2⟩ := hf 2 2 3 v2 rfl cellsInt rfl
        obtain ⟨n0, e0, _, w0⟩ := DataW.trod_int Try.underlying3 f0
        obtain ⟨n1, e1, _, w1⟩ := DataW.trod_int Try.underlying3 f1
        obtain ⟨n2, e2, _, w2⟩ := DataW.trod_int Try.underlying3 f2
        simp only [List.cons.injEq, and_true] at e0 e1 e2
        subst e0
        subst e1
        subst e2
        have c0 := hcell 0 (by omega)
        have c1 := hcell 1 (by omega)
        have c2 := hcell 2 (by omega)
        rw [Deep.add_add] at c0 c1 c2
        exact ⟨⟨n0, n1, n2⟩, c0, c1, c2, lit_I64 w0, lit_I64 w1, lit_I64 w2⟩
    have hne : Nonempty InsV := ⟨⟨0, 0, 0⟩⟩
    have hch : ∃ f : Nat → InsV, ∀ i, i < len → W.cell? (a.add (i * 3)) = some (.int .i64 (f i).op) ∧ W.cell? (a.add (i * 3 + 1)) = some (.int .i64 (f i).n) ∧ W.cell? (a.add (i * 3 + 2)) = some (.int .i64 (f i).k) ∧ I64 (f i).op ∧ I64 (f i).n ∧ I64 (f i).k := by
      classical
      exact ⟨fun i => if hi : i < len then Classical.choose (each i hi) else ⟨0, 0, 0⟩, fun i hi => by simp only [dif_pos hi]; exact Classical.choose_spec (each i hi)⟩
    obtain ⟨f, hf⟩ := hch
    have e2 : ((List.range len).map f).length = len := by simp
    refine ⟨(List.range len).map f, ?_, fun q hq => ?_⟩
    · rw [e2]
      refine slc_at hl hcm fun j u hu => ?_
      obtain ⟨i, q, hq, hh⟩ := insCells_get hu
      have hi : i < len := by have := (List.getElem?_eq_some_iff.1 hq).1; simpa using this
      have hqf : q = f i := by
        rw [List.getElem?_map, List.getElem?_range hi] at hq
        exact (Option.some.inj hq).symm
      obtain ⟨h0, h1, h2, _⟩ := hf i hi
      subst hqf
      rcases hh with ⟨rfl, rfl⟩ | ⟨rfl, rfl⟩ | ⟨rfl, rfl⟩
      · exact h0
      · exact h1
      · exact h2
    · obtain ⟨i, hi, rfl⟩ := List.mem_map.1 hq
      exact (hf i (List.mem_range.1 hi)).2.2.2
/-- An argument that is a program. -/
theorem open_code {r : Reach} {base0 : Nat} {v : Value} {d : DataW H} {p : List MemPlace} (hval : Value.okWide Try.prog W r base0 25 v) (h : DataW.Trod enc Try.prog W base sp held 25 v d p) :
    ∃ (c : CodeV) (kv iv bv : Value), v = codeA c kv iv bv ∧ CodeIn W kv iv bv c ∧ CodeWf c := by
  obtain ⟨cs, rfl⟩ := okWide_agg Try.underlying25 hval
  obtain ⟨fuel, h⟩ := h
  obtain ⟨n, hl, hf⟩ := trod_fields Try.underlying25 h
  rw [cellsCode] at hl
  obtain ⟨l⟩ := cs
  change l.length = 7 at hl
  match l, hl with
  | [c0, c1, c2, c3, c4, c5, c6], _ =>
    obtain ⟨y0, f0⟩ := hf 0 0 22 c0 rfl cellsInts rfl
    obtain ⟨y1, f1⟩ := hf 1 1 3 c1 rfl cellsInt rfl
    obtain ⟨y2, f2⟩ := hf 2 2 3 c2 rfl cellsInt rfl
    obtain ⟨y3, f3⟩ := hf 3 3 3 c3 rfl cellsInt rfl
    obtain ⟨y4, f4⟩ := hf 4 4 3 c4 rfl cellsInt rfl
    obtain ⟨y5, f5⟩ := hf 5 5 22 c5 rfl cellsInts rfl
    obtain ⟨y6, f6⟩ := hf 6 6 23 c6 rfl cellsInss rfl
    obtain ⟨k, hk, hkw⟩ := open_numbers Try.underlying22 Try.underlying3 cellsInt f0
    obtain ⟨n1, e1, _, w1⟩ := DataW.trod_int Try.underlying3 f1
    obtain ⟨n2, e2, _, w2⟩ := DataW.trod_int Try.underlying3 f2
    obtain ⟨n3, e3, _, w3⟩ := DataW.trod_int Try.underlying3 f3
    obtain ⟨n4, e4, _, w4⟩ := DataW.trod_int Try.underlying3 f4
    obtain ⟨i, hi, hiw⟩ := open_numbers Try.underlying22 Try.underlying3 cellsInt f5
    obtain ⟨b, hb, hbw⟩ := open_ins f6
    simp only [List.cons.injEq, and_true] at e1 e2 e3 e4
    subst e1
    subst e2
    subst e3
    subst e4
    exact ⟨⟨k, n1, n2, n3, i, n4, b⟩, c0, c5, c6, rfl, ⟨hk, hi, hb⟩, ⟨lit_I64 w1, lit_I64 w2, lit_I64 w3, lit_I64 w4, fun x hx => lit_I64 (hkw x hx), fun x hx => lit_I64 (hiw x hx), hbw⟩⟩
end
end Go.Proofs.Ytipfcfaigbeakaa

/-
  Plain lemmas on worlds, rows of their own, boxes and slices that the walks use.
  No condition.
-/
import Derived.Test.YtkjgghbdpmkmoaaChecked
import Derived.Test.YtkjgghbdpmkmoaaKit8
import Derived.Test.YtkjgghbdpmkmoaaKit6
import Derived.Test.YtkjgghbdpmkmoaaKit4
import Derived.Test.YtkjgghbdpmkmoaaPost2
import Derived.LoopN
import Derived.LoopTactic
import Derived.Deep.Cut
import Derived.Deep.RegionHeld3
import Derived.WideShapes
import Derived.Deep.MidRow
namespace Go.Proofs.Ytkjgghbdpmkmoaa
open Go.RowKit
set_option linter.unusedSimpArgs false
set_option linter.unusedVariables false
set_option maxRecDepth 100000

/-- A number that 64 bits hold. -/
def I64 (n : Int) : Prop := -9223372036854775808 ≤ n ∧ n < 9223372036854775808
theorem infoInt : (Try.prog.info? 3).map (fun i => (i.zero, i.size, i.bytes)) = some (some (.int .i64 0), 1, 8) := by kernel_rfl

abbrev u8s (l : List Int) : List Value := l.map (.int .u8)
abbrev i64s (l : List Int) : List Value := l.map (.int .i64)

theorem nat64 {m cap : Nat} (h : m ≤ cap) (hc : cap ≤ maxLen) : wrap64 (m : Int) = m := by rw [← IntWalk.i64_left]; exact IntWalk.i64_in _ (by unfold maxLen at hc; omega)
theorem byte_in {x : Int} (hx : 0 ≤ x ∧ x < 256) : IntKind.i64.wrap x = x := IntWalk.i64_in _ (by omega)

theorem SlC.fresh (w : World) (arr : Array Value) (e : TypeId) (n nb : Nat) (hn : nb = w.heap.size) (hm : n ≤ maxLen) : SlC (w.alloc (.cells arr e)) (.slice (some ⟨nb, 0, none⟩) n n) n arr.toList := by
  subst hn
  refine ⟨some ⟨w.heap.size, 0, none⟩, n, rfl, Nat.le_refl _, hm, fun j u hu => ⟨w.heap.size, 0, rfl, ?_⟩⟩
  rw [Nat.zero_add, cell_of_row _ _ j arr e (0, 0) (heap_alloc_last w _)]
  simpa using hu
theorem own_fresh (w : World) (arr : Array Value) (e : TypeId) (base n nb : Nat) (hn : nb = w.heap.size) (hb : base ≤ nb) (hs : arr.size = n) (hm : n ≤ maxLen) : (w.alloc (.cells arr e)).ownsRow base e 1 (.slice (some ⟨nb, 0, none⟩) n n) n arr.toList := by
  refine ⟨by simp [hs], .inr ⟨nb, n, arr, rfl, hb, heap_alloc_at _ _ _ hn, Nat.le_refl _, hm, by simp [hs], ?_⟩⟩
  rw [List.take_of_length_le (by simp [hs])]
theorem own_slice {w : World} {base n : Nat} {e : TypeId} {u : Value} {cs : List Value} (h : w.ownsRow base e 1 u n cs) : ∃ a n c, u = .slice a n c := by
  rcases h.2 with ⟨rfl, _⟩ | ⟨g, cap', cur, rfl, hb, _⟩
  · exact ⟨_, _, _, rfl⟩
  · exact ⟨_, _, _, rfl⟩
theorem one_i64s (l : List Int) : ∀ u ∈ i64s l, u.oneCell' = true := by
  intro u hu
  obtain ⟨x, _, rfl⟩ := List.mem_map.1 hu
  rfl

theorem fresh_drew (w : World) (arr : Array Value) (e : TypeId) (n nb : Nat) (hn : nb = w.heap.size) (hm : n ≤ maxLen) : SlC (w.alloc (.cells arr e)).drew (.slice (some ⟨nb, 0, none⟩) n n) n arr.toList := (SlC.fresh w arr e n nb hn hm).ext (Ext.refl _).drew

theorem own_slice3 {w : World} {base n : Nat} {e : TypeId} {u : Value} {cs : List Value} {k : Nat} (h : w.ownsRow base e k u n cs) : ∃ a m c, u = .slice a m c := by
  rcases h.2 with ⟨rfl, _⟩ | ⟨g, cap', cur, rfl, hb, _⟩
  · exact ⟨_, _, _, rfl⟩
  · exact ⟨_, _, _, rfl⟩
theorem ext_set {w w' : World} (h : Ext w w') {X : Nat} (hX : w.heap.size ≤ X) (j : Nat) (v : Value) : Ext w (w'.setCell ⟨X, j, none⟩ v) := h.setCell hX v
/-- A block of one program, all of whose cells may be stored to. -/
structure BoxV (C : Nat) (vs : List Value) (w : World) : Prop where
  cells : ∀ j u, vs[j]? = some u → w.cell? ⟨C, j, none⟩ = some u
  fz : ∀ j, w.frozen? ⟨C, j, none⟩ = false
  lt : C < w.heap.size
theorem BoxV.ext {C : Nat} {vs : List Value} {w w' : World} (h : BoxV C vs w) (hx : Ext w w') : BoxV C vs w' :=
  ⟨fun j u hu => hx.cell (h.cells j u hu), fun j => by rw [hx.frozens C j h.lt]; exact h.fz j, Nat.lt_of_lt_of_le h.lt hx.size⟩
theorem BoxV.set {C : Nat} {vs : List Value} {w : World} (h : BoxV C vs w) (j : Nat) (u : Value) (hj : j < vs.length) : BoxV C (vs.set j u) (w.setCell ⟨C, j, none⟩ u) := by
  refine ⟨fun k x hx => ?_, fun k => by simp; exact h.fz k, by simp; exact h.lt⟩
  by_cases hk : j = k
  · subst hk
    rw [List.getElem?_set_self hj] at hx
    rw [← Option.some.inj hx]
    exact World.cell?_setCell_same _ _ _ (h.cells j _ (List.getElem?_eq_getElem hj))
  · rw [List.getElem?_set_ne hk] at hx
    rw [World.cell?_setCell_other _ _ _ _ (by intro e; simp only [Addr.mk.injEq] at e; omega)]
    exact h.cells k x hx
theorem BoxV.put {C : Nat} {vs : List Value} {w : World} (h : BoxV C vs w) (j : Nat) (u : Value) : BoxV C (vs.set j u) (w.setCell ⟨C, j, none⟩ u) := by
  by_cases hj : j < vs.length
  · exact h.set j u hj
  · rw [List.set_eq_of_length_le (by omega)]
    refine ⟨fun k x hx => ?_, fun k => by simp; exact h.fz k, by simp; exact h.lt⟩
    have hk := (List.getElem?_eq_some_iff.1 hx).1
    rw [World.cell?_setCell_other _ _ _ _ (by intro e; simp only [Addr.mk.injEq] at e; omega)]
    exact h.cells k x hx
theorem BoxV.drew {C : Nat} {vs : List Value} {w : World} (h : BoxV C vs w) : BoxV C vs w.drew := h.ext (Ext.refl w).drew
theorem BoxV.drewN {C : Nat} {vs : List Value} {w : World} (h : BoxV C vs w) (n : Nat) : BoxV C vs (w.drewN n) := h.ext ((Ext.refl w).drewN n)
theorem BoxV.cast {C : Nat} {vs vs' : List Value} {w : World} (h : BoxV C vs w) (e : vs = vs') : BoxV C vs' w := e ▸ h
theorem drew_block {w : World} {X : Nat} {o : Obj} (h : w.heap[X]? = some o) : w.drew.heap[X]? = some o := h
theorem drewN_block {w : World} {X : Nat} {o : Obj} (h : w.heap[X]? = some o) (n : Nat) : (w.drewN n).heap[X]? = some o := h
theorem ext_block {w w' : World} (h : Ext w w') {X : Nat} {o : Obj} (hX : w.heap[X]? = some o) : w'.heap[X]? = some o := by
  rw [Below.block h X (Array.getElem?_eq_some_iff.1 hX).1]; exact hX
theorem set_block {w : World} {X C : Nat} {o : Obj} (hC : X ≠ C) (j : Nat) (u : Value) (hX : w.heap[X]? = some o) : (w.setCell ⟨C, j, none⟩ u).heap[X]? = some o := by
  rw [Below.heap_setCell _ _ _ _ hC]; exact hX
theorem row_below {B M : Nat} {w w' : World} {e : TypeId} {size : Nat} {v : Value} {n : Nat} {xs : List Value} (h : w.ownsRow B e size v n xs) (hM : ∀ g, v.ownBlock = some g → g < M) (hx : Below M w w') : w'.ownsRow B e size v n xs := by
  refine ⟨h.1, h.2.imp id ?_⟩
  rintro ⟨g, cap, cur, rfl, h1, h2, r⟩
  exact ⟨g, cap, cur, rfl, h1, by rw [Below.block hx g (hM g rfl)]; exact h2, r⟩
theorem BoxV.below {C M : Nat} {vs : List Value} {w w' : World} (h : BoxV C vs w) (hx : Below M w w') (hC : C < M) : BoxV C vs w' :=
  ⟨fun j u hu => (Below.cell (p := ⟨C, j, none⟩) hx hC).trans (h.cells j u hu), fun j => (Below.frozen (p := ⟨C, j, none⟩) hx hC).trans (h.fz j), Nat.lt_of_lt_of_le h.lt hx.size⟩
theorem results_cell_tmp {P : Program} {fn : Func} {p u : Tmp} {ty : TypeId} (h : fn.results = #[.cell p ty, .tmp u]) (tmps : Array Value) (w : World) (g : Nat) (t : TypeId) (cs : Array Value) (fr : Nat × Nat) (d : TypeDesc)
    (hp : tmps.getD p undef = .pointer (some ⟨g, 0, none⟩)) (hg : w.heap[g]? = some (.cells cs t fr))
    (hu : P.underlying ty = some d) (hd : (match d with | .struct _ | .array _ _ => true | _ => false) = true) (hi : (P.info? ty).map (·.size) = some cs.size) :
    (results fn tmps).run P w = .ok (.tuple #[.agg cs, tmps.getD u undef]) w := by
  have hp' : tmps[p]?.getD undef = .pointer (some ⟨g, 0, none⟩) := by simpa using hp
  simp [results, h, hp', asAddr, run_loadVar_row w g t ty cs fr d hg hu hd hi]
theorem ret_row2 {P : Program} {fn : Func} {R : Ending → World → Prop} {a : Act} {w : World} {p u : Tmp} {ty : TypeId} (h : fn.results = #[.cell p ty, .tmp u]) (n : Nat) (t : TypeId) (cs : Array Value) (d : TypeDesc)
    (hp : a.tmps.getD p undef = .pointer (some ⟨n, 0, none⟩)) (hg : w.heap[n]? = some (.cells cs t (0, 0)))
    (hu : P.underlying ty = some d) (hd : (match d with | .struct _ | .array _ _ => true | _ => false) = true) (hi : (P.info? ty).map (·.size) = some cs.size) (hdf : a.defers = [])
    (hR : R (.returned (.tuple #[.agg cs, a.tmps.getD u undef])) w) : bodyPost P fn R .ret a w :=
  bodyPost_ret (results_cell_tmp h _ _ _ _ _ _ _ hp hg hu hd hi) hdf hR
theorem row_setRow {B X : Nat} {w : World} {e : TypeId} {size : Nat} {v : Value} {n : Nat} {xs : List Value} (h : w.ownsRow B e size v n xs) (hX : X < B) (cs : Array Value) : (w.setRow X cs).ownsRow B e size v n xs := by
  refine ⟨h.1, h.2.imp id ?_⟩
  rintro ⟨g, cap, cur, rfl, h1, h2, r⟩
  exact ⟨g, cap, cur, rfl, h1, by rw [setRow_other _ _ _ _ (show g ≠ X by omega)]; exact h2, r⟩
theorem BoxV.other {C : Nat} {vs : List Value} {w : World} (h : BoxV C vs w) {g : Nat} (hg : g ≠ C) (j : Nat) (u : Value) : BoxV C vs (w.setCell ⟨g, j, none⟩ u) := by
  refine ⟨fun k x hx => ?_, fun k => by simp; exact h.fz k, by simp; exact h.lt⟩
  rw [World.cell?_setCell_other _ _ _ _ (by intro e; simp only [Addr.mk.injEq] at e; exact hg e.1)]
  exact h.cells k x hx
theorem BoxV.of_row {g : Nat} {cs : Array Value} {e : TypeId} {w : World} (h : w.heap[g]? = some (.cells cs e (0, 0))) : BoxV g cs.toList w :=
  ⟨fun j u hu => by rw [cell_of_row _ _ j _ _ (0, 0) h]; simpa using hu, fun j => frozen_of_row _ _ j _ _ h, (Array.getElem?_eq_some_iff.1 h).1⟩
theorem BoxV.kb {C : Nat} {vs : List Value} {S : List Nat} {w w' : World} (h : BoxV C vs w) (hk : Kb S w w') (hC : C ∉ S) : BoxV C vs w' :=
  ⟨fun j u hu => hk.cell hC (h.cells j u hu), fun j => (hk.frozen h.lt hC).trans (h.fz j), Nat.lt_of_lt_of_le h.lt hk.size⟩
theorem own_shorter {w : World} {base g n cap : Nat} {e : TypeId} {xs : List Value} (h : w.ownsRow base e 1 (.slice (some ⟨g, 0, none⟩) n cap) n xs) (m : Nat) (hm : m ≤ n) : w.ownsRow base e 1 (.slice (some ⟨g, 0, none⟩) m cap) m (xs.take m) := by
  obtain ⟨h1, h2⟩ := h
  rcases h2 with ⟨h2, _⟩ | ⟨g', cap', cur, hv, hg, hh, hn, hc, hs, ht⟩
  · cases h2
  · simp only [Value.slice.injEq, Option.some.injEq, Addr.mk.injEq] at hv
    obtain ⟨⟨rfl, -, -⟩, -, rfl⟩ := hv
    refine ⟨by rw [List.length_take, h1]; omega, .inr ⟨g, cap, cur, rfl, hg, hh, by omega, hc, hs, ?_⟩⟩
    rw [← ht, List.take_take, Nat.mul_one, Nat.mul_one, Nat.min_eq_left hm]
theorem sizeInt (w : World) : (sizeOf (Try.prog.elem 23)).run Try.prog w = .ok 1 w := by kernel_rfl
theorem sizeInt1 : (Try.prog.info? 3).map (·.size) = some 1 := by kernel_rfl
/-- A row that an append made is a slice of that many. -/
theorem own_n {w : World} {B n s : Nat} {e : TypeId} {v : Value} {xs : List Value} (h : w.ownsRow B e s v n xs) : ∃ a cap, v = .slice a n cap := by
  rcases h.2 with ⟨e1, e2⟩ | ⟨g, cap, cur, e1, -⟩
  · subst e2; exact ⟨_, _, e1⟩
  · exact ⟨_, _, e1⟩
theorem SlC.lt {w : World} {v : Value} {n : Nat} {cs : List Value} (h : SlC w v n cs) (hne : cs ≠ []) : ∀ b, v.ownBlock = some b → b < w.heap.size := by
  obtain ⟨a, cap, rfl, h1, h2, hc⟩ := h
  intro b hb
  obtain ⟨x, hx⟩ : ∃ x, cs[0]? = some x := ⟨_, List.getElem?_eq_getElem (List.length_pos_iff.2 hne)⟩
  obtain ⟨b', o, rfl, hcell⟩ := hc 0 x hx
  simp [Value.ownBlock] at hb
  subst hb
  exact World.block_lt_of_cell? w _ hcell
theorem sizeInts (w : World) : (sizeOf (Try.prog.elem 46)).run Try.prog w = .ok 1 w := by kernel_rfl
theorem i64s_take {r : List Int} : (i64s (r ++ [-71])).take r.length = i64s r := by
  rw [← List.map_take, List.take_left' rfl]
theorem wrap64_id {x : Int} (h1 : -9223372036854775808 ≤ x) (h2 : x < 9223372036854775808) : wrap64 x = x := IntWalk.wrap64_in x (by omega)
theorem cellsInt : Try.prog.cellsOf 3 = 1 := by kernel_rfl
theorem cellsInts : Try.prog.cellsOf 23 = 1 := by kernel_rfl
theorem lit_I64 {a : Int} (h : (Lit.int .i64 a).wf = true) : I64 a := wf_I64 h
theorem infoInts : (Try.prog.info? 23).map (fun i => (i.zero, i.size, i.bytes)) = some (some (.slice none 0 0), 1, 24) := by kernel_rfl

theorem own_room1 {w : World} {base g n cap : Nat} {e : TypeId} {xs : List Value} (h : w.ownsRow base e 1 (.slice (some ⟨g, 0, none⟩) n cap) n xs) (j : Nat) (hj : j < n) : ∃ y, w.cell? ⟨g, j, none⟩ = some y ∧ w.frozen? ⟨g, j, none⟩ = false := by
  obtain ⟨h1, h2⟩ := h
  rcases h2 with ⟨h2, _⟩ | ⟨g', cap', cur, hv, hg, hh, hn, hc, hs, ht⟩
  · cases h2
  · simp only [Value.slice.injEq, Option.some.injEq, Addr.mk.injEq] at hv
    obtain ⟨⟨rfl, -, -⟩, -, rfl⟩ := hv
    refine ⟨cur[j]'(by omega), ?_, frozen_of_row _ _ _ _ _ hh⟩
    rw [cell_of_row w g _ cur e (0, 0) hh, Array.getElem?_eq_getElem]
theorem I64.one {x : Int} (h : I64 x) : ∀ y ∈ [x], I64 y := fun y hy => by rw [List.mem_singleton.1 hy]; exact h
theorem SlC.nil (w : World) : SlC w (.slice none 0 0) 0 [] := ⟨none, 0, rfl, Nat.le_refl _, Nat.zero_le _, fun j u hu => by simp at hu⟩
end Go.Proofs.Ytkjgghbdpmkmoaa

/-
  The walks of the machine (exec): code copied.
  Conditions: the lists are no longer than the code's check lets them be.
  The walks of the machine (exec): its cells at first, and as they are.
  Conditions: the machine's block lies as it is said.
  The walks of the machine (exec): a machine is made.
  Conditions: the code is code.
  The walks of the machine (exec): its stack.
  Conditions: the machine's block lies as it is said, its stack is its own.
  The walks of the machine (exec): what instructions do.
  Conditions: the machine's block lies as it is said.
  The walks of the machine (exec): a slot is loaded.
  Conditions: the machine's block lies as it is said; the slot is one.
  The walks of the machine (exec): a jump where the top is false.
  Conditions: the machine's block lies as it is said.
  The walks of the machine (exec): the top goes into a slot.
  Conditions: the machine's block lies as it is said; the slot is one.
  The walks of the machine (exec): an operation on one value.
  Conditions: the machine's block lies as it is said.
  The walks of the machine (exec): a cast.
  Conditions: the machine's block lies as it is said.
  The walks of the machine (exec): an operation on two values.
  Conditions: the machine's block lies as it is said.
  The walks of the document's machine: it is made.
  Conditions: the code's first values are no more than the check lets them be.
-/
import Derived.Test.YtipfcfaigbeakaaMCodeStacks
import Derived.Test.YtipfcfaigbeakaaJRead
import Derived.Test.YtipfcfaigbeakaaJPost
import Derived.Test.YtipfcfaigbeakaaJMem
import Derived.BigQuiet
import Derived.Deep.RegionHeld3
namespace Go.Proofs.Ytipfcfaigbeakaa
open Go.RowKit
set_option linter.unusedSimpArgs false
set_option linter.unusedVariables false
set_option maxRecDepth 100000

theorem one_insCells (l : List InsV) : ∀ u ∈ insCells l, u.oneCell' = true := by
  intro u hu
  unfold insCells at hu
  obtain ⟨q, _, hq⟩ := List.mem_flatMap.1 hu
  simp only [List.mem_cons, List.not_mem_nil, or_false] at hq
  rcases hq with h | h | h <;> rw [h] <;> rfl
theorem BoxV.other {C : Nat} {vs : List Value} {w : World} (h : BoxV C vs w) {g : Nat} (hg : g ≠ C) (j : Nat) (u : Value) : BoxV C vs (w.setCell ⟨g, j, none⟩ u) := by
  refine ⟨fun k x hx => ?_, fun k => by simp; exact h.fz k, by simp; exact h.lt⟩
  rw [World.cell?_setCell_other _ _ _ _ (by intro e; simp only [Addr.mk.injEq] at e; exact hg e.1)]
  exact h.cells k x hx
theorem BoxV.of_row {g : Nat} {cs : Array Value} {e : TypeId} {w : World} (h : w.heap[g]? = some (.cells cs e (0, 0))) : BoxV g cs.toList w :=
  ⟨fun j u hu => by rw [cell_of_row _ _ j _ _ (0, 0) h]; simpa using hu, fun j => frozen_of_row _ _ j _ _ h, (Array.getElem?_eq_some_iff.1 h).1⟩
set_option maxHeartbeats 2000000 in
theorem copied_any (c : CodeV) (kv iv bv : Value) (w : World) (h : CodeIn w kv iv bv c) (hk : c.kinds.length ≤ 1000000) (hi : c.init.length ≤ 1000000) (hb : c.body.length ≤ 1000000) :
    Calls Try.prog 57 #[codeA c kv iv bv] w fun e w' => ∃ kv' iv' bv', e = .returned (codeA c kv' iv' bv') ∧ w'.ownsRow w.heap.size 3 1 kv' c.kinds.length (i64s c.kinds) ∧ w'.ownsRow w.heap.size 3 1 iv' c.init.length (i64s c.init) ∧ w'.ownsRow w.heap.size 33 3 bv' c.body.length (insCells c.body) ∧ Ext w w' := by
  have HI := Lib.hid h
  obtain ⟨⟨ak, ck, rfl, hk1, hk2, -⟩, ⟨ai, ci, rfl, hi1, hi2, -⟩, ⟨ab, cb, rfl, hb1, hb2, -⟩⟩ := h
  clear hk1 hk2 hi1 hi2 hb1 hb2
  simp only [codeA]
  go_enter Try.func57, Try.ntmps57
  go_upto_region 1 with fail
  have hbox : BoxV w.heap.size [.slice ak c.kinds.length ck, .int .i64 c.ins, .int .i64 c.outs, .int .i64 c.cells, .int .i64 c.stack, .slice ai c.init.length ci, .slice ab c.body.length cb] ((w.alloc (.cells #[.slice ak c.kinds.length ck, .int .i64 c.ins, .int .i64 c.outs, .int .i64 c.cells, .int .i64 c.stack, .slice ai c.init.length ci, .slice ab c.body.length cb] 25)).alloc (.cells #[.slice none 0 0, .int .i64 0, .int .i64 0, .int .i64 0, .int .i64 0, .slice none 0 0, .slice none 0 0] 25)) := BoxV.of_row (cs := #[.slice ak c.kinds.length ck, .int .i64 c.ins, .int .i64 c.outs, .int .i64 c.cells, .int .i64 c.stack, .slice ai c.init.length ci, .slice ab c.body.length cb]) ((Below.block ((Ext.refl (w.alloc _)).alloc _) w.heap.size (by simp)).trans (heap_alloc_last w _))
  have hX : ((w.alloc (.cells #[.slice ak c.kinds.length ck, .int .i64 c.ins, .int .i64 c.outs, .int .i64 c.cells, .int .i64 c.stack, .slice ai c.init.length ci, .slice ab c.body.length cb] 25)).alloc (.cells #[.slice none 0 0, .int .i64 0, .int .i64 0, .int .i64 0, .int .i64 0, .slice none 0 0, .slice none 0 0] 25)).heap[w.heap.size + 1]? = some (.cells #[.slice none 0 0, .int .i64 0, .int .i64 0, .int .i64 0, .int .i64 0, .slice none 0 0, .slice none 0 0] 25) := heap_alloc_at _ _ _ (by simp)
  have hE : Ext w ((w.alloc (.cells #[.slice ak c.kinds.length ck, .int .i64 c.ins, .int .i64 c.outs, .int .i64 c.cells, .int .i64 c.stack, .slice ai c.init.length ci, .slice ab c.body.length cb] 25)).alloc (.cells #[.slice none 0 0, .int .i64 0, .int .i64 0, .int .i64 0, .int .i64 0, .slice none 0 0, .slice none 0 0] 25)) := ((Ext.refl w).alloc _).alloc _
  have hsz : w.heap.size + 2 ≤ ((w.alloc (.cells #[.slice ak c.kinds.length ck, .int .i64 c.ins, .int .i64 c.outs, .int .i64 c.cells, .int .i64 c.stack, .slice ai c.init.length ci, .slice ab c.body.length cb] 25)).alloc (.cells #[.slice none 0 0, .int .i64 0, .int .i64 0, .int .i64 0, .int .i64 0, .slice none 0 0, .slice none 0 0] 25)).heap.size := by simp
  generalize ((w.alloc (.cells #[.slice ak c.kinds.length ck, .int .i64 c.ins, .int .i64 c.outs, .int .i64 c.cells, .int .i64 c.stack, .slice ai c.init.length ci, .slice ab c.body.length cb] 25)).alloc (.cells #[.slice none 0 0, .int .i64 0, .int .i64 0, .int .i64 0, .int .i64 0, .slice none 0 0, .slice none 0 0] 25)) = w1 at hbox hX hE hsz ⊢
  obtain ⟨B, hB⟩ : ∃ B, B = w.heap.size := ⟨_, rfl⟩
  have HBB := Lib.hid hB
  rw [← hB] at hbox hX hsz ⊢
  clear hB
  have HK := Lib.hid (HI.out.kinds.ext hE)
  have q0 := hbox.cells 0 _ rfl
  go_upto_region 2 with (at_builtin; (refine wpList_append_slc _ rfl (.const (.slice none 0 0)) (.tmp 4) 22 rfl (B + 2) 3 (.int .i64 0) 1 8 Try.underlying22 infoInt rfl (by decide) (.slice none 0 0) 0 [] rfl (own_nil _ _ _ _) _ c.kinds.length (i64s c.kinds) rfl HK.out (by simp) (one_i64s _) (by unfold maxLen; omega) (by omega) hsz ?_; intro v1 w2 hownK hg1 hat1; have hE1 := ext_grown_nil hg1; obtain ⟨k1, k2, k3, rfl⟩ := own_slice3 hownK; have hb2 := hbox.ext hE1; have r0 := hb2.cells 0 _ rfl; have z0 := hb2.fz; have l0 := hb2.lt))
  have hb3 := hb2.put 0 (.slice k1 k2 k3)
  have hX3 := set_block (C := B) (show B + 1 ≠ B by omega) 0 (.slice k1 k2 k3) (ext_block hE1 hX)
  have hK3 := ownsRow_setCell_below hownK (a := ⟨B, 0, none⟩) (show B < B + 2 by omega) (.slice k1 k2 k3)
  have hE3 : Ext w (w2.setCell ⟨B, 0, none⟩ (.slice k1 k2 k3)) := (hE.trans hE1).setCell (Nat.le_of_eq HBB.out.symm) _
  have hs3 : B + 2 ≤ (w2.setCell ⟨B, 0, none⟩ (.slice k1 k2 k3)).heap.size := by have := hE1.size; simp; omega
  simp only [List.set_cons_zero, List.set_cons_succ] at hb3
  generalize w2.setCell ⟨B, 0, none⟩ (.slice k1 k2 k3) = w3 at hb3 hX3 hK3 hE3 hs3 ⊢
  clear hbox hX hE hsz HK q0 hg1 hE1 hownK hat1 hb2 r0 z0 l0
  have HK := Lib.hid (HI.out.init.ext hE3)
  have q0 := hb3.cells 5 _ rfl
  go_upto_region 3 with (at_builtin; (refine wpList_append_slc _ rfl (.const (.slice none 0 0)) (.tmp 8) 22 rfl (B + 2) 3 (.int .i64 0) 1 8 Try.underlying22 infoInt rfl (by decide) (.slice none 0 0) 0 [] rfl (own_nil _ _ _ _) _ c.init.length (i64s c.init) rfl HK.out (by simp) (one_i64s _) (by unfold maxLen; omega) (by omega) hs3 ?_; intro v1 w4 hownI hg1 hat1; have hE1 := ext_grown_nil hg1; obtain ⟨i1, i2, i3, rfl⟩ := own_slice3 hownI; have hb4 := hb3.ext hE1; have r0 := hb4.cells 5 _ rfl; have z0 := hb4.fz; have l0 := hb4.lt))
  have hb5 := hb4.put 5 (.slice i1 i2 i3)
  have hX5 := set_block (C := B) (show B + 1 ≠ B by omega) 5 (.slice i1 i2 i3) (ext_block hE1 hX3)
  have hK5 := ownsRow_setCell_below (ownsRow_ext hK3 hE1) (a := ⟨B, 5, none⟩) (show B < B + 2 by omega) (.slice i1 i2 i3)
  have hI5 := ownsRow_setCell_below hownI (a := ⟨B, 5, none⟩) (show B < B + 2 by omega) (.slice i1 i2 i3)
  have hE5 : Ext w (w4.setCell ⟨B, 5, none⟩ (.slice i1 i2 i3)) := (hE3.trans hE1).setCell (Nat.le_of_eq HBB.out.symm) _
  have hs5 : B + 2 ≤ (w4.setCell ⟨B, 5, none⟩ (.slice i1 i2 i3)).heap.size := by have := hE1.size; simp; omega
  simp only [List.set_cons_zero, List.set_cons_succ] at hb5
  generalize w4.setCell ⟨B, 5, none⟩ (.slice i1 i2 i3) = w5 at hb5 hX5 hK5 hI5 hE5 hs5 ⊢
  clear hb3 hX3 hK3 hE3 hs3 HK q0 hg1 hE1 hownI hat1 hb4 r0 z0 l0
  have HK := Lib.hid (HI.out.body.ext hE5)
  have q0 := hb5.cells 6 _ rfl
  go_upto_region 4 with (at_builtin; (refine wpList_append_slc _ rfl (.const (.slice none 0 0)) (.tmp 12) 23 rfl (B + 2) 33 (.agg #[.int .i64 0, .int .i64 0, .int .i64 0]) 3 24 Try.underlying23 infoIns rfl (by decide) (.slice none 0 0) 0 [] rfl (own_nil _ _ _ _) _ c.body.length (insCells c.body) rfl HK.out (insCells_len _) (one_insCells _) (by unfold maxLen; omega) (by omega) hs5 ?_; intro v1 w6 hownB hg1 hat1; have hE1 := ext_grown_nil hg1; obtain ⟨b1, b2, b3, rfl⟩ := own_slice3 hownB; have hb6 := hb5.ext hE1; have r0 := hb6.cells 6 _ rfl; have z0 := hb6.fz; have l0 := hb6.lt))
  have hb7 := hb6.put 6 (.slice b1 b2 b3)
  have hX7 := set_block (C := B) (show B + 1 ≠ B by omega) 6 (.slice b1 b2 b3) (ext_block hE1 hX5)
  have hK7 := ownsRow_setCell_below (ownsRow_ext hK5 hE1) (a := ⟨B, 6, none⟩) (show B < B + 2 by omega) (.slice b1 b2 b3)
  have hI7 := ownsRow_setCell_below (ownsRow_ext hI5 hE1) (a := ⟨B, 6, none⟩) (show B < B + 2 by omega) (.slice b1 b2 b3)
  have hB7 := ownsRow_setCell_below hownB (a := ⟨B, 6, none⟩) (show B < B + 2 by omega) (.slice b1 b2 b3)
  have hE7 : Ext w (w6.setCell ⟨B, 6, none⟩ (.slice b1 b2 b3)) := (hE5.trans hE1).setCell (Nat.le_of_eq HBB.out.symm) _
  simp only [List.set_cons_zero, List.set_cons_succ] at hb7
  generalize w6.setCell ⟨B, 6, none⟩ (.slice b1 b2 b3) = w7 at hb7 hX7 hK7 hI7 hB7 hE7 ⊢
  clear hb5 hX5 hK5 hI5 hE5 hs5 HK q0 hg1 hE1 hownB hat1 hb6 r0 z0 l0
  have p0 := hb7.cells 0 _ rfl
  have p1 := hb7.cells 1 _ rfl
  have p2 := hb7.cells 2 _ rfl
  have p3 := hb7.cells 3 _ rfl
  have p4 := hb7.cells 4 _ rfl
  have p5 := hb7.cells 5 _ rfl
  have p6 := hb7.cells 6 _ rfl
  go_wp2_with (refine wpList_store_row rfl 25 (.tmp 2) (.tmp 15) rfl (B + 1) #[.slice k1 k2 k3, .int .i64 c.ins, .int .i64 c.outs, .int .i64 c.cells, .int .i64 c.stack, .slice i1 i2 i3, .slice b1 b2 b3] rfl rfl 25 _ hX7 rfl rfl (by simp [Value.oneCell']) ?_)
  refine ret_row rfl (B + 1) 25 #[.slice k1 k2 k3, .int .i64 c.ins, .int .i64 c.outs, .int .i64 c.cells, .int .i64 c.stack, .slice i1 i2 i3, .slice b1 b2 b3] _ rfl (setRow_heap _ _ _ _ _ _ hX7) Try.underlying25 rfl (by kernel_rfl) rfl ?_
  have hBB := HBB.out
  refine ⟨_, _, _, rfl, ?_, ?_, ?_, below_setRow hE7 (by omega) _⟩
  · have := ownsRow_base (row_setRow hK7 (show B + 1 < B + 2 by omega) #[.slice k1 k2 k3, .int .i64 c.ins, .int .i64 c.outs, .int .i64 c.cells, .int .i64 c.stack, .slice i1 i2 i3, .slice b1 b2 b3]) (show w.heap.size ≤ B + 2 by omega)
    rwa [Nat.zero_add, List.nil_append] at this
  · have := ownsRow_base (row_setRow hI7 (show B + 1 < B + 2 by omega) #[.slice k1 k2 k3, .int .i64 c.ins, .int .i64 c.outs, .int .i64 c.cells, .int .i64 c.stack, .slice i1 i2 i3, .slice b1 b2 b3]) (show w.heap.size ≤ B + 2 by omega)
    rwa [Nat.zero_add, List.nil_append] at this
  · have := ownsRow_base (row_setRow hB7 (show B + 1 < B + 2 by omega) #[.slice k1 k2 k3, .int .i64 c.ins, .int .i64 c.outs, .int .i64 c.cells, .int .i64 c.stack, .slice i1 i2 i3, .slice b1 b2 b3]) (show w.heap.size ≤ B + 2 by omega)
    rwa [Nat.zero_add, List.nil_append] at this
end Go.Proofs.Ytipfcfaigbeakaa

namespace Go.Proofs.Ytipfcfaigbeakaa
open Go.RowKit
set_option linter.unusedSimpArgs false
set_option linter.unusedVariables false
set_option maxRecDepth 100000

/-- A machine's block: cells, code, slots, stack, place, end. -/
abbrev machL (c : CodeV) (lv kv iv bv sv tv : Value) (pc : Int) (ends : Bool) : List Value :=
  [lv, kv, .int .i64 c.ins, .int .i64 c.outs, .int .i64 c.cells, .int .i64 c.stack, iv, bv, sv, tv, .int .i64 pc, .bool ends]
set_option maxHeartbeats 2000000 in
theorem reset_any (g : Nat) (c : CodeV) (lv kv iv bv sv tv : Value) (pc : Int) (ends : Bool) (w : World) (hb : BoxV g (machL c lv kv iv bv sv tv pc ends) w) (hi : SlC w iv c.init.length (i64s c.init)) (hlen : c.init.length ≤ 1000000) (hl : ∃ a n m, lv = .slice a n m) :
    Calls Try.prog 35 #[.pointer (some ⟨g, 0, none⟩)] w fun e w' => ∃ lv', e = .returned (.tuple #[]) ∧ BoxV g (machL c lv' kv iv bv sv tv pc ends) w' ∧ w'.ownsRow w.heap.size 3 1 lv' c.init.length (i64s c.init) ∧ Kb [g] w w' := by
  obtain ⟨l1, l2, l3, rfl⟩ := hl
  obtain ⟨ai, ci, rfl, hi1, hi2, -⟩ := id hi
  have HI := Lib.hid hi
  have HB := Lib.hid hb
  have q0 := hb.cells 0 _ rfl
  have q6 := hb.cells 6 _ rfl
  have ql := hb.lt
  clear hi hi1 hi2 hb
  go_enter Try.func35, Try.ntmps35
  go_wp2_with (at_builtin; (refine wpList_append_slc _ rfl (.const (.slice none 0 0)) (.tmp 7) 22 rfl w.heap.size 3 (.int .i64 0) 1 8 Try.underlying22 infoInt rfl (by decide) (.slice none 0 0) 0 [] rfl (own_nil _ _ _ _) _ c.init.length (i64s c.init) rfl HI.out (by simp) (one_i64s _) (by unfold maxLen; omega) (by omega) (Nat.le_refl _) ?_; intro v1 w2 hownK hg1 hat1; have hE1 := ext_grown_nil hg1; obtain ⟨k1, k2, k3, rfl⟩ := own_slice3 hownK; have hb2 := HB.out.ext hE1; have r0 := hb2.cells 0 _ rfl; have z0 := hb2.fz; have l0 := hb2.lt))
  refine bodyPost_end (results_none rfl _ _ _) rfl ?_
  refine ⟨_, rfl, (hb2.put 0 _).cast rfl, ?_, (Kb.of_ext hE1).trans (Kb.set w2 g 0 (by simp) _)⟩
  have := ownsRow_setCell_below hownK (a := ⟨g, 0, none⟩) ql (.slice k1 k2 k3)
  rwa [Nat.zero_add, List.nil_append] at this
set_option maxHeartbeats 2000000 in
theorem cells_any (g : Nat) (c : CodeV) (lv kv iv bv sv tv : Value) (pc : Int) (ends : Bool) (l : List Int) (w : World) (hb : BoxV g (machL c lv kv iv bv sv tv pc ends) w) (hl : SlC w lv l.length (i64s l)) (hlen : l.length ≤ 1000000) :
    Calls Try.prog 34 #[.pointer (some ⟨g, 0, none⟩)] w fun e w' => ∃ v, e = .returned v ∧ w'.ownsRow w.heap.size 3 1 v l.length (i64s l) ∧ Ext w w' := by
  obtain ⟨al, cl, rfl, h1, h2, -⟩ := id hl
  have HL := Lib.hid hl
  have q0 := hb.cells 0 _ rfl
  clear hl h1 h2 hb
  go_enter Try.func34, Try.ntmps34
  go_wp2_with (at_builtin; (refine wpList_append_slc _ rfl (.const (.slice none 0 0)) (.tmp 7) 22 rfl w.heap.size 3 (.int .i64 0) 1 8 Try.underlying22 infoInt rfl (by decide) (.slice none 0 0) 0 [] rfl (own_nil _ _ _ _) _ l.length (i64s l) rfl HL.out (by simp) (one_i64s _) (by unfold maxLen; omega) (by omega) (Nat.le_refl _) ?_; intro v1 w2 hownK hg1 hat1; have hE1 := ext_grown_nil hg1; obtain ⟨k1, k2, k3, rfl⟩ := own_slice3 hownK))
  go_ret
  refine ⟨_, rfl, ?_, hE1⟩
  rwa [Nat.zero_add, List.nil_append] at hownK
end Go.Proofs.Ytipfcfaigbeakaa

namespace Go.Proofs.Ytipfcfaigbeakaa
open Go.RowKit
set_option linter.unusedSimpArgs false
set_option linter.unusedVariables false
set_option maxRecDepth 100000

/-- A machine as it is made: its block, and rows of its own. -/
def MadeM (w : World) (c : CodeV) (e : Ending) (w' : World) : Prop :=
  ∃ (g : Nat) (lv kv iv bv : Value), e = .returned (.tuple #[.pointer (some ⟨g, 0, none⟩), .int .i64 0]) ∧ w.heap.size ≤ g ∧ BoxV g (machL c lv kv iv bv (.slice none 0 0) (.slice none 0 0) 0 false) w' ∧ w'.ownsRow w.heap.size 3 1 kv c.kinds.length (i64s c.kinds) ∧ w'.ownsRow w.heap.size 3 1 iv c.init.length (i64s c.init) ∧ w'.ownsRow w.heap.size 33 3 bv c.body.length (insCells c.body) ∧ (∀ b, kv.ownBlock = some b → b < g) ∧ (∀ b, iv.ownBlock = some b → b < g) ∧ (∀ b, bv.ownBlock = some b → b < g) ∧ w'.ownsRow (g + 1) 3 1 lv c.init.length (i64s c.init) ∧ Ext w w'
set_option maxHeartbeats 4000000 in
theorem new_bad (c : CodeV) (kv iv bv : Value) (w : World) (h : CodeIn w kv iv bv c) (h0 : chk c ≠ 0) :
    Calls Try.prog 28 #[codeA c kv iv bv] w fun e w' => e = .returned (.tuple #[.pointer none, .int .i64 40]) ∧ Ext w w' := by
  have HC : Hid (∀ w', Ext w w' → Calls Try.prog 17 #[codeA c kv iv bv] w' fun e w1 => e = .returned (.int .i64 (chk c)) ∧ Ext w' w1) := Lib.hid fun w' hx => check_any _ _ _ _ w' (h.ext hx)
  obtain ⟨x, hx⟩ : ∃ x, x = chk c := ⟨_, rfl⟩
  rw [← hx] at HC h0
  have hb : (x != 0) = true := by simpa using h0
  obtain ⟨⟨_, _, rfl, -⟩, ⟨_, _, rfl, -⟩, ⟨_, _, rfl, -⟩⟩ := h
  clear hx h0
  simp only [codeA] at HC ⊢
  go_enter Try.func28, Try.ntmps28
  go_wp2_with (go_at_call 17; refine (HC.out _ (by repeat first | exact Ext.refl _ | assumption | refine Ext.drew ?_ | refine Ext.drewN ?_ _ | refine Ext.extBy ?_ _ | refine Ext.alloc ?_ _ | refine Ext.setCell ?_ (by simp; try omega) _ | (refine Ext.trans ?_ (by assumption)))).mono ?_; rintro e w1 ⟨rfl, hx1⟩)
  go_ret2
  exact ⟨rfl, ((Ext.refl w).alloc _).trans hx1⟩
set_option maxHeartbeats 4000000 in
theorem new_good (c : CodeV) (kv iv bv : Value) (w : World) (h : CodeIn w kv iv bv c) (h0 : chk c = 0) :
    Calls Try.prog 28 #[codeA c kv iv bv] w (MadeM w c) := by
  obtain ⟨s1, s2, s3⟩ := chk_sizes h0
  have HC : Hid (∀ w', Ext w w' → Calls Try.prog 17 #[codeA c kv iv bv] w' fun e w1 => e = .returned (.int .i64 0) ∧ Ext w' w1) := Lib.hid fun w' hx => by
    have := check_any _ _ _ _ w' (h.ext hx); rw [h0] at this; exact this
  have HD : Hid (∀ w', Ext w w' → Calls Try.prog 57 #[codeA c kv iv bv] w' fun e w1 => ∃ kv' iv' bv', e = .returned (codeA c kv' iv' bv') ∧ w1.ownsRow w'.heap.size 3 1 kv' c.kinds.length (i64s c.kinds) ∧ w1.ownsRow w'.heap.size 3 1 iv' c.init.length (i64s c.init) ∧ w1.ownsRow w'.heap.size 33 3 bv' c.body.length (insCells c.body) ∧ Ext w' w1) := Lib.hid fun w' hx => copied_any _ _ _ _ w' (h.ext hx) (by omega) (by omega) (by omega)
  obtain ⟨⟨_, _, rfl, -⟩, ⟨_, _, rfl, -⟩, ⟨_, _, rfl, -⟩⟩ := h
  have HS : Hid (c.init.length ≤ 1000000) := Lib.hid (by omega)
  clear s1 s2 s3 h0
  simp only [codeA] at HC HD ⊢
  obtain ⟨Q, hQ⟩ : ∃ Q, Q = MadeM w c := ⟨_, rfl⟩
  rw [← hQ]
  have HQ := Lib.hid hQ
  clear hQ
  go_enter Try.func28, Try.ntmps28
  go_upto_region 4 with (first | (go_at_call 17; refine (HC.out _ (by repeat first | exact Ext.refl _ | assumption | refine Ext.drew ?_ | refine Ext.drewN ?_ _ | refine Ext.extBy ?_ _ | refine Ext.alloc ?_ _ | refine Ext.setCell ?_ (by simp; try omega) _ | (refine Ext.trans ?_ (by assumption)))).mono ?_; rintro e w1 ⟨rfl, hx1⟩; have hbx := (BoxV.of_row (heap_alloc_last w _)).ext hx1; have p0 := hbx.cells 0 _ rfl; have p1 := hbx.cells 1 _ rfl; have p2 := hbx.cells 2 _ rfl; have p3 := hbx.cells 3 _ rfl; have p4 := hbx.cells 4 _ rfl; have p5 := hbx.cells 5 _ rfl; have p6 := hbx.cells 6 _ rfl) | (go_at_call 57; refine (HD.out _ (((Ext.refl w).alloc _).trans hx1)).mono ?_; rintro e w2 ⟨kv', iv', bv', rfl, ok, oi, ob, hx2⟩; obtain ⟨k1, k2, k3, rfl⟩ := own_slice3 ok; obtain ⟨i1, i2, i3, rfl⟩ := own_slice3 oi; obtain ⟨b1, b2, b3, rfl⟩ := own_slice3 ob))
  have hw2 : Ext w w2 := (((Ext.refl w).alloc _).trans hx1).trans hx2
  have hw1 : w.heap.size ≤ w1.heap.size := (((Ext.refl w).alloc _).trans hx1).size
  have HR := Lib.hid (reset_any w2.heap.size c (.slice none 0 0) (.slice k1 k2 k3) (.slice i1 i2 i3) (.slice b1 b2 b3) (.slice none 0 0) (.slice none 0 0) 0 false _ (BoxV.of_row (heap_alloc_last w2 (.cells #[.slice none 0 0, .slice k1 k2 k3, .int .i64 c.ins, .int .i64 c.outs, .int .i64 c.cells, .int .i64 c.stack, .slice i1 i2 i3, .slice b1 b2 b3, .slice none 0 0, .slice none 0 0, .int .i64 0, .bool false] 105))) ((SlC.of_owns oi).ext ((Ext.refl w2).alloc _)) HS.out ⟨_, _, _, rfl⟩)
  clear p0 p1 p2 p3 p4 p5 p6 hbx hx1 hx2
  go_wp2_with (go_at_call 35; refine HR.out.mono ?_; rintro e w3 ⟨lv, rfl, hb3, ol, hk3⟩)
  rw [HQ.out]
  have hx3 : Ext w2 w3 := hk3.ext ((Ext.refl w2).alloc _) (fun k hk => by rw [List.mem_singleton.1 hk]; exact Nat.le_refl _)
  have ol' := ol
  rw [show (w2.alloc (.cells #[.slice none 0 0, .slice k1 k2 k3, .int .i64 c.ins, .int .i64 c.outs, .int .i64 c.cells, .int .i64 c.stack, .slice i1 i2 i3, .slice b1 b2 b3, .slice none 0 0, .slice none 0 0, .int .i64 0, .bool false] 105)).heap.size = w2.heap.size + 1 by simp] at ol'
  exact ⟨w2.heap.size, lv, .slice k1 k2 k3, .slice i1 i2 i3, .slice b1 b2 b3, rfl, hw2.size, hb3, ownsRow_base (ownsRow_ext ok hx3) hw1, ownsRow_base (ownsRow_ext oi hx3) hw1, ownsRow_base (ownsRow_ext ob hx3) hw1, fun b hb => (ok.lt b hb).2, fun b hb => (oi.lt b hb).2, fun b hb => (ob.lt b hb).2, ol', hw2.trans hx3⟩
end Go.Proofs.Ytipfcfaigbeakaa

namespace Go.Proofs.Ytipfcfaigbeakaa
open Go.RowKit
set_option linter.unusedSimpArgs false
set_option linter.unusedVariables false
set_option maxRecDepth 100000

/-- The stack's row is the machine's own, and not the machine's block. -/
structure StkM (g base : Nat) (tv : Value) (l : List Int) (w : World) : Prop where
  own : w.ownsRow base 3 1 tv l.length (i64s l)
  ne : tv.ownBlock ≠ some g
  size : base ≤ w.heap.size
theorem BoxV.kb {C : Nat} {vs : List Value} {S : List Nat} {w w' : World} (h : BoxV C vs w) (hk : Kb S w w') (hC : C ∉ S) : BoxV C vs w' :=
  ⟨fun j u hu => hk.cell hC (h.cells j u hu), fun j => (hk.frozen h.lt hC).trans (h.fz j), Nat.lt_of_lt_of_le h.lt hk.size⟩
theorem kb_app {w w' : World} {o : Obj} {r : Option Nat} (h : (w.alloc o).grownBy w' r) : Kb r.toList w w' :=
  (Kb.of_ext ((Ext.refl w).alloc _)).trans (Kb.grown h (fun _ e => Option.mem_toList.2 e))
set_option maxHeartbeats 2000000 in
theorem pushM_any (g base : Nat) (c : CodeV) (lv kv iv bv sv tv : Value) (pc v : Int) (ends : Bool) (l : List Int) (w : World) (hb : BoxV g (machL c lv kv iv bv sv tv pc ends) w) (ht : StkM g base tv l w) (hlen : l.length ≤ 100000) :
    Calls Try.prog 104 #[.pointer (some ⟨g, 0, none⟩), .int .i64 v] w fun e w' => ∃ tv', e = .returned (.tuple #[]) ∧ BoxV g (machL c lv kv iv bv sv tv' pc ends) w' ∧ StkM g base tv' (l ++ [v]) w' ∧ (tv'.ownBlock = tv.ownBlock ∨ ∃ b, w.heap.size ≤ b ∧ tv'.ownBlock = some b) ∧ Kb (g :: tv.ownBlock.toList) w w' := by
  obtain ⟨own, ne, hbs⟩ := ht
  obtain ⟨t1, t2, t3, rfl⟩ := own_slice3 own
  have HB := Lib.hid hb
  have HO := Lib.hid own
  have q9 := hb.cells 9 _ rfl
  have ql := hb.lt
  have HNE : Hid (g ∉ (Value.slice t1 t2 t3).ownBlock.toList) := Lib.hid (fun e => ne (Option.mem_toList.1 e))
  clear hb own
  go_enter Try.func104, Try.ntmps104
  go_wp2_with (at_builtin; (refine wpList_append_slc _ rfl (.tmp 8) (.tmp 10) 22 rfl base 3 (.int .i64 0) 1 8 Try.underlying22 infoInt rfl (by decide) (.slice t1 t2 t3) l.length (i64s l) rfl (HO.out.alloc _) _ 1 [.int .i64 v] rfl (SlC.fresh _ #[.int .i64 v] _ 1 _ (by simp) (by decide)) (by simp) (by simp [Value.oneCell']) (by unfold maxLen; omega) (by omega) (Nat.le_trans hbs (by simp)) ?_; intro v1 w2 hownK hg1 hat1; obtain ⟨k1, k2, k3, rfl⟩ := own_slice3 hownK; have hk2 := kb_app hg1; have r0 := hk2.cell (b := g) (o := 9) HNE.out q9; have z0 := fun j => (hk2.frozen (o := j) ql HNE.out).trans (HB.out.fz j)))
  refine bodyPost_end (results_none rfl _ _ _) rfl ?_
  have hne : (Value.slice k1 k2 k3).ownBlock ≠ some g := by
    rcases hat1 with h | h
    · rw [h]; exact ne
    · rw [h]; intro e; simp at e; omega
  have hset : Kb [g] w2 (w2.setCell ⟨g, 9, none⟩ (.slice k1 k2 k3)) := Kb.set w2 g 9 (by simp) _
  refine ⟨_, rfl, ((HB.out.kb hk2 HNE.out).put 9 _).cast rfl, ⟨?_, hne, ?_⟩, ?_, (hk2.mono (fun _ h => List.mem_cons_of_mem _ h)).trans (hset.mono (fun k h => by rw [List.mem_singleton.1 h]; simp))⟩
  · have := hset.row hownK (fun b hb => by rw [List.mem_singleton.1 hb]; exact hne)
    rw [List.length_append, show i64s (l ++ [v]) = i64s l ++ [.int .i64 v] from List.map_append]
    exact this
  · exact Nat.le_trans hbs (Nat.le_trans hk2.size hset.size)
  · rcases hat1 with h | h
    · exact .inl h
    · exact .inr ⟨_, by simp, h⟩
theorem own_shorter {w : World} {base g n cap : Nat} {e : TypeId} {xs : List Value} (h : w.ownsRow base e 1 (.slice (some ⟨g, 0, none⟩) n cap) n xs) (m : Nat) (hm : m ≤ n) : w.ownsRow base e 1 (.slice (some ⟨g, 0, none⟩) m cap) m (xs.take m) := by
  obtain ⟨h1, h2⟩ := h
  rcases h2 with ⟨h2, _⟩ | ⟨g', cap', cur, hv, hg, hh, hn, hc, hs, ht⟩
  · cases h2
  · simp only [Value.slice.injEq, Option.some.injEq, Addr.mk.injEq] at hv
    obtain ⟨⟨rfl, -, -⟩, -, rfl⟩ := hv
    refine ⟨by rw [List.length_take, h1]; omega, .inr ⟨g, cap, cur, rfl, hg, hh, by omega, hc, hs, ?_⟩⟩
    rw [← ht, List.take_take, Nat.mul_one, Nat.mul_one, Nat.min_eq_left hm]
set_option maxHeartbeats 2000000 in
theorem popM_any (g base : Nat) (c : CodeV) (lv kv iv bv sv tv : Value) (pc x : Int) (ends : Bool) (l : List Int) (w : World) (hb : BoxV g (machL c lv kv iv bv sv tv pc ends) w) (ht : StkM g base tv (l ++ [x]) w) (hlen : l.length ≤ 100000) :
    Calls Try.prog 105 #[.pointer (some ⟨g, 0, none⟩)] w fun e w' => ∃ tv', e = .returned (.int .i64 x) ∧ BoxV g (machL c lv kv iv bv sv tv' pc ends) w' ∧ StkM g base tv' l w' ∧ tv'.ownBlock = tv.ownBlock ∧ Kb [g] w w' := by
  obtain ⟨own, ne, hbs⟩ := ht
  rw [List.length_append, List.length_singleton] at own
  obtain ⟨b, cap, rfl, hbb, hcap, hbl⟩ := ownsRow_some own (by omega)
  have HB := Lib.hid hb
  have HO := Lib.hid own
  have q9 := hb.cells 9 _ rfl
  have ql := hb.lt
  have z0 := hb.fz
  have qx := (own_cell1 own l.length (.int .i64 x) (by simp)).1
  have hw1 : wrap64 (l.length : Int) = (l.length : Int) := nat64 (Nat.le_refl _) (by unfold maxLen; omega)
  have h0 : (0 : Int) ≤ (l.length : Int) := by omega
  have h1 : (l.length : Int) < (l.length : Int) + 1 := by omega
  have h2 : l.length ≤ cap := by omega
  obtain ⟨L, hL⟩ : ∃ L, L = l.length := ⟨_, rfl⟩
  have HL := Lib.hid hL
  rw [← hL] at hw1 h0 h1 h2 qx hcap HO
  rw [← hL] at q9 HB
  have HBS := Lib.hid hbs
  clear hb own hL hbs
  go_enter Try.func105, Try.ntmps105
  go_wp2
  go_ret
  have hset : Kb [g] w (w.setCell ⟨g, 9, none⟩ (.slice (some ⟨b, 0, none⟩) L cap)) := Kb.set w g 9 (by simp) _
  refine ⟨.slice (some ⟨b, 0, none⟩) L cap, rfl, (HB.out.put 9 _).cast rfl, ⟨?_, ne, Nat.le_trans HBS.out hset.size⟩, rfl, hset⟩
  have h := own_shorter HO.out L (Nat.le_succ L)
  rw [show (i64s (l ++ [x])).take L = i64s l by rw [HL.out, show i64s (l ++ [x]) = i64s l ++ [.int .i64 x] from List.map_append, List.take_left' (by simp)]] at h
  rw [← HL.out]
  exact hset.row h (fun k hk => by rw [List.mem_singleton.1 hk]; exact ne)
end Go.Proofs.Ytipfcfaigbeakaa

namespace Go.Proofs.Ytipfcfaigbeakaa
open Go.RowKit
set_option linter.unusedSimpArgs false
set_option linter.unusedVariables false
set_option maxRecDepth 100000

theorem StkM.ext {g base : Nat} {tv : Value} {l : List Int} {w w' : World} (h : StkM g base tv l w) (hx : Ext w w') : StkM g base tv l w' := ⟨ownsRow_ext h.own hx, h.ne, Nat.le_trans h.size hx.size⟩
set_option maxHeartbeats 2000000 in
theorem doPush_any (g base : Nat) (c : CodeV) (lv kv iv bv sv tv : Value) (pc op n k : Int) (ends : Bool) (l : List Int) (w : World) (hb : BoxV g (machL c lv kv iv bv sv tv pc ends) w) (ht : StkM g base tv l w) (hlen : l.length ≤ 100000) :
    Calls Try.prog 80 #[.pointer (some ⟨g, 0, none⟩), .agg #[.int .i64 op, .int .i64 n, .int .i64 k]] w fun e w' => ∃ tv', e = .returned (.tuple #[]) ∧ BoxV g (machL c lv kv iv bv sv tv' pc ends) w' ∧ StkM g base tv' (l ++ [n]) w' ∧ (tv'.ownBlock = tv.ownBlock ∨ ∃ b, w.heap.size ≤ b ∧ tv'.ownBlock = some b) ∧ Kb (g :: tv.ownBlock.toList) w w' := by
  have hx : Ext w (w.alloc (.cells #[.int .i64 op, .int .i64 n, .int .i64 k] 33)) := (Ext.refl w).alloc _
  have HX := Lib.hid hx
  have HP := Lib.hid (pushM_any g base c lv kv iv bv sv tv pc n ends l _ (hb.ext hx) (ht.ext hx) hlen)
  obtain ⟨Q, hQ⟩ : ∃ Q, Q = (fun (e : Ending) (w' : World) => ∃ tv', e = .returned (.tuple #[]) ∧ BoxV g (machL c lv kv iv bv sv tv' pc ends) w' ∧ StkM g base tv' (l ++ [n]) w' ∧ (tv'.ownBlock = tv.ownBlock ∨ ∃ b, w.heap.size ≤ b ∧ tv'.ownBlock = some b) ∧ Kb (g :: tv.ownBlock.toList) w w') := ⟨_, rfl⟩
  rw [← hQ]
  have HQ := Lib.hid hQ
  clear hQ hb ht hx
  go_enter Try.func80, Try.ntmps80
  go_wp2_with (go_at_call 104; refine HP.out.mono ?_; rintro e w1 ⟨tv', rfl, h1, h2, h3, h4⟩)
  refine bodyPost_end (results_none rfl _ _ _) rfl ?_
  rw [HQ.out]
  exact ⟨tv', rfl, h1, h2, h3.imp id (fun ⟨b, hb, e⟩ => ⟨b, Nat.le_trans HX.out.size hb, e⟩), (Kb.of_ext HX.out).trans h4⟩
set_option maxHeartbeats 2000000 in
theorem doEnd_any (g : Nat) (c : CodeV) (lv kv iv bv sv tv : Value) (pc op n k : Int) (ends : Bool) (w : World) (hb : BoxV g (machL c lv kv iv bv sv tv pc ends) w) :
    Calls Try.prog 88 #[.pointer (some ⟨g, 0, none⟩), .agg #[.int .i64 op, .int .i64 n, .int .i64 k]] w fun e w' => e = .returned (.tuple #[]) ∧ BoxV g (machL c lv kv iv bv sv tv pc true) w' ∧ Kb [g] w w' := by
  have HB := Lib.hid hb
  have q := hb.cells 11 _ rfl
  have ql := hb.lt
  have z0 := hb.fz
  clear hb
  go_enter Try.func88, Try.ntmps88
  go_wp2
  refine bodyPost_end (results_none rfl _ _ _) rfl ?_
  exact ⟨rfl, ((HB.out.put 11 (.bool true)).cast rfl).ext ((Ext.refl _).alloc _), (Kb.set w g 11 (by simp) _).trans (Kb.of_ext ((Ext.refl _).alloc _))⟩
set_option maxHeartbeats 2000000 in
theorem doJump_any (g : Nat) (c : CodeV) (lv kv iv bv sv tv : Value) (pc op n k : Int) (ends : Bool) (w : World) (hb : BoxV g (machL c lv kv iv bv sv tv pc ends) w) (hw : wrap64 (pc + n) = pc + n) :
    Calls Try.prog 86 #[.pointer (some ⟨g, 0, none⟩), .agg #[.int .i64 op, .int .i64 n, .int .i64 k]] w fun e w' => e = .returned (.tuple #[]) ∧ BoxV g (machL c lv kv iv bv sv tv (pc + n) ends) w' ∧ Kb [g] w w' := by
  have hx : Ext w (w.alloc (.cells #[.int .i64 op, .int .i64 n, .int .i64 k] 33)) := (Ext.refl w).alloc _
  have HX := Lib.hid hx
  have HB := Lib.hid (hb.ext hx)
  have q := (hb.ext hx).cells 10 _ rfl
  have ql := (hb.ext hx).lt
  have z0 := (hb.ext hx).fz
  have p1 : (w.alloc (.cells #[.int .i64 op, .int .i64 n, .int .i64 k] 33)).cell? ⟨w.heap.size, 1, none⟩ = some (.int .i64 n) := by go_simp
  clear hx hb
  go_enter Try.func86, Try.ntmps86
  go_upto_region 1 with fail
  generalize w.alloc (.cells #[.int .i64 op, .int .i64 n, .int .i64 k] 33) = w1 at HX HB q ql z0 p1 ⊢
  go_region
  go_wp2
  refine bodyPost_end (results_none rfl _ _ _) rfl ?_
  exact ⟨rfl, ((HB.out.put 10 (.int .i64 (pc + n))).cast rfl).drew, (Kb.of_ext HX.out).trans ((Kb.set w1 g 10 (by simp) _).trans (Kb.of_ext (Ext.drew (Ext.refl _))))⟩
end Go.Proofs.Ytipfcfaigbeakaa

namespace Go.Proofs.Ytipfcfaigbeakaa
open Go.RowKit
set_option linter.unusedSimpArgs false
set_option linter.unusedVariables false
set_option maxRecDepth 100000

set_option maxHeartbeats 2000000 in
theorem doLoad_any (g base b : Nat) (cap : Nat) (s : List Int) (c : CodeV) (lv kv iv bv tv : Value) (pc op k : Int) (j : Nat) (x : Int) (ends : Bool) (l : List Int) (w : World) (hb : BoxV g (machL c lv kv iv bv (.slice (some ⟨b, 0, none⟩) s.length cap) tv pc ends) w) (ht : StkM g base tv l w) (hlen : l.length ≤ 100000) (hj : j < s.length) (hx : w.cell? ⟨b, j, none⟩ = some (.int .i64 x)) :
    Calls Try.prog 81 #[.pointer (some ⟨g, 0, none⟩), .agg #[.int .i64 op, .int .i64 (j : Int), .int .i64 k]] w fun e w' => ∃ tv', e = .returned (.tuple #[]) ∧ BoxV g (machL c lv kv iv bv (.slice (some ⟨b, 0, none⟩) s.length cap) tv' pc ends) w' ∧ StkM g base tv' (l ++ [x]) w' ∧ (tv'.ownBlock = tv.ownBlock ∨ ∃ b, w.heap.size ≤ b ∧ tv'.ownBlock = some b) ∧ Kb (g :: tv.ownBlock.toList) w w' := by
  have hx1 : Ext w (w.alloc (.cells #[.int .i64 op, .int .i64 (j : Int), .int .i64 k] 33)) := (Ext.refl w).alloc _
  have HX := Lib.hid hx1
  have HP : Hid (∀ w', Ext w w' → _) := Lib.hid (fun w' h => pushM_any g base c lv kv iv bv (.slice (some ⟨b, 0, none⟩) s.length cap) tv pc x ends l w' (hb.ext h) (ht.ext h) hlen)
  have q8 := (hb.ext hx1).cells 8 _ rfl
  have qx := hx1.cell hx
  have p1 : (w.alloc (.cells #[.int .i64 op, .int .i64 (j : Int), .int .i64 k] 33)).cell? ⟨w.heap.size, 1, none⟩ = some (.int .i64 (j : Int)) := by go_simp
  have hi0 : (0 : Int) ≤ (j : Int) := by omega
  have hi1 : (j : Int) < (s.length : Int) := by omega
  obtain ⟨Q, hQ⟩ : ∃ Q, Q = (fun (e : Ending) (w' : World) => ∃ tv', e = .returned (.tuple #[]) ∧ BoxV g (machL c lv kv iv bv (.slice (some ⟨b, 0, none⟩) s.length cap) tv' pc ends) w' ∧ StkM g base tv' (l ++ [x]) w' ∧ (tv'.ownBlock = tv.ownBlock ∨ ∃ b, w.heap.size ≤ b ∧ tv'.ownBlock = some b) ∧ Kb (g :: tv.ownBlock.toList) w w') := ⟨_, rfl⟩
  rw [← hQ]
  have HQ := Lib.hid hQ
  clear hQ hb ht hx1 hx
  go_enter Try.func81, Try.ntmps81
  go_upto_region 1 with fail
  generalize w.alloc (.cells #[.int .i64 op, .int .i64 (j : Int), .int .i64 k] 33) = w1 at HX q8 qx p1 ⊢
  (refine region_drew_tail 9 (by kernel_rfl) (by kernel_rfl) ?_; simp only [List.take_succ_cons, List.take_zero, List.drop_succ_cons, List.drop_zero]; (repeat (go_big_quiet_step (fail))); refine wpQuiet_nil ?_; rintro _ ⟨nq, rfl⟩)
  go_wp2_with (go_at_call 104; refine (HP.out _ (HX.out.drewN _)).mono ?_; rintro e w2 ⟨tv', rfl, h1, h2, h3, h4⟩)
  refine bodyPost_end (results_none rfl _ _ _) rfl ?_
  rw [HQ.out]
  exact ⟨tv', rfl, h1, h2, h3.imp id (fun ⟨b, hb, e⟩ => ⟨b, Nat.le_trans (HX.out.drewN nq).size hb, e⟩), (Kb.of_ext (HX.out.drewN nq)).trans h4⟩
end Go.Proofs.Ytipfcfaigbeakaa

namespace Go.Proofs.Ytipfcfaigbeakaa
open Go.RowKit
set_option linter.unusedSimpArgs false
set_option linter.unusedVariables false
set_option maxRecDepth 100000

set_option maxHeartbeats 2000000 in
theorem doFalse_any (g base : Nat) (c : CodeV) (lv kv iv bv sv tv : Value) (pc op n k x : Int) (ends : Bool) (l : List Int) (w : World) (hb : BoxV g (machL c lv kv iv bv sv tv pc ends) w) (ht : StkM g base tv (l ++ [x]) w) (hlen : l.length ≤ 100000) (hw : wrap64 (pc + n) = pc + n) :
    Calls Try.prog 87 #[.pointer (some ⟨g, 0, none⟩), .agg #[.int .i64 op, .int .i64 n, .int .i64 k]] w fun e w' => ∃ tv', e = .returned (.tuple #[]) ∧ BoxV g (machL c lv kv iv bv sv tv' (if x = 0 then pc + n else pc) ends) w' ∧ StkM g base tv' l w' ∧ tv'.ownBlock = tv.ownBlock ∧ Kb [g] w w' := by
  have hx1 : Ext w (w.alloc (.cells #[.int .i64 op, .int .i64 n, .int .i64 k] 33)) := (Ext.refl w).alloc _
  have HX := Lib.hid hx1
  have HP := Lib.hid (popM_any g base c lv kv iv bv sv tv pc x ends l _ (hb.ext hx1) (ht.ext hx1) hlen)
  have p1 : (w.alloc (.cells #[.int .i64 op, .int .i64 n, .int .i64 k] 33)).cell? ⟨w.heap.size, 1, none⟩ = some (.int .i64 n) := by go_simp
  have HG : Hid (w.heap.size ∉ [g]) := Lib.hid (fun e => Nat.lt_irrefl _ (by have := hb.lt; rw [← List.mem_singleton.1 e] at this; exact this))
  obtain ⟨R, hR⟩ : ∃ R, R = (if x = 0 then pc + n else pc) := ⟨_, rfl⟩
  rw [← hR]
  have HR := Lib.hid hR
  obtain ⟨Q, hQ⟩ : ∃ Q, Q = (fun (e : Ending) (w' : World) => ∃ tv', e = .returned (.tuple #[]) ∧ BoxV g (machL c lv kv iv bv sv tv' R ends) w' ∧ StkM g base tv' l w' ∧ tv'.ownBlock = tv.ownBlock ∧ Kb [g] w w') := ⟨_, rfl⟩
  rw [← hQ]
  have HQ := Lib.hid hQ
  clear hQ hR hb ht hx1
  by_cases h0 : x = 0
  · have hR : R = pc + n := HR.out.trans (if_pos h0)
    have hxb : (x == 0) = true := by simpa using h0
    subst hR
    clear h0
    go_enter Try.func87, Try.ntmps87
    go_upto_region 1 with fail
    generalize w.alloc (.cells #[.int .i64 op, .int .i64 n, .int .i64 k] 33) = w1 at HX HP p1 ⊢
    go_upto_region 2 with (go_at_call 105; refine HP.out.mono ?_; rintro e w2 ⟨tv', rfl, h1, h2, h3, h4⟩)
    have p2 := h4.cell HG.out p1
    have q := h1.cells 10 _ rfl
    have ql := h1.lt
    have z0 := h1.fz
    have H1 := Lib.hid h1
    clear p1 HP h1
    go_region
    go_wp2
    refine bodyPost_end (results_none rfl _ _ _) rfl ?_
    rw [HQ.out]
    have hset : Kb [g] w2 (w2.setCell ⟨g, 10, none⟩ (.int .i64 (pc + n))) := Kb.set w2 g 10 (by simp) _
    exact ⟨tv', rfl, ((H1.out.put 10 (.int .i64 (pc + n))).cast rfl).drew, ⟨(hset.row h2.own (fun b hb => by rw [List.mem_singleton.1 hb]; exact h2.ne)), h2.ne, Nat.le_trans h2.size hset.size⟩, h3, (Kb.of_ext HX.out).trans (h4.trans (hset.trans (Kb.of_ext (Ext.drew (Ext.refl _)))))⟩
  · have hR : R = pc := HR.out.trans (if_neg h0)
    have hxb : (x == 0) = false := by simpa using h0
    subst hR
    clear h0
    go_enter Try.func87, Try.ntmps87
    go_upto_region 1 with fail
    generalize w.alloc (.cells #[.int .i64 op, .int .i64 n, .int .i64 k] 33) = w1 at HX HP p1 ⊢
    go_wp2_with (go_at_call 105; refine HP.out.mono ?_; rintro e w2 ⟨tv', rfl, h1, h2, h3, h4⟩)
    refine bodyPost_end (results_none rfl _ _ _) rfl ?_
    rw [HQ.out]
    exact ⟨tv', rfl, h1, h2, h3, (Kb.of_ext HX.out).trans h4⟩
end Go.Proofs.Ytipfcfaigbeakaa

namespace Go.Proofs.Ytipfcfaigbeakaa
open Go.RowKit
set_option linter.unusedSimpArgs false
set_option linter.unusedVariables false
set_option maxRecDepth 100000

set_option maxHeartbeats 2000000 in
theorem doSave_any (g base base2 b cap : Nat) (s : List Int) (c : CodeV) (lv kv iv bv tv : Value) (pc op k x : Int) (j : Nat) (ends : Bool) (l : List Int) (w : World) (hb : BoxV g (machL c lv kv iv bv (.slice (some ⟨b, 0, none⟩) s.length cap) tv pc ends) w) (ht : StkM g base tv (l ++ [x]) w) (hlen : l.length ≤ 100000) (hj : j < s.length) (hs : w.ownsRow base2 3 1 (.slice (some ⟨b, 0, none⟩) s.length cap) s.length (i64s s)) (hbg : b ≠ g) (hbt : tv.ownBlock ≠ some b) :
    Calls Try.prog 82 #[.pointer (some ⟨g, 0, none⟩), .agg #[.int .i64 op, .int .i64 (j : Int), .int .i64 k]] w fun e w' => ∃ tv', e = .returned (.tuple #[]) ∧ BoxV g (machL c lv kv iv bv (.slice (some ⟨b, 0, none⟩) s.length cap) tv' pc ends) w' ∧ StkM g base tv' l w' ∧ tv'.ownBlock = tv.ownBlock ∧ w'.ownsRow base2 3 1 (.slice (some ⟨b, 0, none⟩) s.length cap) s.length (i64s (s.set j x)) ∧ Kb [g, b] w w' := by
  have hx1 : Ext w (w.alloc (.cells #[.int .i64 op, .int .i64 (j : Int), .int .i64 k] 33)) := (Ext.refl w).alloc _
  have HX := Lib.hid hx1
  have HP : Hid (∀ w', Ext w w' → _) := Lib.hid (fun w' h => popM_any g base c lv kv iv bv (.slice (some ⟨b, 0, none⟩) s.length cap) tv pc x ends l w' (hb.ext h) (ht.ext h) hlen)
  have p1 : (w.alloc (.cells #[.int .i64 op, .int .i64 (j : Int), .int .i64 k] 33)).cell? ⟨w.heap.size, 1, none⟩ = some (.int .i64 (j : Int)) := by go_simp
  have q8 := (hb.ext hx1).cells 8 _ rfl
  have HG : Hid (w.heap.size ∉ [g] ∧ b ∉ [g] ∧ w.heap.size ∉ [b]) := Lib.hid ⟨fun e => Nat.lt_irrefl _ (by have := hb.lt; rw [← List.mem_singleton.1 e] at this; exact this), fun e => hbg (List.mem_singleton.1 e), fun e => Nat.lt_irrefl _ (by have := (hs.lt b rfl).2; rw [← List.mem_singleton.1 e] at this; exact this)⟩
  have HS := Lib.hid hs
  have hi0 : (0 : Int) ≤ (j : Int) := by omega
  have hi1 : (j : Int) < (s.length : Int) := by omega
  obtain ⟨Q, hQ⟩ : ∃ Q, Q = (fun (e : Ending) (w' : World) => ∃ tv', e = .returned (.tuple #[]) ∧ BoxV g (machL c lv kv iv bv (.slice (some ⟨b, 0, none⟩) s.length cap) tv' pc ends) w' ∧ StkM g base tv' l w' ∧ tv'.ownBlock = tv.ownBlock ∧ w'.ownsRow base2 3 1 (.slice (some ⟨b, 0, none⟩) s.length cap) s.length (i64s (s.set j x)) ∧ Kb [g, b] w w') := ⟨_, rfl⟩
  rw [← hQ]
  have HQ := Lib.hid hQ
  clear hQ hb ht hx1 hs
  go_enter Try.func82, Try.ntmps82
  go_upto_region 1 with fail
  generalize w.alloc (.cells #[.int .i64 op, .int .i64 (j : Int), .int .i64 k] 33) = w1 at HX p1 q8 ⊢
  go_region_held3 (fun w' => w'.cell? ⟨g, 8, none⟩ = some (.slice (some ⟨b, 0, none⟩) s.length cap) ∧ w'.cell? ⟨w.heap.size, 1, none⟩ = some (.int .i64 (j : Int)))
    (first | exact ⟨q8, p1⟩ | exact ⟨h1.cells 8 _ rfl, h4.cell HG.out.1 p1⟩ | exact ⟨(h1.other hbg j _).cells 8 _ rfl, (Kb.set (S := [b]) w2 b j (List.mem_singleton.2 rfl) _).cell HG.out.2.2 (h4.cell HG.out.1 p1)⟩)
    ((go_at_call 105; refine (HP.out _ (HX.out.drew)).mono ?_; rintro e w2 ⟨tv', rfl, h1, h2, h3, h4⟩; have hc := (own_cell1 (h4.row (ownsRow_ext HS.out HX.out.drew) (fun b' hb' => by rw [List.mem_singleton.1 hb']; exact fun e => hbg (Option.some.inj e))) j _ (by rw [List.getElem?_map, List.getElem?_eq_getElem hj]; rfl))))
  all_goals
    refine bodyPost_end (results_none rfl _ _ _) rfl ?_
    rw [HQ.out]
    have hset : Kb [b] w2 (w2.setCell ⟨b, j, none⟩ (.int .i64 x)) := Kb.set w2 b j (List.mem_singleton.2 rfl) _
    have hrow := h4.row (ownsRow_ext HS.out HX.out.drew) (fun b' hb' => by rw [List.mem_singleton.1 hb']; exact fun e => hbg (Option.some.inj e))
    have hown := own_set1 hrow j hj (.int .i64 x)
    rw [show (i64s s).set j (.int .i64 x) = i64s (s.set j x) from by simp [List.map_set]] at hown
    exact ⟨tv', rfl, h1.other hbg j _, ⟨hset.row h2.own (fun b' hb' => by rw [List.mem_singleton.1 hb', h3]; exact hbt), h2.ne, Nat.le_trans h2.size hset.size⟩, h3, hown, (Kb.of_ext HX.out.drew).trans ((h4.mono (fun i hi => by rw [List.mem_singleton.1 hi]; simp)).trans (hset.mono (fun i hi => by rw [List.mem_singleton.1 hi]; simp)))⟩
end Go.Proofs.Ytipfcfaigbeakaa

namespace Go.Proofs.Ytipfcfaigbeakaa
open Go.RowKit
set_option linter.unusedSimpArgs false
set_option linter.unusedVariables false
set_option maxRecDepth 100000

set_option maxHeartbeats 2000000 in
theorem doUn_any (g base : Nat) (c : CodeV) (lv kv iv bv sv tv : Value) (pc op n k x : Int) (ends : Bool) (l : List Int) (w : World) (hb : BoxV g (machL c lv kv iv bv sv tv pc ends) w) (ht : StkM g base tv (l ++ [x]) w) (hlen : l.length ≤ 99999) (hU : ∀ w', Calls Try.prog 99 #[.int .i64 n, .int .i64 k, .int .i64 x] w' fun e w1 => e = .returned (.tuple #[.int .i64 (unv n k x).1, .bool (unv n k x).2]) ∧ Ext w' w1) :
    Calls Try.prog 83 #[.pointer (some ⟨g, 0, none⟩), .agg #[.int .i64 op, .int .i64 n, .int .i64 k]] w fun e w' => ∃ tv', e = .returned (.tuple #[]) ∧ BoxV g (machL c lv kv iv bv sv tv' pc ends) w' ∧ StkM g base tv' (l ++ [(unv n k x).1]) w' ∧ (tv'.ownBlock = tv.ownBlock ∨ ∃ b, w.heap.size ≤ b ∧ tv'.ownBlock = some b) ∧ Kb (g :: tv.ownBlock.toList) w w' := by
  have hx1 : Ext w (w.alloc (.cells #[.int .i64 op, .int .i64 n, .int .i64 k] 33)) := (Ext.refl w).alloc _
  have HX := Lib.hid hx1
  have HP : Hid (∀ w', Ext w w' → _) := Lib.hid (fun w' h => popM_any g base c lv kv iv bv sv tv pc x ends l w' (hb.ext h) (ht.ext h) (by omega))
  have HQP : Hid (∀ (y : Int) tv1 w', BoxV g (machL c lv kv iv bv sv tv1 pc ends) w' → StkM g base tv1 l w' → _) := Lib.hid (fun y tv1 w' h1 h2 => pushM_any g base c lv kv iv bv sv tv1 pc y ends l w' h1 h2 (by omega))
  have HU := Lib.hid hU
  have p1 : (w.alloc (.cells #[.int .i64 op, .int .i64 n, .int .i64 k] 33)).cell? ⟨w.heap.size, 1, none⟩ = some (.int .i64 n) ∧ (w.alloc (.cells #[.int .i64 op, .int .i64 n, .int .i64 k] 33)).cell? ⟨w.heap.size, 2, none⟩ = some (.int .i64 k) := by constructor <;> go_simp
  have HG : Hid (w.heap.size ∉ [g]) := Lib.hid (fun e => Nat.lt_irrefl _ (by have := hb.lt; rw [← List.mem_singleton.1 e] at this; exact this))
  obtain ⟨z, hz⟩ : ∃ z, z = unv n k x := ⟨_, rfl⟩
  rw [← hz] at HU ⊢
  obtain ⟨Q, hQ⟩ : ∃ Q, Q = (fun (e : Ending) (w' : World) => ∃ tv', e = .returned (.tuple #[]) ∧ BoxV g (machL c lv kv iv bv sv tv' pc ends) w' ∧ StkM g base tv' (l ++ [z.1]) w' ∧ (tv'.ownBlock = tv.ownBlock ∨ ∃ b, w.heap.size ≤ b ∧ tv'.ownBlock = some b) ∧ Kb (g :: tv.ownBlock.toList) w w') := ⟨_, rfl⟩
  rw [← hQ]
  have HQ := Lib.hid hQ
  clear hQ hb ht hx1 hU hz
  go_enter Try.func83, Try.ntmps83
  go_upto_region 1 with fail
  generalize w.alloc (.cells #[.int .i64 op, .int .i64 n, .int .i64 k] 33) = w1 at HX p1 ⊢
  go_region_held3 (fun w' => w'.cell? ⟨w.heap.size, 1, none⟩ = some (.int .i64 n) ∧ w'.cell? ⟨w.heap.size, 2, none⟩ = some (.int .i64 k))
    (first | exact p1 | exact ⟨h4.cell HG.out p1.1, h4.cell HG.out p1.2⟩ | exact ⟨hx3.cell (h4.cell HG.out p1.1), hx3.cell (h4.cell HG.out p1.2)⟩)
    (first | (go_at_call 105; refine (HP.out _ (HX.out.drew)).mono ?_; rintro e w2 ⟨tv1, rfl, h1, h2, h3, h4⟩) | (go_at_call 99; refine (HU.out _).mono ?_; rintro e w3 ⟨rfl, hx3⟩))
  all_goals
    go_wp2_with (go_at_call 104; refine (HQP.out _ tv1 w3 (h1.ext hx3) (h2.ext hx3)).mono ?_; rintro e w4 ⟨tv2, rfl, h5, h6, h7, h8⟩)
    refine bodyPost_end (results_none rfl _ _ _) rfl ?_
    rw [HQ.out]
    have hw3 : w.heap.size ≤ w3.heap.size := Nat.le_trans HX.out.drew.size (Nat.le_trans h4.size hx3.size)
    refine ⟨tv2, rfl, h5, h6, ?_, (Kb.of_ext HX.out.drew).trans ((h4.mono (fun i hi => by rw [List.mem_singleton.1 hi]; simp)).trans ((Kb.of_ext hx3).trans (by rw [← h3]; exact h8)))⟩
    rcases h7 with h | ⟨b, hb, h⟩
    · exact .inl (h.trans h3)
    · exact .inr ⟨b, Nat.le_trans hw3 hb, h⟩
end Go.Proofs.Ytipfcfaigbeakaa

namespace Go.Proofs.Ytipfcfaigbeakaa
open Go.RowKit
set_option linter.unusedSimpArgs false
set_option linter.unusedVariables false
set_option maxRecDepth 100000

set_option maxHeartbeats 2000000 in
theorem doCast_any (g base : Nat) (c : CodeV) (lv kv iv bv sv tv : Value) (pc op n k x : Int) (ends : Bool) (l : List Int) (w : World) (hb : BoxV g (machL c lv kv iv bv sv tv pc ends) w) (ht : StkM g base tv (l ++ [x]) w) (hlen : l.length ≤ 99999) (hU : ∀ w', Calls Try.prog 107 #[.int .i64 n, .int .i64 k, .int .i64 x] w' fun e w1 => e = .returned (.tuple #[.int .i64 (castv n k x).1, .bool (castv n k x).2]) ∧ Ext w' w1) :
    Calls Try.prog 85 #[.pointer (some ⟨g, 0, none⟩), .agg #[.int .i64 op, .int .i64 n, .int .i64 k]] w fun e w' => ∃ tv', e = .returned (.tuple #[]) ∧ BoxV g (machL c lv kv iv bv sv tv' pc ends) w' ∧ StkM g base tv' (l ++ [(castv n k x).1]) w' ∧ (tv'.ownBlock = tv.ownBlock ∨ ∃ b, w.heap.size ≤ b ∧ tv'.ownBlock = some b) ∧ Kb (g :: tv.ownBlock.toList) w w' := by
  have hx1 : Ext w (w.alloc (.cells #[.int .i64 op, .int .i64 n, .int .i64 k] 33)) := (Ext.refl w).alloc _
  have HX := Lib.hid hx1
  have HP : Hid (∀ w', Ext w w' → _) := Lib.hid (fun w' h => popM_any g base c lv kv iv bv sv tv pc x ends l w' (hb.ext h) (ht.ext h) (by omega))
  have HQP : Hid (∀ (y : Int) tv1 w', BoxV g (machL c lv kv iv bv sv tv1 pc ends) w' → StkM g base tv1 l w' → _) := Lib.hid (fun y tv1 w' h1 h2 => pushM_any g base c lv kv iv bv sv tv1 pc y ends l w' h1 h2 (by omega))
  have HU := Lib.hid hU
  have p1 : (w.alloc (.cells #[.int .i64 op, .int .i64 n, .int .i64 k] 33)).cell? ⟨w.heap.size, 1, none⟩ = some (.int .i64 n) ∧ (w.alloc (.cells #[.int .i64 op, .int .i64 n, .int .i64 k] 33)).cell? ⟨w.heap.size, 2, none⟩ = some (.int .i64 k) := by constructor <;> go_simp
  have HG : Hid (w.heap.size ∉ [g]) := Lib.hid (fun e => Nat.lt_irrefl _ (by have := hb.lt; rw [← List.mem_singleton.1 e] at this; exact this))
  obtain ⟨z, hz⟩ : ∃ z, z = castv n k x := ⟨_, rfl⟩
  rw [← hz] at HU ⊢
  obtain ⟨Q, hQ⟩ : ∃ Q, Q = (fun (e : Ending) (w' : World) => ∃ tv', e = .returned (.tuple #[]) ∧ BoxV g (machL c lv kv iv bv sv tv' pc ends) w' ∧ StkM g base tv' (l ++ [z.1]) w' ∧ (tv'.ownBlock = tv.ownBlock ∨ ∃ b, w.heap.size ≤ b ∧ tv'.ownBlock = some b) ∧ Kb (g :: tv.ownBlock.toList) w w') := ⟨_, rfl⟩
  rw [← hQ]
  have HQ := Lib.hid hQ
  clear hQ hb ht hx1 hU hz
  go_enter Try.func85, Try.ntmps85
  go_upto_region 1 with fail
  generalize w.alloc (.cells #[.int .i64 op, .int .i64 n, .int .i64 k] 33) = w1 at HX p1 ⊢
  go_region_held3 (fun w' => w'.cell? ⟨w.heap.size, 1, none⟩ = some (.int .i64 n) ∧ w'.cell? ⟨w.heap.size, 2, none⟩ = some (.int .i64 k))
    (first | exact p1 | exact ⟨h4.cell HG.out p1.1, h4.cell HG.out p1.2⟩ | exact ⟨hx3.cell (h4.cell HG.out p1.1), hx3.cell (h4.cell HG.out p1.2)⟩)
    (first | (go_at_call 105; refine (HP.out _ (HX.out.drew)).mono ?_; rintro e w2 ⟨tv1, rfl, h1, h2, h3, h4⟩) | (go_at_call 107; refine (HU.out _).mono ?_; rintro e w3 ⟨rfl, hx3⟩))
  all_goals
    go_wp2_with (go_at_call 104; refine (HQP.out _ tv1 w3 (h1.ext hx3) (h2.ext hx3)).mono ?_; rintro e w4 ⟨tv2, rfl, h5, h6, h7, h8⟩)
    refine bodyPost_end (results_none rfl _ _ _) rfl ?_
    rw [HQ.out]
    have hw3 : w.heap.size ≤ w3.heap.size := Nat.le_trans HX.out.drew.size (Nat.le_trans h4.size hx3.size)
    refine ⟨tv2, rfl, h5, h6, ?_, (Kb.of_ext HX.out.drew).trans ((h4.mono (fun i hi => by rw [List.mem_singleton.1 hi]; simp)).trans ((Kb.of_ext hx3).trans (by rw [← h3]; exact h8)))⟩
    rcases h7 with h | ⟨b, hb, h⟩
    · exact .inl (h.trans h3)
    · exact .inr ⟨b, Nat.le_trans hw3 hb, h⟩
end Go.Proofs.Ytipfcfaigbeakaa

namespace Go.Proofs.Ytipfcfaigbeakaa
open Go.RowKit
set_option linter.unusedSimpArgs false
set_option linter.unusedVariables false
set_option maxRecDepth 100000

set_option maxHeartbeats 2000000 in
theorem doBin_any (g base : Nat) (c : CodeV) (lv kv iv bv sv tv : Value) (pc op n k x y z : Int) (ends : Bool) (l : List Int) (w : World) (hb : BoxV g (machL c lv kv iv bv sv tv pc ends) w) (ht : StkM g base tv (l ++ [x] ++ [y]) w) (hlen : l.length ≤ 99998) (hU : ∀ w', Calls Try.prog 106 #[.int .i64 n, .int .i64 k, .int .i64 x, .int .i64 y] w' fun e w1 => (∃ m t, e = .returned (.tuple #[.int .i64 z, .int .i64 m, .bool t])) ∧ Ext w' w1) :
    Calls Try.prog 84 #[.pointer (some ⟨g, 0, none⟩), .agg #[.int .i64 op, .int .i64 n, .int .i64 k]] w fun e w' => ∃ tv', e = .returned (.tuple #[]) ∧ BoxV g (machL c lv kv iv bv sv tv' pc ends) w' ∧ StkM g base tv' (l ++ [z]) w' ∧ (tv'.ownBlock = tv.ownBlock ∨ ∃ b, w.heap.size ≤ b ∧ tv'.ownBlock = some b) ∧ Kb (g :: tv.ownBlock.toList) w w' := by
  have hx1 : Ext w (w.alloc (.cells #[.int .i64 op, .int .i64 n, .int .i64 k] 33)) := (Ext.refl w).alloc _
  have HX := Lib.hid hx1
  have HP := Lib.hid (popM_any g base c lv kv iv bv sv tv pc y ends (l ++ [x]) _ (hb.ext hx1) (ht.ext hx1) (by simp; omega))
  have HP2 : Hid (∀ tv1 w', BoxV g (machL c lv kv iv bv sv tv1 pc ends) w' → StkM g base tv1 (l ++ [x]) w' → _) := Lib.hid (fun tv1 w' h1 h2 => popM_any g base c lv kv iv bv sv tv1 pc x ends l w' h1 h2 (by omega))
  have HQP : Hid (∀ tv1 w', BoxV g (machL c lv kv iv bv sv tv1 pc ends) w' → StkM g base tv1 l w' → _) := Lib.hid (fun tv1 w' h1 h2 => pushM_any g base c lv kv iv bv sv tv1 pc z ends l w' h1 h2 (by omega))
  have HU := Lib.hid hU
  have p1 : (w.alloc (.cells #[.int .i64 op, .int .i64 n, .int .i64 k] 33)).cell? ⟨w.heap.size, 1, none⟩ = some (.int .i64 n) ∧ (w.alloc (.cells #[.int .i64 op, .int .i64 n, .int .i64 k] 33)).cell? ⟨w.heap.size, 2, none⟩ = some (.int .i64 k) := by constructor <;> go_simp
  have HG : Hid (w.heap.size ∉ [g]) := Lib.hid (fun e => Nat.lt_irrefl _ (by have := hb.lt; rw [← List.mem_singleton.1 e] at this; exact this))
  obtain ⟨Q, hQ⟩ : ∃ Q, Q = (fun (e : Ending) (w' : World) => ∃ tv', e = .returned (.tuple #[]) ∧ BoxV g (machL c lv kv iv bv sv tv' pc ends) w' ∧ StkM g base tv' (l ++ [z]) w' ∧ (tv'.ownBlock = tv.ownBlock ∨ ∃ b, w.heap.size ≤ b ∧ tv'.ownBlock = some b) ∧ Kb (g :: tv.ownBlock.toList) w w') := ⟨_, rfl⟩
  rw [← hQ]
  have HQ := Lib.hid hQ
  clear hQ hb ht hx1 hU
  go_enter Try.func84, Try.ntmps84
  go_upto_region 1 with fail
  generalize w.alloc (.cells #[.int .i64 op, .int .i64 n, .int .i64 k] 33) = w1 at HX HP p1 ⊢
  go_upto_region 2 with (go_at_call 105; refine HP.out.mono ?_; rintro e w0 ⟨tv0, rfl, a1, a2, a3, a4⟩)
  have p2 := And.intro (a4.cell HG.out p1.1) (a4.cell HG.out p1.2)
  clear p1
  go_region_held3 (fun w' => w'.cell? ⟨w.heap.size, 1, none⟩ = some (.int .i64 n) ∧ w'.cell? ⟨w.heap.size, 2, none⟩ = some (.int .i64 k))
    (first | exact p2 | exact ⟨h4.cell HG.out p2.1, h4.cell HG.out p2.2⟩ | exact ⟨hx3.cell (h4.cell HG.out p2.1), hx3.cell (h4.cell HG.out p2.2)⟩)
    (first | (go_at_call 105; refine (HP2.out tv0 _ a1.drew (a2.ext (Ext.drew (Ext.refl _)))).mono ?_; rintro e w2 ⟨tv1, rfl, h1, h2, h3, h4⟩) | (go_at_call 106; refine (HU.out _).mono ?_; rintro e w3 ⟨⟨m, t, rfl⟩, hx3⟩))
  all_goals
    go_wp2_with (go_at_call 104; refine (HQP.out tv1 w3 (h1.ext hx3) (h2.ext hx3)).mono ?_; rintro e w4 ⟨tv2, rfl, h5, h6, h7, h8⟩)
    refine bodyPost_end (results_none rfl _ _ _) rfl ?_
    rw [HQ.out]
    have hk : Kb [g] w w3 := (Kb.of_ext HX.out).trans (a4.trans ((Kb.of_ext (Ext.drew (Ext.refl _))).trans (h4.trans (Kb.of_ext hx3))))
    refine ⟨tv2, rfl, h5, h6, ?_, (hk.mono (fun i hi => by rw [List.mem_singleton.1 hi]; simp)).trans (by rw [← a3, ← h3]; exact h8)⟩
    rcases h7 with h | ⟨b, hb, h⟩
    · exact .inl (h.trans (h3.trans a3))
    · exact .inr ⟨b, Nat.le_trans hk.size hb, h⟩
end Go.Proofs.Ytipfcfaigbeakaa

namespace Go.Proofs.Ytipfcfaigbeakaa
open Go.RowKit
set_option linter.unusedSimpArgs false
set_option linter.unusedVariables false
set_option maxRecDepth 100000

/-- The document's machine as it is made. -/
def RefMade (w : World) (c : CodeV) (kv iv bv : Value) (e : Ending) (w' : World) : Prop :=
  ∃ (g : Nat) (lv : Value), e = .returned (.pointer (some ⟨g, 0, none⟩)) ∧ w.heap.size ≤ g ∧ BoxV g [kv, .int .i64 c.ins, .int .i64 c.outs, .int .i64 c.cells, .int .i64 c.stack, iv, bv, lv] w' ∧ w'.ownsRow w.heap.size 3 1 lv c.init.length (i64s c.init) ∧ lv.ownBlock ≠ some g ∧ Ext w w'
set_option maxHeartbeats 2000000 in
theorem refNew_any (c : CodeV) (kv iv bv : Value) (w : World) (h : CodeIn w kv iv bv c) (hlen : c.init.length ≤ 1000000) :
    Calls Try.prog 29 #[codeA c kv iv bv] w (RefMade w c kv iv bv) := by
  have HI := Lib.hid h.init
  obtain ⟨⟨a1, c1, rfl, -⟩, ⟨a2, c2, rfl, -⟩, ⟨a3, c3, rfl, -⟩⟩ := h
  simp only [codeA]
  have hx1 : Ext w (w.alloc (.cells #[.slice a1 c.kinds.length c1, .int .i64 c.ins, .int .i64 c.outs, .int .i64 c.cells, .int .i64 c.stack, .slice a2 c.init.length c2, .slice a3 c.body.length c3] 25)) := (Ext.refl w).alloc _
  have HX := Lib.hid hx1
  have HB := Lib.hid (BoxV.of_row (heap_alloc_last w (.cells #[.slice a1 c.kinds.length c1, .int .i64 c.ins, .int .i64 c.outs, .int .i64 c.cells, .int .i64 c.stack, .slice a2 c.init.length c2, .slice a3 c.body.length c3] 25)))
  have HK : Hid (∀ w', Ext (w.alloc (.cells #[.slice a1 c.kinds.length c1, .int .i64 c.ins, .int .i64 c.outs, .int .i64 c.cells, .int .i64 c.stack, .slice a2 c.init.length c2, .slice a3 c.body.length c3] 25)) w' → (w'.cell? ⟨w.heap.size, 0, none⟩ = some (.slice a1 c.kinds.length c1) ∧ w'.cell? ⟨w.heap.size, 1, none⟩ = some (.int .i64 c.ins) ∧ w'.cell? ⟨w.heap.size, 2, none⟩ = some (.int .i64 c.outs) ∧ w'.cell? ⟨w.heap.size, 3, none⟩ = some (.int .i64 c.cells) ∧ w'.cell? ⟨w.heap.size, 4, none⟩ = some (.int .i64 c.stack) ∧ w'.cell? ⟨w.heap.size, 5, none⟩ = some (.slice a2 c.init.length c2) ∧ w'.cell? ⟨w.heap.size, 6, none⟩ = some (.slice a3 c.body.length c3))) := Lib.hid fun w' hx => by
    have h := HB.out.ext hx
    exact ⟨h.cells 0 _ rfl, h.cells 1 _ rfl, h.cells 2 _ rfl, h.cells 3 _ rfl, h.cells 4 _ rfl, h.cells 5 _ rfl, h.cells 6 _ rfl⟩
  clear hx1
  go_enter Try.func29, Try.ntmps29
  go_upto_region 1 with fail
  generalize w.alloc (.cells #[.slice a1 c.kinds.length c1, .int .i64 c.ins, .int .i64 c.outs, .int .i64 c.cells, .int .i64 c.stack, .slice a2 c.init.length c2, .slice a3 c.body.length c3] 25) = w1 at HX HB HK ⊢
  obtain ⟨B, hB⟩ : ∃ B, B = w.heap.size := ⟨_, rfl⟩
  rw [← hB] at HB HK ⊢
  have hs1 : B ≤ w1.heap.size := by rw [hB]; exact HX.out.size
  have HBB := Lib.hid hB
  clear hB
  go_region_held3 (fun w' => w'.cell? ⟨B, 0, none⟩ = some (.slice a1 c.kinds.length c1) ∧ w'.cell? ⟨B, 1, none⟩ = some (.int .i64 c.ins) ∧ w'.cell? ⟨B, 2, none⟩ = some (.int .i64 c.outs) ∧ w'.cell? ⟨B, 3, none⟩ = some (.int .i64 c.cells) ∧ w'.cell? ⟨B, 4, none⟩ = some (.int .i64 c.stack) ∧ w'.cell? ⟨B, 5, none⟩ = some (.slice a2 c.init.length c2) ∧ w'.cell? ⟨B, 6, none⟩ = some (.slice a3 c.body.length c3))
    (first | exact HK.out _ (Ext.drew (Ext.refl w1)) | exact HK.out _ (hE1.alloc _) | exact HK.out _ hE1)
    ((refine step_append_slc _ rfl (.const (.slice none 0 0)) (.tmp 5) 22 rfl B 3 (.int .i64 0) 1 8 Try.underlying22 infoInt rfl (by decide) (.slice none 0 0) 0 [] rfl (own_nil _ _ _ _) _ c.init.length (i64s c.init) rfl (HI.out.ext HX.out.drew) (by simp) (one_i64s _) (by unfold maxLen; omega) (by omega) hs1 ?_; intro v1 w2 hownK hg1 hat1; have hE1 : Ext w1 w2 := (Ext.drew (Ext.refl w1)).trans (ext_grown_nil hg1); obtain ⟨k1, k2, k3, rfl⟩ := own_slice3 hownK))
  all_goals
    go_wp2
    go_ret
    refine ⟨w2.heap.size, .slice k1 k2 k3, rfl, (HX.out.trans hE1).size, BoxV.of_row (heap_alloc_last w2 _), ?_, fun e => Nat.lt_irrefl _ (hownK.lt _ e).2, (HX.out.trans hE1).alloc _⟩
    have h := ownsRow_ext hownK ((Ext.refl w2).alloc (.cells #[.slice a1 c.kinds.length c1, .int .i64 c.ins, .int .i64 c.outs, .int .i64 c.cells, .int .i64 c.stack, .slice a2 c.init.length c2, .slice a3 c.body.length c3, .slice k1 k2 k3] 68))
    rw [Nat.zero_add, List.nil_append, HBB.out] at h
    exact h
end Go.Proofs.Ytipfcfaigbeakaa

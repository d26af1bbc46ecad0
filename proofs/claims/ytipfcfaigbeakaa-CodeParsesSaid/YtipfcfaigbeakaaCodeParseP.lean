/-
  The walks of the program's code: all that Parse keeps while it reads its head, under one name.
  No condition.
-/
import Derived.Test.YtipfcfaigbeakaaJRead
import Derived.Test.YtipfcfaigbeakaaMCodeStacks
namespace Go.Proofs.Ytipfcfaigbeakaa
open Go.RowKit
set_option linter.unusedSimpArgs false
set_option linter.unusedVariables false
set_option maxRecDepth 100000

abbrev zeroK : Array Value := #[.slice none 0 0, .int .i64 0, .int .i64 0, .int .i64 0, .int .i64 0, .slice none 0 0, .slice none 0 0]
/-- The reader, the program's block, and the result's block. -/
structure PS (W : World) (X R N D F C : Nat) (l : List Int) (bad : Bool) (vs : List Value) (w : World) : Prop where
  rd : Rd W R N D F l bad w
  box : BoxV C vs w
  blk : w.heap[X]? = some (.cells zeroK 25)
section
variable {W : World} {X R N D F C : Nat} {l : List Int} {bad : Bool} {vs : List Value} {w : World} (hne : R < N ∧ N < D ∧ D < F ∧ F < C ∧ X < R ∧ W.heap.size ≤ X)
include hne
theorem PS.call (h : PS W X R N D F C l bad vs w) : Calls Try.prog 52 #[.pointer (some ⟨N, 0, none⟩), .pointer (some ⟨D, 0, none⟩)] w fun e w' => e = .returned (.int .i64 (rdN l)) ∧ PS W X R N D F C (rdL l) (bad || rdB l) vs w' := by
  refine (read_any h.rd).mono ?_
  rintro e w' ⟨rfl, h1, ht⟩
  exact ⟨rfl, h1, h.box.two ht (by omega) (by omega), two_block ht (by omega) (by omega) h.blk⟩
theorem PS.put (h : PS W X R N D F C l bad vs w) (j : Nat) (u : Value) : PS W X R N D F C l bad (vs.set j u) (w.setCell ⟨C, j, none⟩ u) :=
  ⟨h.rd.putC hne j u, h.box.put j u, set_block (by omega) j u h.blk⟩
end
theorem PS.drew {W : World} {X R N D F C : Nat} {l : List Int} {bad : Bool} {vs : List Value} {w : World} (h : PS W X R N D F C l bad vs w) : PS W X R N D F C l bad vs w.drew := ⟨h.rd.drew, h.box.drew, drew_block h.blk⟩
theorem PS.fun {W : World} {X R N D F C : Nat} {l : List Int} {bad : Bool} {vs : List Value} {w : World} (h : PS W X R N D F C l bad vs w) : w.cell? ⟨F, 0, none⟩ = some (.func (.func 52) #[] #[.pointer (some ⟨N, 0, none⟩), .pointer (some ⟨D, 0, none⟩)]) := h.rd.read
theorem PS.fin {W : World} {X R N D F C : Nat} {l0 l : List Int} {bad : Bool} {vs : List Value} {w : World} {k i o c s : Int} (h : PS W X R N D F C l bad vs w) (hv : vs = [.slice none 0 0, .int .i64 i, .int .i64 o, .int .i64 c, .int .i64 s, .slice none 0 0, .slice none 0 0])
    (hA : Hid (Acc l0 bad (rest5 k i o c s l))) (hl : l.length ≤ 4000000) (hI : Hid (I64 i ∧ I64 o ∧ I64 c ∧ I64 s)) :
    ∃ (i o c s : Int) (l5 : List Int) (bad5 : Bool), Rd W R N D F l5 bad5 w ∧ BoxV C [.slice none 0 0, .int .i64 i, .int .i64 o, .int .i64 c, .int .i64 s, .slice none 0 0, .slice none 0 0] w ∧ w.heap[X]? = some (.cells #[.slice none 0 0, .int .i64 0, .int .i64 0, .int .i64 0, .int .i64 0, .slice none 0 0, .slice none 0 0] 25) ∧ Hid (Acc l0 bad5 (rest5 k i o c s l5)) ∧ l5.length ≤ 4000000 ∧ Hid (I64 i ∧ I64 o ∧ I64 c ∧ I64 s) :=
  ⟨i, o, c, s, l, bad, h.rd, hv ▸ h.box, h.blk, hA, hl, hI⟩
theorem PS.alloc {W : World} {X R N D F C : Nat} {l : List Int} {bad : Bool} {vs : List Value} {w : World} (h : PS W X R N D F C l bad vs w) (o : Obj) : PS W X R N D F C l bad vs (w.alloc o) :=
  ⟨h.rd.ext' ((Ext.refl w).alloc o), h.box.ext ((Ext.refl w).alloc o), ext_block ((Ext.refl w).alloc o) h.blk⟩
/-- The same where the instructions are read: the two rows of numbers, and the instructions. -/
structure QS (W : World) (X R N D F C M : Nat) (l : List Int) (bad : Bool) (vs : List Value) (kv : Value) (ks : List Int) (iv : Value) (is : List Int) (bv : Value) (done : List InsV) (w : World) : Prop where
  ps : PS W X R N D F C l bad vs w
  two : Two2 (C + 1) M kv ks iv is w
  own : w.ownsRow M 33 3 bv done.length (insCells done)
  size : M ≤ w.heap.size
section
variable {W : World} {X R N D F C M : Nat} {l : List Int} {bad : Bool} {vs : List Value} {kv iv bv : Value} {ks is : List Int} {done : List InsV} {w : World} (hne : R < N ∧ N < D ∧ D < F ∧ F < C ∧ X < R ∧ W.heap.size ≤ X) (hM : C < M)
include hne hM
theorem QS.call (h : QS W X R N D F C M l bad vs kv ks iv is bv done w) : Calls Try.prog 52 #[.pointer (some ⟨N, 0, none⟩), .pointer (some ⟨D, 0, none⟩)] w fun e w' => e = .returned (.int .i64 (rdN l)) ∧ QS W X R N D F C M (rdL l) (bad || rdB l) vs kv ks iv is bv done w' := by
  refine (read_any h.ps.rd).mono ?_
  rintro e w' ⟨rfl, h1, ht⟩
  exact ⟨rfl, ⟨h1, h.ps.box.two ht (by omega) (by omega), two_block ht (by omega) (by omega) h.ps.blk⟩, h.two.two ht (by omega) (by omega), ht.row' h.own (by omega) (by omega), Nat.le_trans h.size ht.size⟩
theorem QS.append {bv' : Value} {done' : List InsV} {w' : World} {o : Obj} (h : QS W X R N D F C M l bad vs kv ks iv is bv done w) (hg : (w.alloc o).grownBy w' bv.ownBlock) (ho : w'.ownsRow M 33 3 bv' done'.length (insCells done')) : QS W X R N D F C M l bad vs kv ks iv is bv' done' w' := by
  have hb : Below M w w' := below_grown (base := M) (Below.alloc (Below.refl _ _) h.size _) (Nat.le_refl _) (by have := h.size; simp; omega) (h.own.alloc _) hg
  exact ⟨⟨h.ps.rd.below hb (by omega) (by omega) (by omega) (by omega) (by omega), h.ps.box.below hb hM, by rw [Below.block hb X (by omega)]; exact h.ps.blk⟩, h.two.below hb, ho, Nat.le_trans h.size hb.size⟩
end
theorem QS.drew {W : World} {X R N D F C M : Nat} {l : List Int} {bad : Bool} {vs : List Value} {kv iv bv : Value} {ks is : List Int} {done : List InsV} {w : World} (h : QS W X R N D F C M l bad vs kv ks iv is bv done w) : QS W X R N D F C M l bad vs kv ks iv is bv done w.drew :=
  ⟨h.ps.drew, h.two.ext (Ext.refl w).drew, ownsRow_ext h.own (Ext.refl w).drew, h.size⟩
end Go.Proofs.Ytipfcfaigbeakaa

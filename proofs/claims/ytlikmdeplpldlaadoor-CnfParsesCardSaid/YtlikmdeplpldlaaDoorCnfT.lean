/-
  A formula's text, and what the walk of Text keeps.
  No condition.
-/
import Derived.RangeFuncBox
import Derived.Laws.IdiomStrings
import Derived.Lib.ItoaLen
import Derived.Lib.AppendIntMem
import Derived.Lib.LaidTab
import Derived.Lib.SlBytesConst
import Derived.Test.YtlikmdeplpldlaaDoorShAJ
import Derived.Test.YtlikmdeplpldlaaDoorCnfK
namespace Go.Proofs.YtlikmdeplpldlaaDoor
open Go.RowKit
set_option linter.unusedSimpArgs false
set_option linter.unusedVariables false
set_option maxRecDepth 100000

/-- A literal, a clause, the head, the text. -/
def litB (l : Int) : List UInt8 := Lib.itoa l ++ [32]
def clB (c : List Int) : List UInt8 := c.flatMap litB ++ [48, 10]
def headB (x : Int) (n : Nat) : List UInt8 := [112, 32, 99, 110, 102, 32] ++ Lib.itoa x ++ [32] ++ Lib.itoa n ++ [10]
def textF (x : Int) (rs : List (List Int)) : List UInt8 := headB x rs.length ++ rs.flatMap clB
theorem itoa_le {l : Int} (h0 : -1000000 ≤ l) (h1 : l ≤ 1000000) : (Lib.itoa l).length ≤ 21 := Lib.itoa_length_le l (by omega) (by omega)
theorem litsB_le : ∀ {c : List Int}, (∀ l ∈ c, -1000000 ≤ l ∧ l ≤ 1000000) → (c.flatMap litB).length ≤ 22 * c.length
  | [], _ => by simp
  | l :: c, h => by
    have := litsB_le (c := c) fun x hx => h x (by simp [hx])
    have := itoa_le (h l (by simp)).1 (h l (by simp)).2
    simp only [List.flatMap_cons, List.length_append, litB, List.length_cons, List.length_nil]
    omega
theorem headB_le {x : Int} {n : Nat} (h0 : -1000000 ≤ x) (h1 : x ≤ 1000000) (hn : n ≤ 1000000) : (headB x n).length ≤ 50 := by
  have := itoa_le h0 h1
  have := itoa_le (l := (n : Int)) (by omega) (by omega)
  unfold headB
  simp only [List.length_append, List.length_cons, List.length_nil]
  omega
theorem flat_le {α : Type} {f : α → List UInt8} {K : Nat} (h : ∀ a, (f a).length ≤ K) : ∀ l : List α, (l.flatMap f).length ≤ l.length * K
  | [] => by simp
  | a :: l => by
    have := flat_le h l
    have := h a
    rw [List.flatMap_cons, List.length_append, List.length_cons, Nat.add_mul, Nat.one_mul]
    omega
theorem fins_flat (rs : List (List Int)) : (List.finRange rs.length).flatMap (fun i => clB (rs.getD i.1 [])) = rs.flatMap clB := by
  have e : (List.finRange rs.length).map (fun i => rs.getD i.1 []) = rs := by
    apply List.ext_getElem
    · simp
    · intro i h1 h2
      simp [List.getD_eq_getElem?_getD, List.getElem?_eq_getElem h2]
  rw [← List.flatMap_map (f := fun i : Fin rs.length => rs.getD i.1 []) (g := clB), e]
/-- What the walk of Text keeps: the formula's box, the text's box, the text so far. -/
structure TxS (W : World) (A T : Nat) (x : Int) (cv v : Value) (bs : List UInt8) (w : World) : Prop where
  ext : Ext W w
  bx : w.heap[A]? = some (.cells #[.int .i64 x, cv] 24 (0, 0))
  box : Boxed w T 64 v
  own : w.ownsRow W.heap.size 5 1 v bs.length (Lib.byteCells bs)
  nA : W.heap.size ≤ A
  nT : W.heap.size ≤ T
  AT : A ≠ T
/-- One step's yield. -/
def TxN (W : World) (A T : Nat) (x : Int) (cv v v' : Value) (bs : List UInt8) (w w' : World) : Prop :=
  Boxed w' T 64 v ∧ TxS W A T x cv v' bs (w'.setCell ⟨T, 0, none⟩ v') ∧ KeepsOthers w (w'.setCell ⟨T, 0, none⟩ v') ∧ Below W.heap.size w (w'.setCell ⟨T, 0, none⟩ v')
section
variable {W w w' : World} {A T : Nat} {x : Int} {cv v v' : Value} {bs cs : List UInt8}
theorem TxS.cell0 (h : TxS W A T x cv v bs w) : w.cell? ⟨A, 0, none⟩ = some (.int .i64 x) := by simp [World.cell?, h.bx]
theorem TxS.cell1 (h : TxS W A T x cv v bs w) : w.cell? ⟨A, 1, none⟩ = some cv := by simp [World.cell?, h.bx]
theorem TxS.ltA (h : TxS W A T x cv v bs w) : A < w.heap.size := (Array.getElem?_eq_some_iff.1 h.bx).1
theorem TxS.next (h : TxS W A T x cv v bs w) (hx : Ext w w') : TxS W A T x cv v bs w' :=
  { h with ext := h.ext.trans hx, bx := ext_block hx h.bx, box := ext_block hx h.box, own := ownsRow_ext h.own hx }
theorem TxS.notA (h : TxS W A T x cv v bs w) : v.ownBlock ≠ some A := fun e => by
  rcases h.own.2 with ⟨rfl, _⟩ | ⟨g, cap, cur, rfl, _, hgb, _⟩
  · simp [Value.ownBlock] at e
  · obtain rfl : g = A := by simpa [Value.ownBlock] using e
    have := h.bx.symm.trans hgb
    simp at this
/-- Behind an append of bytes. -/
theorem TxS.app (h : TxS W A T x cv v bs w) {tmp : Obj} (hown : w'.ownsRow W.heap.size 5 1 v' (bs.length + cs.length) (Lib.byteCells bs ++ Lib.byteCells cs)) (hg : (w.alloc tmp).grownBy w' v.ownBlock) : TxN W A T x cv v v' (bs ++ cs) w w' := by
  obtain ⟨b1, b2, b3, b4, b5⟩ := Boxed.appended h.box (by decide) h.own h.ext.size h.nT hown hg
  refine ⟨b1, ⟨Below.trans h.ext b5, ?_, b2, ?_, h.nA, h.nT, h.AT⟩, b4, b5⟩
  · rw [Below.heap_setCell _ _ _ _ (fun e => h.AT e)]
    rw [hg.block A (by have := h.ltA; rw [World.size_alloc]; omega) (Ne.symm h.notA)]
    exact ext_block ((Ext.refl w).alloc tmp) h.bx
  · rw [List.length_append, Lib.byteCells_append]; exact b3
/-- Behind a number. -/
theorem TxS.num (h : TxS W A T x cv v bs w) (hown : w'.ownsRow W.heap.size 5 1 v' (bs.length + cs.length) (Lib.byteCells bs ++ Lib.byteCells cs)) (hB : Below W.heap.size w w') (hK : Lib.OthersKept 5 none w w') : TxN W A T x cv v v' (bs ++ cs) w w' := by
  have b1 : Boxed w' T 64 v := hK T _ h.box (by simp) (by intro c fz e; simp at e)
  have hA := hK A _ h.bx (by simp) (by intro c fz e; simp at e)
  have hb : Below W.heap.size w (w'.setCell ⟨T, 0, none⟩ v') := hB.setCell (p := ⟨T, 0, none⟩) h.nT _
  refine ⟨b1, ⟨Below.trans h.ext hb, ?_, b1.set v', ?_, h.nA, h.nT, h.AT⟩, ?_, hb⟩
  · rw [Below.heap_setCell _ _ _ _ (fun e => h.AT e)]; exact hA
  · rw [List.length_append, Lib.byteCells_append]; exact hown.kept (grownBy_setCell' w' T v') (.inr (b1.not_row (by decide) hown).symm)
  · exact (KeepsOthers.mk hB.size fun k o hk ho => hK k o hk (by simp) (fun c fz e => by subst e; simp [Obj.isCells] at ho)).trans (KeepsOthers.setCell _ _ _)
/-- The call that tells a number. -/
theorem TxS.callInt (h : TxS W A T x cv v bs w) (htab : Lib.TabIs Tryd.prog W "internal/strconv.uint64pow10" .u64 Lib.pow10Tab) (i : Int) (h0 : -1000000 ≤ i) (h1 : i ≤ 1000000) (hl : bs.length ≤ 100000000000000) :
    Calls Tryd.prog 34 #[v, .int .i64 i, .int .i64 10] w fun e w' => ∃ a m c, e = .returned (.slice a m c) ∧ Hid (TxN W A T x cv v (.slice a m c) (bs ++ Lib.itoa i) w w') := by
  refine (appendInt_laid W.heap.size bs.length i (by omega) (by omega) v (Lib.byteCells bs) w h.own h.ext.size (by omega) ((Lib.tabBelow_of_tabIs htab).on h.ext)).mono ?_
  rintro e w' ⟨v', rfl, hown, hB, hK⟩
  obtain ⟨a, m, c, rfl⟩ := own_slice3 hown
  exact ⟨a, m, c, rfl, Lib.hid (h.num hown hB hK)⟩
/-- The step that appends bytes. -/
theorem TxS.stepApp {F : Fence} {n : Nat} {ops : Array Oper} {rest : List Oper} {o : Oper} {a : Act} {Q : Exit → Act → World → Prop} (hgd : o.guard = none) (s y : Operand) (ho : o.op = .call { callee := .builtin .append, args := #[s, y], argTypes := #[64, 64] })
    (h : TxS W A T x cv v bs w) (hs : a.eval s = v) (cs : List UInt8) (arr : Array Value) (harr : arr.toList = Lib.byteCells cs) (nb : Nat) (hnb : nb = w.heap.size) (m : Nat) (hm : m = cs.length) (hy : a.eval y = .slice (some ⟨nb, 0, none⟩) m m) (hl : bs.length + cs.length ≤ 140000000000000)
    (hK : ∀ b k c w', Hid (TxN W A T x cv v (.slice b k c) (bs ++ cs) w w') → wpListIn F n Tryd.prog ops Q rest (a.put o.dst (.slice b k c)) w') : wpListIn F n Tryd.prog ops Q (o :: rest) a (w.alloc (.cells arr 5)) := by
  obtain ⟨i0, hi, hz0, hz1, hz2⟩ := info_parts infoByte
  refine wpListIn_append_own _ hgd s y 64 ho W.heap.size 5 i0 (.int .u8 0) 1 1 Tryd.underlying64 hi hz0 hz1 hz2 rfl (by decide) v bs.length (Lib.byteCells bs) hs (h.own.alloc _) ⟨nb, 0, none⟩ m m arr.toList hy (by rw [harr, Lib.byteCells_length, hm, Nat.mul_one]) (cell_alloc_list w arr _ nb hnb) (by rw [harr]; exact Lib.byteCells_one _) (by unfold maxLen; omega) (by omega) (by have := h.ext.size; rw [World.size_alloc]; omega) ?_
  intro v' w' hown hg _
  obtain ⟨b, k, c, rfl⟩ := own_slice3 hown
  rw [harr, hm] at hown
  exact hK b k c w' (Lib.hid (h.app hown hg))
/-- The first number. -/
theorem TxS.first {v0 : Value} (hE : Ext W w) (bx : w.heap[A]? = some (.cells #[.int .i64 x, cv] 24 (0, 0))) (box : Boxed w T 64 v0) (nA : W.heap.size ≤ A) (nT : W.heap.size ≤ T) (AT : A ≠ T) (hx : Ext w w') {k : Nat} (hown : w'.ownsRow w.heap.size 5 1 v k (Lib.byteCells bs)) (hk : k = bs.length) :
    Boxed w' T 64 v0 ∧ TxS W A T x cv v bs (w'.setCell ⟨T, 0, none⟩ v) := by
  subst hk
  have b1 : Boxed w' T 64 v0 := ext_block hx box
  refine ⟨b1, (hE.trans hx).setCell (p := ⟨T, 0, none⟩) nT _, ?_, b1.set v, (ownsRow_base hown hE.size).kept (grownBy_setCell' w' T v) (.inr (b1.not_row (by decide) hown).symm), nA, nT, AT⟩
  rw [Below.heap_setCell _ _ _ _ (fun e => AT e)]
  exact ext_block hx bx
theorem TxS.own' {B' : Nat} (hB : W.heap.size ≤ B') {β : Type} (f : β → List UInt8) : OwnFrom B' (fun s w => ∃ b k c, TxS W A T x cv (.slice b k c) (f s) w) := by
  rintro s X Y row ⟨b, k, c, h⟩ hg hr
  have hk : Kb row.toList X Y := Kb.grown hg (fun g e => Option.mem_toList.2 e)
  have hne : ∀ g o, X.heap[g]? = some o → o.isCells = true → g ∉ row.toList := fun g o ho hc hm => by
    obtain ⟨_, o', ho', hc'⟩ := hr g (Option.mem_toList.1 hm)
    rw [ho] at ho'; cases ho'; rw [hc] at hc'; cases hc'
  refine ⟨b, k, c, { h with ext := hk.ext h.ext (fun g e => Nat.le_trans hB (hr g (Option.mem_toList.1 e)).1), bx := hk.heap (hne A _ h.bx rfl) h.bx, box := hk.heap (hne T _ h.box rfl) h.box, own := hk.row h.own ?_ }⟩
  intro g hg1 e
  rcases h.own.2 with ⟨e1, _⟩ | ⟨g', cap, cur, e1, _, hgb, _⟩
  · rw [e1] at e; simp [Value.ownBlock] at e
  · rw [e1] at e
    obtain rfl : g' = g := by simpa [Value.ownBlock] using e
    exact hne g' _ hgb rfl hg1
/-- Between two rounds. -/
def preB (rs : List (List Int)) (pre : List (Fin rs.length)) : List UInt8 := pre.flatMap (fun i => clB (rs.getD i.1 []))
def TxI (W : World) (A T : Nat) (x : Int) (cv : Value) (hd : List UInt8) (rs : List (List Int)) (pre : List (Fin rs.length)) (w : World) : Prop := ∃ b k c, TxS W A T x cv (.slice b k c) (hd ++ preB rs pre) w
theorem txI_own {B' : Nat} (hB : W.heap.size ≤ B') (hd : List UInt8) (rs : List (List Int)) : OwnFrom B' (TxI W A T x cv hd rs) := TxS.own' hB (fun pre => hd ++ preB rs pre)
theorem preB_snoc (rs : List (List Int)) (pre : List (Fin rs.length)) (i : Fin rs.length) : preB rs (pre ++ [i]) = preB rs pre ++ clB (rs.getD i.1 []) := by unfold preB; rw [List.flatMap_append, List.flatMap_cons, List.flatMap_nil, List.append_nil]
end
end Go.Proofs.YtlikmdeplpldlaaDoor

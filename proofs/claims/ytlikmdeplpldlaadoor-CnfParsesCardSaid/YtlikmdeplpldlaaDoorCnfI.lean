/-
  The range over clauses as its callers meet it.
  Conditions: the formula lies in memory.
-/
import Derived.Test.YtlikmdeplpldlaaDoorCnfD
import Derived.Test.YtlikmdeplpldlaaDoorCnfH
namespace Go.Proofs.YtlikmdeplpldlaaDoor
open Go.RowKit Go.Shelf
set_option linter.unusedSimpArgs false
set_option linter.unusedVariables false
set_option maxRecDepth 100000

theorem clauses_stops (F : Fence) (n : Nat) (hf : F.fn 39) (hro : F.round = none) (hn : 1 ≤ n) (Bs : Nat) (cv : Value) (vs : List Value) (rs : List (List Int)) (w0 w : World) (hr : RowsIn w0 cv vs rs) (hN : rs.length ≤ 1000000) (hx : Ext w0 w) (hBs : Bs < w.heap.size) (hcell : w.cell? ⟨Bs, 1, none⟩ = some cv) :
    SeqStopsK F n Tryd.prog 39 #[.pointer (some ⟨Bs, 0, none⟩)] (fun i : Fin rs.length => #[vs.getD i.1 (.slice none 0 0)]) (Below w0.heap.size) (fun ys => ys = List.finRange rs.length) (fun pre => pre <+: List.finRange rs.length) rs.length w := fun l J Jx W hW _ _ hY h0 => by
  obtain ⟨a, cap, rfl, -, -, hc⟩ := hr.top
  refine cl1_in F n hf hro hn l Bs w0.heap.size a rs.length cap vs hr.len hN J Jx hY W ((hW.cell (p := ⟨Bs, 1, none⟩) hBs).trans hcell) (fun j u hu => ?_) h0
  obtain ⟨b, o, e1, e2⟩ := hc j u hu
  have hb := World.block_lt_of_cell? w0 _ e2
  exact ⟨b, o, e1, hb, (hW.cell (p := ⟨b, o + j, none⟩) (Nat.lt_of_lt_of_le hb hx.size)).trans (hx.cell e2)⟩
/-- What a call that makes memory keeps. -/
theorem others_ext {w w' : World} (h : Ext w w') : KeepsOthers w w' := ⟨h.size, fun k o hk _ => (Below.block h k (Array.getElem?_eq_some_iff.1 hk).1).trans hk⟩
end Go.Proofs.YtlikmdeplpldlaaDoor

/-
  More steps of the walk: an append onto a slice that is full.
  No condition.
-/
import Derived.Test.YtkjgghbdpmkmoaaKit
import Derived.ArgAppend
namespace Go.Proofs.Ytkjgghbdpmkmoaa
open Go.RowKit
set_option linter.unusedSimpArgs false
set_option linter.unusedVariables false
set_option maxRecDepth 100000

/-- 'append(s[:len(s):len(s)], x, ..)': the slice is full, so its cells move to a block of their own. -/
theorem wpList_grow_lit {P : Program} {ops : Array Oper} {rest : List Oper} {o : Oper} {a : Act} {wr : World} {Q : Exit → Act → World → Prop} (hgd : o.guard = none) (s x : Operand) (t e : TypeId)
    (ho : o.op = .call { callee := .builtin .append, args := #[s, x], argTypes := #[t, t] }) (z : Value) (size bytes : Nat) (ht : P.underlying t = some (.slice e))
    (hinfo : (P.info? e).map (fun i => (i.zero, i.size, i.bytes)) = some (some z, size, bytes)) (hzs : z.cells.size = size) (hsz : 0 < size)
    (ao : Option Addr) (n : Nat) (olds : List Value) (hs : a.eval s = .slice ao n n) (hnone : ao = none → n = 0) (hlo : olds.length = n * size) (holds : ∀ b, ao = some b → ∀ j u, olds[j]? = some u → wr.cell? (b.add j) = some u)
    (m c nb : Nat) (news : Array Value) (hx : a.eval x = .slice (some ⟨nb, 0, none⟩) m c) (hnb : nb = wr.heap.size) (hl : news.size = m * size) (h1 : news.all (·.oneCell') = true) (hm : 0 < m)
    (h63 : n + m ≤ maxLen) (hbytes : (n + m) * bytes ≤ 140737488355328)
    (h : ∀ v' w', w'.ownsRow wr.heap.size e size v' (n + m) (olds ++ news.toList) → Ext wr w' → wpList P ops Q rest (a.put o.dst v') w') :
    wpList P ops Q (o :: rest) a (wr.alloc (.cells news e)) := by
  obtain ⟨i0, hi, hz0, hz1, hz2⟩ := info_parts hinfo
  refine wpList_append_grows _ hgd s x t ho e i0 z size bytes ht hi hz0 hz1 hz2 hzs hsz ao n n olds hs (fun h0 => ⟨hnone h0, hnone h0⟩) hlo (fun b hb j u hu => ?_) ⟨nb, 0, none⟩ m c news.toList hx (by simpa using hl) (cell_alloc_list _ _ _ _ hnb)
    (fun u hu => (Array.all_eq_true_iff_forall_mem.1 h1) u (by simpa using hu)) (by omega) h63 hbytes ?_
  · exact ((Ext.refl wr).alloc _).cell (holds b hb j u hu)
  · intro v' w' hown' hg
    refine h v' w' (ownsRow_base hown' (by simp)) ?_
    exact Below.grown ((Ext.refl wr).alloc _) hg (by simp) (fun k hk => by simp at hk)
end Go.Proofs.Ytkjgghbdpmkmoaa

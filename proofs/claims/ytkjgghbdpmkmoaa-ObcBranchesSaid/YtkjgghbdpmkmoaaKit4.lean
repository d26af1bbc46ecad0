/-
  More steps of the walk: an append of whatever slice is read onto a slice that is full.
  No condition.
-/
import Derived.Test.YtkjgghbdpmkmoaaKit2
import Derived.Test.YtkjgghbdpmkmoaaKit3
namespace Go.Proofs.Ytkjgghbdpmkmoaa
open Go.RowKit
set_option linter.unusedSimpArgs false
set_option linter.unusedVariables false
set_option maxRecDepth 100000

/-- 'append(s, x...)' onto a full slice, x any slice that holds something: its cells move to a block of their own. -/
theorem wpList_grow_slc {P : Program} {ops : Array Oper} {rest : List Oper} {o : Oper} {a : Act} {wr : World} {Q : Exit → Act → World → Prop} (hgd : o.guard = none) (s x : Operand) (t e : TypeId)
    (ho : o.op = .call { callee := .builtin .append, args := #[s, x], argTypes := #[t, t] }) (z : Value) (size bytes : Nat) (ht : P.underlying t = some (.slice e))
    (hinfo : (P.info? e).map (fun i => (i.zero, i.size, i.bytes)) = some (some z, size, bytes)) (hzs : z.cells.size = size) (hsz : 0 < size)
    (ao : Option Addr) (n : Nat) (olds : List Value) (hs : a.eval s = .slice ao n n) (hnone : ao = none → n = 0) (hlo : olds.length = n * size) (holds : ∀ b, ao = some b → ∀ j u, olds[j]? = some u → wr.cell? (b.add j) = some u)
    (xv : Value) (m : Nat) (news : List Value) (hxv : a.eval x = xv) (hx : SlC wr xv m news) (hl : news.length = m * size) (h1 : ∀ u ∈ news, u.oneCell' = true) (hm : 0 < m)
    (h63 : n + m ≤ maxLen) (hbytes : (n + m) * bytes ≤ 140737488355328)
    (h : ∀ v' w', w'.ownsRow wr.heap.size e size v' (n + m) (olds ++ news) → Ext wr w' → wpList P ops Q rest (a.put o.dst v') w') :
    wpList P ops Q (o :: rest) a wr := by
  obtain ⟨i0, hi, hz0, hz1, hz2⟩ := info_parts hinfo
  rcases slc_nil hx hl hsz with ⟨ad, c, rfl, hcells⟩ | ⟨c, rfl, rfl, rfl⟩
  · refine wpList_append_grows _ hgd s x t ho e i0 z size bytes ht hi hz0 hz1 hz2 hzs hsz ao n n olds hs (fun h0 => ⟨hnone h0, hnone h0⟩) hlo (fun b hb j u hu => holds b hb j u hu) ad m c news hxv hl hcells h1 (by omega) h63 hbytes ?_
    intro v' w' hown' hg
    exact h v' w' (ownsRow_base hown' (by simp)) (Below.grown (Ext.refl wr) hg (by simp) (fun k hk => by simp at hk))
  · omega
end Go.Proofs.Ytkjgghbdpmkmoaa

/-
  Step code and its expressions as they lie in memory.
  No condition.
-/
import Derived.Test.YtkjgghbdpmkmoaaObPlain
import Derived.Test.YtkjgghbdpmkmoaaGen
namespace Go.Proofs.Ytkjgghbdpmkmoaa
open Go.RowKit
set_option linter.unusedSimpArgs false
set_option linter.unusedVariables false
set_option maxRecDepth 100000

/-- The cells of an expression whose kids are shown by kv. -/
def eCell (e : CE) (kv : Value) : List Value := [.int .i64 e.form, .int .i64 e.sub, .int .i64 e.kind, .int .i64 e.n, .string e.name, kv]
def eCells : List CE → List Value → List Value
  | k :: ks, v :: vs => eCell k v ++ eCells ks vs
  | _, _ => []
/-- An expression as a value. -/
def eVal (e : CE) (kv : Value) : Value := .agg #[.int .i64 e.form, .int .i64 e.sub, .int .i64 e.kind, .int .i64 e.n, .string e.name, kv]
mutual
/-- The kids of an expression in memory. -/
def KIn (w : World) : CE → Value → Prop
  | .mk _ _ _ _ _ ks, kv => ∃ kvs, SlC w kv ks.length (eCells ks kvs) ∧ KsIn w ks kvs
def KsIn (w : World) : List CE → List Value → Prop
  | [], kvs => kvs = []
  | k :: ks, kvs => ∃ v vs, kvs = v :: vs ∧ KIn w k v ∧ KsIn w ks vs
end
mutual
theorem KIn.ext {w w' : World} (hx : Ext w w') : ∀ (e : CE) (v : Value), KIn w e v → KIn w' e v
  | .mk _ _ _ _ _ ks, v, h => by
    unfold KIn at h ⊢
    obtain ⟨kvs, h1, h2⟩ := h
    exact ⟨kvs, h1.ext hx, KsIn.ext hx ks kvs h2⟩
theorem KsIn.ext {w w' : World} (hx : Ext w w') : ∀ (ks : List CE) (kvs : List Value), KsIn w ks kvs → KsIn w' ks kvs
  | [], _, h => by unfold KsIn at h ⊢; exact h
  | k :: ks, kvs, h => by
    unfold KsIn at h ⊢
    obtain ⟨v, vs, e, h1, h2⟩ := h
    exact ⟨v, vs, e, KIn.ext hx k v h1, KsIn.ext hx ks vs h2⟩
end
theorem KIn.kids {w : World} {e : CE} {v : Value} (h : KIn w e v) : ∃ kvs, SlC w v e.kids.length (eCells e.kids kvs) ∧ KsIn w e.kids kvs := by
  cases e with
  | mk f s k n nm ks => unfold KIn at h; exact h
theorem KIn.of {w : World} {e : CE} {v : Value} {kvs : List Value} (h1 : SlC w v e.kids.length (eCells e.kids kvs)) (h2 : KsIn w e.kids kvs) : KIn w e v := by
  cases e with
  | mk f s k n nm ks => unfold KIn; exact ⟨kvs, h1, h2⟩
theorem KsIn.at {w : World} : ∀ {ks : List CE} {kvs : List Value} {i : Nat} {k : CE}, KsIn w ks kvs → ks[i]? = some k → ∃ v, KIn w k v ∧ ∀ c u, (eCell k v)[c]? = some u → (eCells ks kvs)[i * 6 + c]? = some u
  | [], _, _, _, _, h => by simp at h
  | x :: ks, kvs, 0, k, h, hk => by
    unfold KsIn at h
    obtain ⟨v, vs, rfl, h1, h2⟩ := h
    simp at hk
    subst hk
    refine ⟨v, h1, fun c u hu => ?_⟩
    rw [eCells, Nat.zero_mul, Nat.zero_add, List.getElem?_append_left]
    · exact hu
    · exact (List.getElem?_eq_some_iff.1 hu).1
  | x :: ks, kvs, i + 1, k, h, hk => by
    unfold KsIn at h
    obtain ⟨v, vs, rfl, h1, h2⟩ := h
    obtain ⟨v', g1, g2⟩ := KsIn.at h2 (by simpa using hk)
    refine ⟨v', g1, fun c u hu => ?_⟩
    have hl : (eCell x v).length = 6 := rfl
    rw [eCells, List.getElem?_append_right (by rw [hl]; omega), hl, show (i + 1) * 6 + c - 6 = i * 6 + c by omega]
    exact g2 c u hu
/-- A kid's six cells, its slice of kids. -/
theorem KIn.at {w : World} {e : CE} {p : Option Addr} {m c : Nat} {i : Nat} {k : CE} (h : KIn w e (.slice p m c)) (hk : e.kids[i]? = some k) : m = e.kids.length ∧ m ≤ c ∧ c ≤ maxLen ∧ ∃ b o kv, p = some ⟨b, o, none⟩ ∧ KIn w k kv ∧ w.cell? ⟨b, o + i * 6, none⟩ = some (.int .i64 k.form) ∧ w.cell? ⟨b, o + i * 6 + 1, none⟩ = some (.int .i64 k.sub) ∧ w.cell? ⟨b, o + i * 6 + 2, none⟩ = some (.int .i64 k.kind) ∧ w.cell? ⟨b, o + i * 6 + 3, none⟩ = some (.int .i64 k.n) ∧ w.cell? ⟨b, o + i * 6 + 4, none⟩ = some (.string k.name) ∧ w.cell? ⟨b, o + i * 6 + 5, none⟩ = some kv ∧ b < w.heap.size := by
  obtain ⟨kvs, h1, h2⟩ := h.kids
  obtain ⟨v, g1, g2⟩ := h2.at hk
  obtain ⟨a', c', e1, h3, h4, h5⟩ := h1
  simp only [Value.slice.injEq] at e1
  obtain ⟨rfl, rfl, rfl⟩ := e1
  obtain ⟨b, o, rfl, c0⟩ := h5 _ _ (g2 0 _ rfl)
  have hh : ∀ c u, (eCell k v)[c]? = some u → w.cell? ⟨b, o + (i * 6 + c), none⟩ = some u := fun c u hu => by
    obtain ⟨b', o', e2, h6⟩ := h5 _ _ (g2 c u hu)
    simp only [Option.some.injEq, Addr.mk.injEq] at e2
    obtain ⟨rfl, rfl, -⟩ := e2
    exact h6
  rw [Nat.add_zero] at c0
  have hh : ∀ c u, (eCell k v)[c]? = some u → w.cell? ⟨b, o + i * 6 + c, none⟩ = some u := fun c u hu => by rw [Nat.add_assoc]; exact hh c u hu
  exact ⟨rfl, h3, h4, b, o, v, rfl, g1, c0, hh 1 _ rfl, hh 2 _ rfl, hh 3 _ rfl, hh 4 _ rfl, hh 5 _ rfl, World.block_lt_of_cell? w _ c0⟩
theorem KIn.slice {w : World} {e : CE} {v : Value} (h : KIn w e v) : ∃ p c, v = .slice p e.kids.length c ∧ e.kids.length ≤ c ∧ c ≤ maxLen := by
  obtain ⟨kvs, h1, -⟩ := h.kids
  obtain ⟨a, c, e1, h2, h3, -⟩ := h1
  exact ⟨a, c, e1, h2, h3⟩
end Go.Proofs.Ytkjgghbdpmkmoaa

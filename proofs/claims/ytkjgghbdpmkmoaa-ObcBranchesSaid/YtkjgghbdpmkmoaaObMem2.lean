/-
  Statements as they lie in memory.
  No condition.
-/
import Derived.Test.YtkjgghbdpmkmoaaObMem
namespace Go.Proofs.Ytkjgghbdpmkmoaa
open Go.RowKit
set_option linter.unusedSimpArgs false
set_option linter.unusedVariables false
set_option maxRecDepth 100000

/-- The slices of a statement: its expression's kids, then, else. -/
structure S3 where
  kv : Value
  tv : Value
  ev : Value
/-- The cells of a statement. -/
def sCell (s : ST) (x : S3) : List Value := [.int .i64 s.form, .string s.name] ++ eCell s.e x.kv ++ [x.tv, x.ev]
def sCells : List ST → List S3 → List Value
  | s :: ss, x :: xs => sCell s x ++ sCells ss xs
  | _, _ => []
/-- A statement as a value. -/
def sVal (s : ST) (x : S3) : Value := .agg #[.int .i64 s.form, .string s.name, .int .i64 s.e.form, .int .i64 s.e.sub, .int .i64 s.e.kind, .int .i64 s.e.n, .string s.e.name, x.kv, x.tv, x.ev]
mutual
def SIn (w : World) : ST → S3 → Prop
  | .mk _ _ e t l, x => KIn w e x.kv ∧ (∃ xs, SlC w x.tv t.length (sCells t xs) ∧ SsIn w t xs) ∧ (∃ xs, SlC w x.ev l.length (sCells l xs) ∧ SsIn w l xs)
def SsIn (w : World) : List ST → List S3 → Prop
  | [], xs => xs = []
  | s :: ss, xs => ∃ y ys, xs = y :: ys ∧ SIn w s y ∧ SsIn w ss ys
end
/-- Statements that a slice shows. -/
def BIn (w : World) (v : Value) (l : List ST) : Prop := ∃ xs, SlC w v l.length (sCells l xs) ∧ SsIn w l xs
mutual
theorem SIn.ext {w w' : World} (hx : Ext w w') : ∀ (s : ST) (x : S3), SIn w s x → SIn w' s x
  | .mk _ _ e t l, x, h => by
    unfold SIn at h ⊢
    obtain ⟨h1, ⟨ys, h2, h3⟩, ⟨zs, h4, h5⟩⟩ := h
    exact ⟨KIn.ext hx e _ h1, ⟨ys, h2.ext hx, SsIn.ext hx t ys h3⟩, ⟨zs, h4.ext hx, SsIn.ext hx l zs h5⟩⟩
theorem SsIn.ext {w w' : World} (hx : Ext w w') : ∀ (ss : List ST) (xs : List S3), SsIn w ss xs → SsIn w' ss xs
  | [], _, h => by unfold SsIn at h ⊢; exact h
  | s :: ss, xs, h => by
    unfold SsIn at h ⊢
    obtain ⟨y, ys, e, h1, h2⟩ := h
    exact ⟨y, ys, e, SIn.ext hx s y h1, SsIn.ext hx ss ys h2⟩
end
theorem BIn.ext {w w' : World} {v : Value} {l : List ST} (h : BIn w v l) (hx : Ext w w') : BIn w' v l := by
  obtain ⟨xs, h1, h2⟩ := h
  exact ⟨xs, h1.ext hx, SsIn.ext hx l xs h2⟩
theorem SIn.parts {w : World} {s : ST} {x : S3} (h : SIn w s x) : KIn w s.e x.kv ∧ BIn w x.tv s.thn ∧ BIn w x.ev s.els := by
  cases s with
  | mk f nm e t l => unfold SIn at h; exact h
theorem SsIn.at {w : World} : ∀ {ss : List ST} {xs : List S3} {i : Nat} {s : ST}, SsIn w ss xs → ss[i]? = some s → ∃ x, SIn w s x ∧ ∀ c u, (sCell s x)[c]? = some u → (sCells ss xs)[i * 10 + c]? = some u
  | [], _, _, _, _, h => by simp at h
  | y :: ss, xs, 0, s, h, hs => by
    unfold SsIn at h
    obtain ⟨v, vs, rfl, h1, h2⟩ := h
    simp at hs
    subst hs
    refine ⟨v, h1, fun c u hu => ?_⟩
    rw [sCells, Nat.zero_mul, Nat.zero_add, List.getElem?_append_left]
    · exact hu
    · exact (List.getElem?_eq_some_iff.1 hu).1
  | y :: ss, xs, i + 1, s, h, hs => by
    unfold SsIn at h
    obtain ⟨v, vs, rfl, h1, h2⟩ := h
    obtain ⟨v', g1, g2⟩ := SsIn.at h2 (by simpa using hs)
    refine ⟨v', g1, fun c u hu => ?_⟩
    have hl : (sCell y v).length = 10 := rfl
    rw [sCells, List.getElem?_append_right (by rw [hl]; omega), hl, show (i + 1) * 10 + c - 10 = i * 10 + c by omega]
    exact g2 c u hu
theorem BIn.slice {w : World} {v : Value} {l : List ST} (h : BIn w v l) : ∃ p c, v = .slice p l.length c ∧ l.length ≤ c ∧ c ≤ maxLen := by
  obtain ⟨xs, h1, -⟩ := h
  obtain ⟨a, c, e1, h2, h3, -⟩ := h1
  exact ⟨a, c, e1, h2, h3⟩
/-- A statement's ten cells. -/
theorem BIn.at {w : World} {l : List ST} {p : Option Addr} {m c i : Nat} {s : ST} (h : BIn w (.slice p m c) l) (hs : l[i]? = some s) : ∃ b o x, p = some ⟨b, o, none⟩ ∧ SIn w s x ∧ (∀ k u, (sCell s x)[k]? = some u → w.cell? ⟨b, o + i * 10 + k, none⟩ = some u) ∧ b < w.heap.size := by
  obtain ⟨xs, h1, h2⟩ := h
  obtain ⟨x, g1, g2⟩ := h2.at hs
  obtain ⟨a', c', e1, h3, h4, h5⟩ := h1
  simp only [Value.slice.injEq] at e1
  obtain ⟨rfl, rfl, rfl⟩ := e1
  obtain ⟨b, o, rfl, c0⟩ := h5 _ _ (g2 0 _ rfl)
  refine ⟨b, o, x, rfl, g1, fun k u hu => ?_, World.block_lt_of_cell? w _ c0⟩
  obtain ⟨b', o', e2, h6⟩ := h5 _ _ (g2 k u hu)
  simp only [Option.some.injEq, Addr.mk.injEq] at e2
  obtain ⟨rfl, rfl, -⟩ := e2
  rw [Nat.add_assoc]
  exact h6
end Go.Proofs.Ytkjgghbdpmkmoaa

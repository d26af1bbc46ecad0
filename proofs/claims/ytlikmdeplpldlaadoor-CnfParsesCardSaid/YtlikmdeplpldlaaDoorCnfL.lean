/-
  Rows of numbers that a call has made, one row behind the other, beside a few boxes of its own.
  No condition.
-/
import Derived.Test.YtlikmdeplpldlaaDoorCnfK
namespace Go.Proofs.YtlikmdeplpldlaaDoor
open Go.RowKit
set_option linter.unusedSimpArgs false
set_option linter.unusedVariables false
set_option maxRecDepth 100000

/-- Rows that are told: none of their blocks is one of S, none is their list's. -/
structure FR (W : World) (S : List Nat) (ov : Value) (vs : List Value) (os : List (List Int)) (w : World) : Prop where
  ext : Ext W w
  top : w.ownsRow W.heap.size 36 1 ov vs.length vs
  len : vs.length = os.length
  row : ∀ (j : Nat) (x : Value) (r : List Int), vs[j]? = some x → os[j]? = some r → w.ownsRow W.heap.size 3 1 x r.length (i64s r) ∧ ∀ b, x.ownBlock = some b → b ∉ S ∧ ov.ownBlock ≠ some b
  off : ∀ b, ov.ownBlock = some b → b ∉ S
section
variable {W w w' w2 : World} {ov ov2 : Value} {vs xs : List Value} {os rs : List (List Int)} {S T : List Nat}
theorem FR.rows (h : FR W S ov vs os w) : RowsIn w ov vs os :=
  ⟨by rw [← h.len]; exact SlC.of_owns h.top, h.len, fun j x r h1 h2 => SlC.of_owns (h.row j x r h1 h2).1⟩
theorem FR.kb (h : FR W S ov vs os w) (hk : Kb T w w') (hT : ∀ k ∈ T, k ∈ S) (hS : ∀ k ∈ S, W.heap.size ≤ k) : FR W S ov vs os w' :=
  ⟨hk.ext h.ext fun k hk1 => hS k (hT k hk1), hk.row h.top fun g hg e => h.off g e (hT g hg), h.len, fun j x r e1 e2 => by
    obtain ⟨a1, a2⟩ := h.row j x r e1 e2
    exact ⟨hk.row a1 fun g hg e => (a2 g e).1 (hT g hg), a2⟩, h.off⟩
theorem FR.next (h : FR W S ov vs os w) (hx : Ext w w') : FR W S ov vs os w' :=
  ⟨h.ext.trans hx, ownsRow_ext h.top hx, h.len, fun j x r e1 e2 => ⟨ownsRow_ext (h.row j x r e1 e2).1 hx, (h.row j x r e1 e2).2⟩, h.off⟩
theorem FR.mono (h : FR W S ov vs os w) (hT : ∀ k ∈ T, k ∈ S ∨ w.heap.size ≤ k) : FR W T ov vs os w :=
  ⟨h.ext, h.top, h.len, fun j x r e1 e2 => ⟨(h.row j x r e1 e2).1, fun b hb => ⟨fun hs => by
    rcases hT b hs with e | e
    · exact ((h.row j x r e1 e2).2 b hb).1 e
    · have := ((h.row j x r e1 e2).1.lt b hb).2; omega, ((h.row j x r e1 e2).2 b hb).2⟩⟩, fun b hb hs => by
    rcases hT b hs with e | e
    · exact h.off b hb e
    · have := (h.top.lt b hb).2; omega⟩
theorem FR.nil (W : World) (S : List Nat) (hx : Ext W w) : FR W S (.slice none 0 0) [] [] w :=
  ⟨hx, own_nil _ _ _ _, rfl, fun j x r h1 => by simp at h1, fun b hb => by simp [Value.ownBlock] at hb⟩
/-- An append of rows that lie elsewhere. -/
theorem FR.push (h : FR W S ov vs os w) (hl : xs.length = rs.length)
    (hx : ∀ (j : Nat) (x : Value) (r : List Int), xs[j]? = some x → rs[j]? = some r → w.ownsRow W.heap.size 3 1 x r.length (i64s r) ∧ ∀ b, x.ownBlock = some b → b ∉ S ∧ ov.ownBlock ≠ some b)
    (hS : ∀ k ∈ S, k < w.heap.size) (hg : w.grownBy w2 ov.ownBlock) (hown : w2.ownsRow W.heap.size 36 1 ov2 (vs.length + xs.length) (vs ++ xs)) (hat : ov2.ownBlock = ov.ownBlock ∨ ov2.ownBlock = some w.heap.size) :
    FR W S ov2 (vs ++ xs) (os ++ rs) w2 := by
  have hk : Kb ov.ownBlock.toList w w2 := Kb.grown hg (fun g hg => Option.mem_toList.2 hg)
  have hnew : ∀ b, ov2.ownBlock = some b → ov.ownBlock = some b ∨ w.heap.size ≤ b := fun b hb => by
    rcases hat with e | e
    · rw [e] at hb; exact .inl hb
    · rw [e] at hb; simp at hb; exact .inr (by omega)
  have hrow : ∀ {y : Value} {l : List Int}, w.ownsRow W.heap.size 3 1 y l.length (i64s l) → (∀ b, y.ownBlock = some b → b ∉ S ∧ ov.ownBlock ≠ some b) → w2.ownsRow W.heap.size 3 1 y l.length (i64s l) ∧ ∀ b, y.ownBlock = some b → b ∉ S ∧ ov2.ownBlock ≠ some b := fun {y l} a1 a2 => by
    refine ⟨hk.row a1 (fun g hg e => (a2 g e).2 (Option.mem_toList.1 hg)), fun b hb => ⟨(a2 b hb).1, fun e => ?_⟩⟩
    rcases hnew b e with e | e
    · exact (a2 b hb).2 e
    · have := (a1.lt b hb).2; omega
  refine ⟨hk.ext h.ext (fun k hk1 => (h.top.lt k (Option.mem_toList.1 hk1)).1), by simpa using hown, by simp [h.len, hl], fun j y l e1 e2 => ?_, fun b hb hs => ?_⟩
  · by_cases hj : j < vs.length
    · rw [List.getElem?_append_left hj] at e1
      rw [List.getElem?_append_left (by rw [← h.len]; exact hj)] at e2
      obtain ⟨a1, a2⟩ := h.row j y l e1 e2
      exact hrow a1 a2
    · rw [List.getElem?_append_right (by omega)] at e1
      rw [List.getElem?_append_right (by rw [← h.len]; omega), ← h.len] at e2
      obtain ⟨a1, a2⟩ := hx _ y l e1 e2
      exact hrow a1 a2
  · rcases hnew b hb with e | e
    · exact h.off b e hs
    · have := hS b hs; omega
end
/-- What the walk of Of keeps: the net's box, the result's, the formula's. -/
structure OS (W : World) (B D C n : Nat) (gv ov : Value) (vs : List Value) (os : List (List Int)) (w : World) : Prop where
  fr : FR W [B, D, C] ov vs os w
  b : BoxV B [gv] w
  d : w.heap[D]? = some (.cells #[.int .i64 0, .slice none 0 0] 24 (0, 0))
  c : BoxV C [.int .i64 n, ov] w
  nB : W.heap.size ≤ B
  nD : W.heap.size ≤ D
  nC : W.heap.size ≤ C
  bC : B ≠ C
  dC : D ≠ C
section
variable {W w w' w2 : World} {B D C n : Nat} {gv ov ov2 : Value} {vs xs : List Value} {os rs : List (List Int)}
theorem OS.next (h : OS W B D C n gv ov vs os w) (hx : Ext w w') : OS W B D C n gv ov vs os w' :=
  { h with fr := h.fr.next hx, b := h.b.ext hx, d := ext_block hx h.d, c := h.c.ext hx }
theorem OS.lts (h : OS W B D C n gv ov vs os w) : ∀ k ∈ [B, D, C], k < w.heap.size := fun k hk => by
  simp at hk
  rcases hk with rfl | rfl | rfl
  · exact h.b.lt
  · exact (Array.getElem?_eq_some_iff.1 h.d).1
  · exact h.c.lt
theorem OS.nS (h : OS W B D C n gv ov vs os w) : ∀ k ∈ [B, D, C], W.heap.size ≤ k := fun k hk => by
  simp at hk
  rcases hk with rfl | rfl | rfl
  · exact h.nB
  · exact h.nD
  · exact h.nC
theorem OS.app (h : OS W B D C n gv ov vs os w) (hl : xs.length = rs.length)
    (hx : ∀ (j : Nat) (x : Value) (r : List Int), xs[j]? = some x → rs[j]? = some r → w.ownsRow W.heap.size 3 1 x r.length (i64s r) ∧ ∀ b, x.ownBlock = some b → b ∉ [B, D, C] ∧ ov.ownBlock ≠ some b)
    (hg : w.grownBy w2 ov.ownBlock) (hown : w2.ownsRow W.heap.size 36 1 ov2 (vs.length + xs.length) (vs ++ xs)) (hat : ov2.ownBlock = ov.ownBlock ∨ ov2.ownBlock = some w.heap.size) :
    BoxV C [.int .i64 n, ov] w2 ∧ OS W B D C n gv ov2 (vs ++ xs) (os ++ rs) (w2.setCell ⟨C, 1, none⟩ ov2) := by
  have hk : Kb ov.ownBlock.toList w w2 := Kb.grown hg (fun g hg => Option.mem_toList.2 hg)
  have hn : ∀ k ∈ [B, D, C], k ∉ ov.ownBlock.toList := fun k hk1 hk2 => h.fr.off k (Option.mem_toList.1 hk2) hk1
  have hf := h.fr.push hl hx h.lts hg hown hat
  have hc : BoxV C [.int .i64 n, ov] w2 := h.c.kb hk (hn C (by simp))
  have hC : Kb [C] w2 (w2.setCell ⟨C, 1, none⟩ ov2) := Kb.set w2 C 1 (by simp) ov2
  refine ⟨hc, ?_⟩
  exact { h with fr := hf.kb hC (by simp) h.nS, b := (h.b.kb hk (hn B (by simp))).kb hC (by simpa using h.bC), d := hC.heap (by simpa using h.dC) (hk.heap (hn D (by simp)) h.d), c := (hc.set 1 ov2 (by simp)).cast rfl }
/-- A row that has just been made. -/
theorem OS.new (h : OS W B D C n gv ov vs os w) (r : List Int) {w' : World} (hx : Ext (w.alloc (.cells (i64s r).toArray 3)) w') {nb : Nat} (hnb : nb = w.heap.size) (hm : r.length ≤ maxLen) :
    w'.ownsRow W.heap.size 3 1 (.slice (some ⟨nb, 0, none⟩) r.length r.length) r.length (i64s r) ∧ ∀ b, (Value.slice (some ⟨nb, 0, none⟩) r.length r.length).ownBlock = some b → b ∉ [B, D, C] ∧ ov.ownBlock ≠ some b := by
  refine ⟨ownsRow_ext (own_fresh w (i64s r).toArray 3 W.heap.size r.length nb hnb (by rw [hnb]; exact h.fr.ext.size) (by simp) hm) hx, fun b hb => ?_⟩
  have hb2 : b = w.heap.size := by rw [← hnb]; simpa [Value.ownBlock] using hb.symm
  subst hb2
  exact ⟨fun hs => absurd (h.lts _ hs) (Nat.lt_irrefl _), fun e => absurd (h.fr.top.lt _ e).2 (Nat.lt_irrefl _)⟩
theorem rows1 {P : Value → List Int → Prop} {x : Value} {r : List Int} (h : P x r) : ∀ (j : Nat) (x' : Value) (r' : List Int), [x][j]? = some x' → [r][j]? = some r' → P x' r'
  | 0, _, _, e1, e2 => by simp at e1 e2; subst e1; subst e2; exact h
  | j + 1, _, _, e1, _ => by simp at e1
theorem rows3 {P : Value → List Int → Prop} {x y z : Value} {r s t : List Int} (h : P x r) (h2 : P y s) (h3 : P z t) : ∀ (j : Nat) (x' : Value) (r' : List Int), [x, y, z][j]? = some x' → [r, s, t][j]? = some r' → P x' r'
  | 0, _, _, e1, e2 => by simp at e1 e2; subst e1; subst e2; exact h
  | 1, _, _, e1, e2 => by simp at e1 e2; subst e1; subst e2; exact h2
  | 2, _, _, e1, e2 => by simp at e1 e2; subst e1; subst e2; exact h3
  | j + 3, _, _, e1, _ => by simp at e1
end
end Go.Proofs.YtlikmdeplpldlaaDoor

/-
  What the parser keeps: the reader's box, the formula's, the rows that are told, the row under way.
  No condition.
-/
import Derived.Test.YtlikmdeplpldlaaDoorCnfRd
import Derived.Test.YtlikmdeplpldlaaDoorCnfL
namespace Go.Proofs.YtlikmdeplpldlaaDoor
open Go.RowKit
set_option linter.unusedSimpArgs false
set_option linter.unusedVariables false
set_option maxRecDepth 100000

structure PS (W : World) (X F D g : Nat) (x : Int) (o n c : Nat) (bs : List UInt8) (ov : Value) (vs : List Value) (os : List (List Int)) (pv : Value) (ps : List Int) (w : World) : Prop where
  fr : FR W (pv.ownBlock.toList ++ [X, F, D, g]) ov vs os w
  pd : w.ownsRow W.heap.size 3 1 pv ps.length (i64s ps)
  po : ∀ b, pv.ownBlock = some b → b ∉ [X, F, D, g]
  rd : BoxV X [.slice (some ⟨g, o, none⟩) n c, .bool false] w
  at' : RdAt w g o n c bs
  c : BoxV F [.int .i64 x, ov] w
  d : w.heap[D]? = some (.cells #[.int .i64 0, .slice none 0 0] 24 (0, 0))
  ns : ∀ k ∈ [X, F, D, g], W.heap.size ≤ k
  lg : g < w.heap.size
  xf : X ≠ F
  xd : X ≠ D
  fd : F ≠ D
  gx : g ≠ X
  gf : g ≠ F
  gd : g ≠ D
section
variable {W w w' w2 : World} {X F D g o n c o' n' c' : Nat} {x : Int} {bs bs' : List UInt8} {ov ov2 pv pv2 : Value} {vs xs : List Value} {os rs : List (List Int)} {ps : List Int}
theorem PS.next (h : PS W X F D g x o n c bs ov vs os pv ps w) (hx : Ext w w') : PS W X F D g x o n c bs ov vs os pv ps w' :=
  { h with fr := h.fr.next hx, pd := ownsRow_ext h.pd hx, rd := h.rd.ext hx, at' := h.at'.ext hx, c := h.c.ext hx, d := ext_block hx h.d, lg := Nat.lt_of_lt_of_le h.lg hx.size }
theorem PS.lts (h : PS W X F D g x o n c bs ov vs os pv ps w) : ∀ k ∈ [X, F, D, g], k < w.heap.size := fun k hk => by
  simp at hk
  rcases hk with rfl | rfl | rfl | rfl
  · exact h.rd.lt
  · exact h.c.lt
  · exact (Array.getElem?_eq_some_iff.1 h.d).1
  · exact h.lg
theorem PS.nsp (h : PS W X F D g x o n c bs ov vs os pv ps w) : ∀ k ∈ pv.ownBlock.toList ++ [X, F, D, g], W.heap.size ≤ k := fun k hk => by
  rcases List.mem_append.1 hk with e | e
  · exact (h.pd.lt k (Option.mem_toList.1 e)).1
  · exact h.ns k e
theorem PS.num (h : PS W X F D g x o n c bs ov vs os pv ps w) (hk : Kb [X] w w') (hb : BoxV X [.slice (some ⟨g, o', none⟩) n' c', .bool false] w') (hR : RdAt w' g o' n' c' bs') : PS W X F D g x o' n' c' bs' ov vs os pv ps w' := by
  have hX : X ∉ pv.ownBlock.toList := fun e => h.po X (Option.mem_toList.1 e) (by simp)
  exact { h with fr := h.fr.kb hk (fun k hk1 => by simp at hk1; simp [hk1]) h.nsp, pd := hk.row h.pd (fun b hb e => h.po b e (by simp at hb; simp [hb])), rd := hb, at' := hR, c := h.c.kb hk (by simpa using Ne.symm h.xf), d := hk.heap (by simpa using Ne.symm h.xd) h.d, lg := Nat.lt_of_lt_of_le h.lg hk.size }
theorem PS.number {q : Int} {ws rest : List UInt8} {sep : UInt8} (h : PS W X F D g x o n c (ws ++ (Lib.itoa q ++ sep :: rest)) ov vs os pv ps w) (hw : ∀ b ∈ ws, b = 32 ∨ b = 10) (h0 : -10000000 < q) (h1 : q < 10000000) (hs : sep = 32 ∨ sep = 10) :
    Calls Tryd.prog 37 #[.pointer (some ⟨X, 0, none⟩)] w fun e w' => e = .returned (.int .i64 q) ∧ ∃ o' n' c', PS W X F D g x o' n' c' (sep :: rest) ov vs os pv ps w' := by
  refine (number_any X g o n c ws rest sep q w h.rd h.at' hw h0 h1 hs h.gx).mono ?_
  rintro e w' ⟨rfl, hk, hb⟩
  have hle : ws.length + (Lib.itoa q).length ≤ n := by rw [← h.at'.len]; simp
  have hR := (h.at'.drop _ hle).kb hk (by simpa using h.gx)
  rw [show (ws ++ (Lib.itoa q ++ sep :: rest)).drop (ws.length + (Lib.itoa q).length) = sep :: rest by rw [← List.append_assoc, ← List.length_append, List.drop_left]] at hR
  exact ⟨rfl, _, _, _, h.num hk hb hR⟩
theorem PS.add (h : PS W X F D g x o n c bs ov vs os pv ps w) (q : Int) (hg : w.grownBy w2 pv.ownBlock) (hown : w2.ownsRow W.heap.size 3 1 pv2 (ps.length + 1) (i64s ps ++ [.int .i64 q])) (hat : pv2.ownBlock = pv.ownBlock ∨ pv2.ownBlock = some w.heap.size) : PS W X F D g x o n c bs ov vs os pv2 (ps ++ [q]) w2 := by
  have hk : Kb pv.ownBlock.toList w w2 := Kb.grown hg (fun g hg => Option.mem_toList.2 hg)
  have hn : ∀ k ∈ [X, F, D, g], k ∉ pv.ownBlock.toList := fun k hk1 hk2 => h.po k (Option.mem_toList.1 hk2) hk1
  have hnew : ∀ b, pv2.ownBlock = some b → pv.ownBlock = some b ∨ w.heap.size ≤ b := fun b hb => by
    rcases hat with e | e
    · rw [e] at hb; exact .inl hb
    · rw [e] at hb; simp at hb; exact .inr (by omega)
  have f1 : FR W (pv2.ownBlock.toList ++ (pv.ownBlock.toList ++ [X, F, D, g])) ov vs os w := h.fr.mono fun k hk => by
    rcases List.mem_append.1 hk with e | e
    · rcases hnew k (Option.mem_toList.1 e) with e | e
      · exact .inl (List.mem_append_left _ (Option.mem_toList.2 e))
      · exact .inr e
    · exact .inl e
  have f2 := f1.kb hk (fun k hk => List.mem_append_right _ (List.mem_append_left _ hk)) (fun k hk => by
    rcases List.mem_append.1 hk with e | e
    · exact (hown.lt k (Option.mem_toList.1 e)).1
    · exact h.nsp k e)
  refine { h with fr := f2.mono (fun k hk => .inl ?_), pd := by simpa [i64s] using hown, po := fun b hb hs => ?_, rd := h.rd.kb hk (hn X (by simp)), at' := h.at'.kb hk (hn g (by simp)), c := h.c.kb hk (hn F (by simp)), d := hk.heap (hn D (by simp)) h.d, lg := Nat.lt_of_lt_of_le h.lg hk.size }
  · rcases List.mem_append.1 hk with e | e
    · exact List.mem_append_left _ e
    · exact List.mem_append_right _ (List.mem_append_right _ e)
  · rcases hnew b hb with e | e
    · exact h.po b e hs
    · have := h.lts b hs; omega
theorem PS.push (h : PS W X F D g x o n c bs ov vs os pv ps w) (hg : w.grownBy w2 ov.ownBlock) (hown : w2.ownsRow W.heap.size 36 1 ov2 (vs.length + 1) (vs ++ [pv])) (hat : ov2.ownBlock = ov.ownBlock ∨ ov2.ownBlock = some w.heap.size) :
    BoxV F [.int .i64 x, ov] w2 ∧ PS W X F D g x o n c bs ov2 (vs ++ [pv]) (os ++ [ps]) (.slice none 0 0) [] (w2.setCell ⟨F, 1, none⟩ ov2) := by
  have hk : Kb ov.ownBlock.toList w w2 := Kb.grown hg (fun g hg => Option.mem_toList.2 hg)
  have f0 : FR W [X, F, D, g] ov vs os w := h.fr.mono fun k hk => .inl (List.mem_append_right _ hk)
  have hn : ∀ k ∈ [X, F, D, g], k ∉ ov.ownBlock.toList := fun k hk1 hk2 => f0.off k (Option.mem_toList.1 hk2) hk1
  have hf := f0.push (xs := [pv]) (rs := [ps]) rfl (rows1 ⟨h.pd, fun b hb => ⟨h.po b hb, fun e => h.fr.off b e (List.mem_append_left _ (Option.mem_toList.2 hb))⟩⟩) h.lts hg hown hat
  have hc : BoxV F [.int .i64 x, ov] w2 := h.c.kb hk (hn F (by simp))
  have hC : Kb [F] w2 (w2.setCell ⟨F, 1, none⟩ ov2) := Kb.set w2 F 1 (by simp) ov2
  refine ⟨hc, ?_⟩
  exact { h with fr := hf.kb hC (by simp) h.ns, pd := own_nil _ _ _ _, po := fun b hb => by simp [Value.ownBlock] at hb, rd := (h.rd.kb hk (hn X (by simp))).kb hC (by simpa using h.xf), at' := (h.at'.kb hk (hn g (by simp))).kb hC (by simpa using h.gf), c := (hc.set 1 ov2 (by simp)).cast rfl, d := hC.heap (by simpa using Ne.symm h.fd) (hk.heap (hn D (by simp)) h.d), lg := Nat.lt_of_lt_of_le h.lg (Nat.le_trans hk.size hC.size) }
end
end Go.Proofs.YtlikmdeplpldlaaDoor

/-
  What sched's order keeps in memory while its two maps are made.
  No condition.
  What sched's order keeps in memory while it goes on.
  No condition.
  A region that draws its order and calls nothing, within a fence: its head walked by hand.
  No condition.
  The walk: sched's order.
  Condition: the rows lie in memory.
-/
import Derived.Test.YtmommjagndadjaaJcK
import Derived.Test.YtmommjagndadjaaJcQ
import Derived.OrdersIn
import Derived.Test.YtmommjagndadjaaJcA
import Derived.RangeFuncNested
import Derived.RangeFuncBound
import Derived.RangeFuncCalls
import Derived.RangeFuncLeaves
import Derived.Shelf.Abstract
import Derived.Shelf.RegionOpen
import Derived.OwnWalkIn
import Derived.TacticsInMore
import Derived.LoopNIn
import Derived.LoopIn
import Derived.Sort.CutIn
namespace Go.Proofs.Ytmommjagndadjaa.Sc
open Go.RowKit Go.Maps Go.Proofs.Ytmommjagndadjaa
set_option linter.unusedSimpArgs false
set_option linter.unusedVariables false
set_option maxRecDepth 100000

theorem czeroInts (w : World) : (zeroValue 36).run Try.prog w = .ok (.slice none 0 0) w := by kernel_rfl
theorem czeroIn (w : World) : (zeroValue 3).run Try.prog w = .ok (.int .i64 0) w := by kernel_rfl
def updF (f : Nat → Value) (q : Nat) (v : Value) : Nat → Value := fun k => if k = q then v else f k
/-- While the maps are made: numbers waited for, and the rows of those behind. -/
structure O1 (w0 : World) (Av : Nat → Prop) (n c Mw Mb : Nat) (fv : Nat → Value) (W : List Int) (ls : List (List Int)) (w : World) : Prop where
  ext : Ext w0 w
  lo : w0.heap.size ≤ Mw ∧ w0.heap.size ≤ Mb
  ne : Mw ≠ Mb
  nW : W.length = n
  nl : ls.length = n
  wm : ∃ L, L.length ≤ c ∧ IM Try.prog 3 Mw L w ∧ ∀ v : Nat, v < n → (findI L (v : Int)).getD (.int .i64 0) = .int .i64 (W.getD v 0)
  bm : ∃ L, L.length ≤ c ∧ IM Try.prog 3 Mb L w ∧ ∀ v : Nat, v < n → (findI L (v : Int)).getD (.slice none 0 0) = fv v
  row : ∀ v, v < n → w.ownsRow w0.heap.size 3 1 (fv v) (ls.getD v []).length (i64s (ls.getD v []))
  ap : ∀ u v, u < n → v < n → u ≠ v → ∀ g, (fv u).ownBlock = some g → (fv v).ownBlock ≠ some g
  off : ∀ v, v < n → ∀ g, (fv v).ownBlock = some g → g ≠ Mw ∧ g ≠ Mb ∧ ¬ Av g
section
variable {w0 w w' w1 : World} {Av Av' : Nat → Prop} {n c Mw Mb : Nat} {fv : Nat → Value} {W : List Int} {ls : List (List Int)}
theorem O1.ltw (h : O1 w0 Av n c Mw Mb fv W ls w) : Mw < w.heap.size := by obtain ⟨L, -, h1, -⟩ := h.wm; exact h1.lt
theorem O1.ltb (h : O1 w0 Av n c Mw Mb fv W ls w) : Mb < w.heap.size := by obtain ⟨L, -, h1, -⟩ := h.bm; exact h1.lt
theorem O1.kb {S : List Nat} (h : O1 w0 Av n c Mw Mb fv W ls w) (hk : Kb S w w') (h0 : ∀ k ∈ S, w0.heap.size ≤ k) (hw : Mw ∉ S) (hb : Mb ∉ S) (hS : ∀ v, v < n → ∀ g, (fv v).ownBlock = some g → g ∉ S) : O1 w0 Av n c Mw Mb fv W ls w' := by
  obtain ⟨L1, a1, a2, a3⟩ := h.wm
  obtain ⟨L2, b1, b2, b3⟩ := h.bm
  exact ⟨hk.ext h.ext h0, h.lo, h.ne, h.nW, h.nl, ⟨L1, a1, a2.kb hk hw, a3⟩, ⟨L2, b1, b2.kb hk hb, b3⟩, fun v hv => hk.row (h.row v hv) (fun g hg e => hS v hv g e hg), h.ap, h.off⟩
theorem O1.next (h : O1 w0 Av n c Mw Mb fv W ls w) (hx : Ext w w') : O1 w0 Av n c Mw Mb fv W ls w' := by
  obtain ⟨L1, a1, a2, a3⟩ := h.wm
  obtain ⟨L2, b1, b2, b3⟩ := h.bm
  exact ⟨h.ext.trans hx, h.lo, h.ne, h.nW, h.nl, ⟨L1, a1, a2.ext hx, a3⟩, ⟨L2, b1, b2.ext hx, b3⟩, fun v hv => ownsRow_ext (h.row v hv) hx, h.ap, h.off⟩
theorem O1.av (h : O1 w0 Av n c Mw Mb fv W ls w) (ha : ∀ v, v < n → ∀ g, (fv v).ownBlock = some g → ¬ Av' g) : O1 w0 Av' n c Mw Mb fv W ls w :=
  ⟨h.ext, h.lo, h.ne, h.nW, h.nl, h.wm, h.bm, h.row, h.ap, fun v hv g hg => ⟨(h.off v hv g hg).1, (h.off v hv g hg).2.1, ha v hv g hg⟩⟩
/-- What is young is none of the blocks. -/
theorem O1.avs (h : O1 w0 Av n c Mw Mb fv W ls w) (ha : ∀ g, Av' g → Av g ∨ w.heap.size ≤ g) : O1 w0 Av' n c Mw Mb fv W ls w :=
  h.av fun v hv g hg e => by
    rcases ha g e with e | e
    · exact (h.off v hv g hg).2.2 e
    · have := ((h.row v hv).lt g hg).2
      omega
theorem O1.lookW (h : O1 w0 Av n c Mw Mb fv W ls w) {v : Nat} (hv : v < n) (hn : n ≤ 1000000000) : (Instr.lookup 82 (.map (some Mw)) (.int .i64 (v : Int)) false).run Try.prog w = .ok (.int .i64 (W.getD v 0)) w := by
  obtain ⟨L1, a1, a2, a3⟩ := h.wm
  rw [← a3 v hv]
  exact a2.look Try.underlying3 Try.underlying82 (czeroIn w) (wfI (by unfold I64; omega))
theorem O1.lookB (h : O1 w0 Av n c Mw Mb fv W ls w) {v : Nat} (hv : v < n) (hn : n ≤ 1000000000) : (Instr.lookup 83 (.map (some Mb)) (.int .i64 (v : Int)) false).run Try.prog w = .ok (fv v) w := by
  obtain ⟨L2, a1, a2, a3⟩ := h.bm
  rw [← a3 v hv]
  exact a2.look Try.underlying3 Try.underlying83 (czeroInts w) (wfI (by unfold I64; omega))
theorem O1.putW (h : O1 w0 Av n c Mw Mb fv W ls w) {v : Nat} (hv : v < n) (hn : n ≤ 1000000000) (hc : c ≤ 1000000000000) (x : Int) :
    ∃ w', (Instr.mapUpdate 82 (.map (some Mw)) (.int .i64 (v : Int)) (.int .i64 x)).run Try.prog w = .ok () w' ∧ O1 w0 Av n (c + 1) Mw Mb fv (W.set v x) ls w' ∧ Kb [Mw] w w' := by
  obtain ⟨L1, a1, a2, a3⟩ := h.wm
  obtain ⟨L2, b1, b2, b3⟩ := h.bm
  obtain ⟨w9, hrun, hm9, hg9⟩ := a2.put Try.underlying3 Try.underlying82 (by unfold maxLen; omega) (wfI (n := (v : Int)) (by unfold I64; omega)) (.int .i64 x)
  have hk : Kb [Mw] w w9 := Kb.grown hg9 (fun g hg => by simp at hg; simp [hg])
  refine ⟨w9, hrun, ⟨hk.ext h.ext (fun k hk1 => by simp at hk1; subst hk1; exact h.lo.1), h.lo, h.ne, by simp [h.nW], h.nl, ⟨_, by simp; omega, hm9, fun u hu => ?_⟩, ⟨L2, by omega, b2.kb hk (by simp; exact fun e => h.ne e.symm), b3⟩, fun u hu => hk.row (h.row u hu) (fun g hg e => by simp at hg; subst hg; exact (h.off u hu _ e).1 rfl), h.ap, h.off⟩, hk⟩
  by_cases e : v = u
  · subst e
    rw [findI_same, List.getD, List.getElem?_set_self (by rw [h.nW]; exact hv)]
    rfl
  · rw [findI_other (by omega), a3 u hu, List.getD, List.getD, List.getElem?_set_ne (by omega)]
theorem O1.putB (h : O1 w0 Av n c Mw Mb fv W ls w) {q : Nat} (hq : q < n) (hn : n ≤ 1000000000) (hc : c ≤ 1000000000000) {v' : Value} {x : Int} {l : List Int} (hl : ls.getD q [] = l)
    (hk : Kb (fv q).ownBlock.toList w w1) (ho : w1.ownsRow w0.heap.size 3 1 v' (l.length + 1) (i64s (l ++ [x]))) (hat : v'.ownBlock = (fv q).ownBlock ∨ ∃ g, v'.ownBlock = some g ∧ w.heap.size ≤ g) (hAv : ∀ k, Av k → k < w.heap.size) :
    ∃ w', (Instr.mapUpdate 83 (.map (some Mb)) (.int .i64 (q : Int)) v').run Try.prog w1 = .ok () w' ∧ O1 w0 Av n (c + 1) Mw Mb (updF fv q v') W (ls.set q (l ++ [x])) w' ∧ Kb (Mb :: (fv q).ownBlock.toList) w w' := by
  subst hl
  obtain ⟨L1, a1, a2, a3⟩ := h.wm
  obtain ⟨L2, b1, b2, b3⟩ := h.bm
  have hnw : Mw ∉ (fv q).ownBlock.toList := fun e => (h.off q hq Mw (Option.mem_toList.1 e)).1 rfl
  have hnb : Mb ∉ (fv q).ownBlock.toList := fun e => (h.off q hq Mb (Option.mem_toList.1 e)).2.1 rfl
  have b4 := b2.kb hk hnb
  obtain ⟨w9, hrun, hm9, hg9⟩ := b4.put Try.underlying3 Try.underlying83 (by unfold maxLen; omega) (wfI (n := (q : Int)) (by unfold I64; omega)) v'
  have hk2 : Kb [Mb] w1 w9 := Kb.grown hg9 (fun g hg => by simp at hg; simp [hg])
  have hk3 : Kb (Mb :: (fv q).ownBlock.toList) w w9 := (hk.mono (fun k hk => List.mem_cons_of_mem _ hk)).trans (hk2.mono (fun k hk => by simp at hk; simp [hk]))
  have hv1 : ∀ g, v'.ownBlock = some g → g ≠ Mw ∧ g ≠ Mb ∧ ¬ Av g ∧ ∀ u, u < n → u ≠ q → (fv u).ownBlock ≠ some g := fun g hg => by
    rcases hat with e | ⟨g', e, hg'⟩
    · rw [e] at hg
      obtain ⟨c1, c2, c3⟩ := h.off q hq g hg
      exact ⟨c1, c2, c3, fun u hu hne => h.ap q u hq hu (fun e => hne e.symm) g hg⟩
    · rw [e] at hg
      have : g' = g := by simpa using hg
      subst this
      refine ⟨by have := h.ltw; omega, by have := h.ltb; omega, fun e2 => by have := hAv _ e2; omega, fun u hu _ e2 => ?_⟩
      have := ((h.row u hu).lt g' e2).2
      omega
  refine ⟨w9, hrun, ⟨hk3.ext h.ext (fun k hk1 => ?_), h.lo, h.ne, h.nW, by simp [h.nl], ⟨L1, by omega, (a2.kb hk hnw).kb hk2 (by simp; exact h.ne), a3⟩, ⟨_, by simp; omega, hm9, fun u hu => ?_⟩, fun u hu => ?_, fun u v hu hv hne g => ?_, fun u hu g hg => ?_⟩, hk3⟩
  · rcases List.mem_cons.1 hk1 with rfl | e
    · exact h.lo.2
    · exact ((h.row q hq).lt k (Option.mem_toList.1 e)).1
  · unfold updF
    by_cases e : u = q
    · subst e
      rw [findI_same, if_pos rfl]
      rfl
    · rw [findI_other (by omega), b3 u hu, if_neg e]
  · unfold updF
    by_cases e : u = q
    · subst e
      rw [if_pos rfl, List.getD, List.getElem?_set_self (by rw [h.nl]; exact hq)]
      simp only [Option.getD_some, List.length_append, List.length_cons, List.length_nil]
      exact hk2.row ho (fun g hg e => by simp at hg; subst hg; exact (hv1 _ e).2.1 rfl)
    · rw [if_neg e, List.getD, List.getElem?_set_ne (by omega)]
      refine hk3.row (h.row u hu) (fun g hg e2 => ?_)
      rcases List.mem_cons.1 hg with rfl | e3
      · exact (h.off u hu _ e2).2.1 rfl
      · exact h.ap q u hq hu (fun e => by omega) g (Option.mem_toList.1 e3) e2
  · unfold updF
    by_cases e1 : u = q
    · rw [if_pos e1, if_neg (show ¬ v = q by omega)]
      exact fun hg => (hv1 g hg).2.2.2 v hv (by omega)
    · rw [if_neg e1]
      by_cases e2 : v = q
      · rw [if_pos e2]
        exact fun hg hg2 => (hv1 g hg2).2.2.2 u hu e1 hg
      · rw [if_neg e2]
        exact h.ap u v hu hv hne g
  · unfold updF at hg
    by_cases e : u = q
    · rw [if_pos e] at hg
      exact ⟨(hv1 g hg).1, (hv1 g hg).2.1, (hv1 g hg).2.2.1⟩
    · rw [if_neg e] at hg
      exact h.off u hu g hg
theorem O1.made {w2 : World} {Mw Mb : Nat} (hx : Ext w0 w2) (h0 : w0.heap.size ≤ Mw ∧ w0.heap.size ≤ Mb) (hne : Mw ≠ Mb) (hw : IM Try.prog 3 Mw [] w2) (hb : IM Try.prog 3 Mb [] w2) (n : Nat) : O1 w0 (fun _ => False) n 0 Mw Mb (fun _ => .slice none 0 0) (List.replicate n 0) (List.replicate n []) w2 := by
  refine ⟨hx, h0, hne, by simp, by simp, ⟨[], Nat.le_refl _, hw, fun v hv => ?_⟩, ⟨[], Nat.le_refl _, hb, fun v hv => rfl⟩, fun v hv => ?_, fun u v _ _ _ g hg => by simp [Value.ownBlock] at hg, fun v _ g hg => by simp [Value.ownBlock] at hg⟩
  · rw [List.getD, List.getElem?_replicate]; simp [hv, findI]
  · have : (List.replicate n ([] : List Int)).getD v [] = [] := by rw [List.getD, List.getElem?_replicate]; simp [hv]
    rw [this]
    exact own_nil _ _ _ _
end
end Go.Proofs.Ytmommjagndadjaa.Sc
namespace Go.Proofs.Ytmommjagndadjaa.Sc
open Go.RowKit Go.Maps Go.Proofs.Ytmommjagndadjaa
set_option linter.unusedSimpArgs false
set_option linter.unusedVariables false
set_option maxRecDepth 100000

section
variable {w0 w w' w1 wl : World} {Av : Nat → Prop} {n c Mw Mb : Nat} {fv : Nat → Value} {W : List Int} {ls : List (List Int)}
theorem O1.later (h : O1 w0 Av n c Mw Mb fv W ls wl) (hk : Kb [Mw] wl w) (hn : n ≤ 1000000000) {v : Nat} (hv : v < n) : (Instr.lookup 83 (.map (some Mb)) (.int .i64 (v : Int)) false).run Try.prog w = .ok (fv v) w ∧ w.ownsRow w0.heap.size 3 1 (fv v) (ls.getD v []).length (i64s (ls.getD v [])) := by
  obtain ⟨L2, a1, a2, a3⟩ := h.bm
  refine ⟨?_, hk.row (h.row v hv) (fun g hg e => by simp at hg; subst hg; exact (h.off v hv _ e).1 rfl)⟩
  rw [← a3 v hv]
  exact (a2.kb hk (by simp; exact fun e => h.ne e.symm)).look Try.underlying3 Try.underlying83 (czeroInts w) (wfI (by unfold I64; omega))
end
theorem PLs.blk {w w' : World} {base L : Nat} {l : List Int} (h : PLs w base L l) (hk : ∀ k, TbO L w k → w'.heap[k]? = w.heap[k]?) : PLs w' base L l := by
  obtain ⟨v, h1, h2, h3⟩ := h.ex
  exact ⟨⟨v, by rw [hk L (.inl rfl)]; exact h1, own_blk h2 (fun k hk1 => hk k (.inr ⟨0, v, by rw [cell_of_row w L 0 _ _ (0, 0) h1]; rfl, hk1⟩)), h3⟩, h.lo⟩
/-- While it goes on. -/
structure O2 (wl : World) (Mw L V n c : Nat) (W h lev : List Int) (ov : Value) (out : List Int) (w : World) : Prop where
  kb : Kb [Mw] wl w
  ml : Mw < wl.heap.size
  nW : W.length = n
  wm : ∃ Lw, Lw.length ≤ c ∧ IM Try.prog 3 Mw Lw w ∧ ∀ v : Nat, v < n → (findI Lw (v : Int)).getD (.int .i64 0) = .int .i64 (W.getD v 0)
  pl : PLs w wl.heap.size L h
  lv : w.ownsRow wl.heap.size 3 1 (.slice (some ⟨V, 0, none⟩) n n) n (i64s lev)
  ou : w.ownsRow wl.heap.size 3 1 ov out.length (i64s out)
  VL : ¬ TbO L w V
  oV : ov.ownBlock ≠ some V
  oL : ∀ k, ov.ownBlock = some k → ¬ TbO L w k
section
variable {wl w w' w1 : World} {Mw L V n c d : Nat} {W h h' lev out : List Int} {ov ov' : Value}
theorem O2.next (s : O2 wl Mw L V n c W h lev ov out w) (hx : Ext w w') : O2 wl Mw L V n c W h lev ov out w' := by
  obtain ⟨Lw, a1, a2, a3⟩ := s.wm
  exact ⟨s.kb.trans (Kb.of_ext hx), s.ml, s.nW, ⟨Lw, a1, a2.ext hx, a3⟩, s.pl.next hx, ownsRow_ext s.lv hx, ownsRow_ext s.ou hx, fun e => s.VL (s.pl.same hx e), s.oV, fun k hk e => s.oL k hk (s.pl.same hx e)⟩
theorem O2.cm (s : O2 wl Mw L V n c W h lev ov out w) (hd : c ≤ d) : O2 wl Mw L V n d W h lev ov out w := by
  obtain ⟨Lw, a1, a2⟩ := s.wm
  exact ⟨s.kb, s.ml, s.nW, ⟨Lw, by omega, a2⟩, s.pl, s.lv, s.ou, s.VL, s.oV, s.oL⟩
theorem O2.levn (s : O2 wl Mw L V n c W h lev ov out w) : lev.length = n := by simpa using s.lv.1
theorem O2.look (s : O2 wl Mw L V n c W h lev ov out w) {v : Nat} (hv : v < n) (hn : n ≤ 1000000000) : (Instr.lookup 82 (.map (some Mw)) (.int .i64 (v : Int)) false).run Try.prog w = .ok (.int .i64 (W.getD v 0)) w := by
  obtain ⟨L1, a1, a2, a3⟩ := s.wm
  rw [← a3 v hv]
  exact a2.look Try.underlying3 Try.underlying82 (czeroIn w) (wfI (by unfold I64; omega))
theorem O2.put (s : O2 wl Mw L V n c W h lev ov out w) {v : Nat} (hv : v < n) (hn : n ≤ 1000000000) (hc : c < maxLen) (x : Int) :
    ∃ w', (Instr.mapUpdate 82 (.map (some Mw)) (.int .i64 (v : Int)) (.int .i64 x)).run Try.prog w = .ok () w' ∧ O2 wl Mw L V n (c + 1) (W.set v x) h lev ov out w' ∧ Kb [Mw] w w' := by
  obtain ⟨L1, a1, a2, a3⟩ := s.wm
  obtain ⟨w9, hrun, hm9, hg9⟩ := a2.put Try.underlying3 Try.underlying82 (by omega) (wfI (n := (v : Int)) (by unfold I64; omega)) (.int .i64 x)
  have hk : Kb [Mw] w w9 := Kb.grown hg9 (fun g hg => by simp at hg; simp [hg])
  have hml := s.ml
  have hL : ∀ k, TbO L w k → w9.heap[k]? = w.heap[k]? := fun k hk1 => hk.block k (s.pl.tb hk1).2 (by have := (s.pl.tb hk1).1; simp; omega)
  have hcg := fun k => tb_congr (hL L (.inl rfl)) k
  refine ⟨w9, hrun, ⟨s.kb.trans hk, s.ml, by simp [s.nW], ⟨_, by simp; omega, hm9, fun u hu => ?_⟩, s.pl.blk hL, hk.row s.lv (fun g hg e => by have := (s.lv.lt g e).1; simp at hg; omega), hk.row s.ou (fun g hg e => by have := (s.ou.lt g e).1; simp at hg; omega), fun e => s.VL ((hcg _).1 e), s.oV, fun k hk1 e => s.oL k hk1 ((hcg _).1 e)⟩, hk⟩
  by_cases e : v = u
  · subst e
    rw [findI_same, List.getD, List.getElem?_set_self (by rw [s.nW]; exact hv)]
    rfl
  · rw [findI_other (by omega), a3 u hu, List.getD, List.getD, List.getElem?_set_ne (by omega)]
theorem O2.wmK {S : Nat → Prop} (s : O2 wl Mw L V n c W h lev ov out w) (hk : w'.heap[Mw]? = w.heap[Mw]?) : ∃ Lw, Lw.length ≤ c ∧ IM Try.prog 3 Mw Lw w' ∧ ∀ v : Nat, v < n → (findI Lw (v : Int)).getD (.int .i64 0) = .int .i64 (W.getD v 0) := by
  obtain ⟨L1, a1, a2, a3⟩ := s.wm
  exact ⟨L1, a1, a2.at hk, a3⟩
theorem O2.mlt (s : O2 wl Mw L V n c W h lev ov out w) : Mw < w.heap.size := Nat.lt_of_lt_of_le s.ml s.kb.size
theorem O2.heap (s : O2 wl Mw L V n c W h lev ov out w) (hk : Kt (TbO L) w w') (hp : PLs w' wl.heap.size L h') : O2 wl Mw L V n c W h' lev ov out w' := by
  have hV := s.lv.lt V rfl
  have hml := s.ml
  have hM : ¬ TbO L w Mw := fun e => by have := (s.pl.tb e).1; omega
  refine ⟨⟨hk.os.trans s.kb.os, hk.tape.trans s.kb.tape, hk.output.trans s.kb.output, Nat.le_trans s.kb.size hk.size, fun i hi h1 => (hk.block i (Nat.lt_of_lt_of_le hi s.kb.size) (fun e => by have := (s.pl.tb e).1; omega)).trans (s.kb.block i hi h1)⟩, s.ml, s.nW, s.wmK (S := fun _ => True) (hk.block Mw s.mlt hM), hp, own_blk s.lv (fun k hk1 => by simp [Value.ownBlock] at hk1; subst hk1; exact hk.block _ hV.2 s.VL), own_blk s.ou (fun k hk1 => hk.block k (s.ou.lt k hk1).2 (s.oL k hk1)), fun e => s.VL (hk.old V hV.2 e), s.oV, fun k hk1 e => s.oL k hk1 (hk.old k (s.ou.lt k hk1).2 e)⟩
theorem O2.push (s : O2 wl Mw L V n c W h lev ov out w) {x : Int} (hk : Kb ov.ownBlock.toList w w1) (ho : w1.ownsRow wl.heap.size 3 1 ov' (out.length + 1) (i64s (out ++ [x]))) (hat : ov'.ownBlock = ov.ownBlock ∨ ∃ g, ov'.ownBlock = some g ∧ w.heap.size ≤ g) : O2 wl Mw L V n c W h lev ov' (out ++ [x]) w1 := by
  have hV := s.lv.lt V rfl
  have hml := s.ml
  have hge : ∀ k ∈ ov.ownBlock.toList, wl.heap.size ≤ k := fun k hk1 => (s.ou.lt k (Option.mem_toList.1 hk1)).1
  have hL : ∀ k, TbO L w k → w1.heap[k]? = w.heap[k]? := fun k hk1 => hk.block k (s.pl.tb hk1).2 (fun e => s.oL k (Option.mem_toList.1 e) hk1)
  have hcg := fun k => tb_congr (hL L (.inl rfl)) k
  have hMn : Mw ∉ ov.ownBlock.toList := fun e => by have := hge _ e; omega
  refine ⟨⟨hk.os.trans s.kb.os, hk.tape.trans s.kb.tape, hk.output.trans s.kb.output, Nat.le_trans s.kb.size hk.size, fun i hi h1 => (hk.block i (Nat.lt_of_lt_of_le hi s.kb.size) (fun e => by have := hge _ e; omega)).trans (s.kb.block i hi h1)⟩, s.ml, s.nW, s.wmK (S := fun _ => True) (hk.block Mw s.mlt hMn), s.pl.blk hL, hk.row s.lv (fun g hg e => by simp [Value.ownBlock] at e; subst e; exact s.oV (Option.mem_toList.1 hg)), by rw [List.length_append]; exact ho, fun e => s.VL ((hcg _).1 e), ?_, fun k hk1 e => ?_⟩
  · rcases hat with e | ⟨g, e, hg⟩
    · rw [e]; exact s.oV
    · rw [e]; simp; omega
  · rcases hat with e2 | ⟨g, e2, hg⟩
    · rw [e2] at hk1
      exact s.oL k hk1 ((hcg _).1 e)
    · rw [e2] at hk1
      simp at hk1
      subst hk1
      have := (s.pl.tb ((hcg _).1 e)).2
      omega
theorem O2.setV (s : O2 wl Mw L V n c W h lev ov out w) {j : Nat} (hj : j < n) (x : Int) : O2 wl Mw L V n c W h (lev.set j x) ov out (w.setCell ⟨V, j, none⟩ (.int .i64 x)) := by
  have hV := s.lv.lt V rfl
  have hml := s.ml
  have hk : Kb [V] w (w.setCell ⟨V, j, none⟩ (.int .i64 x)) := Kb.set _ _ _ (by simp) _
  have hL : ∀ k, TbO L w k → (w.setCell ⟨V, j, none⟩ (.int .i64 x)).heap[k]? = w.heap[k]? := fun k hk1 => hk.block k (s.pl.tb hk1).2 (by simp; rintro rfl; exact s.VL hk1)
  have hcg := fun k => tb_congr (hL L (.inl rfl)) k
  refine ⟨⟨hk.os.trans s.kb.os, hk.tape.trans s.kb.tape, hk.output.trans s.kb.output, Nat.le_trans s.kb.size hk.size, fun i hi h1 => (hk.block i (Nat.lt_of_lt_of_le hi s.kb.size) (by simp; omega)).trans (s.kb.block i hi h1)⟩, s.ml, s.nW, s.wmK (S := fun _ => True) (hk.block Mw s.mlt (by simp; omega)), s.pl.blk hL, ?_, own_blk s.ou (fun k hk1 => hk.block k (s.ou.lt k hk1).2 (by simp; rintro rfl; exact s.oV hk1)), fun e => s.VL ((hcg _).1 e), s.oV, fun k hk1 e => s.oL k hk1 ((hcg _).1 e)⟩
  rw [← i64s_set]
  exact own_set1 s.lv j hj _
theorem O2.at (s : O2 wl Mw L V n c W h lev ov out w) {j : Nat} (hj : j < n) : w.cell? ⟨V, j, none⟩ = some (.int .i64 (lev.getD j 0)) ∧ w.frozen? ⟨V, j, none⟩ = false ∧ V < w.heap.size := by
  obtain ⟨h1, h2⟩ := own_cell1 s.lv j _ (i64s_at (by rw [s.levn]; exact hj))
  exact ⟨h1, h2, World.block_lt_of_cell? w _ h1⟩
end
end Go.Proofs.Ytmommjagndadjaa.Sc
namespace Go.Proofs.Ytmommjagndadjaa
open Go.RowKit
set_option linter.unusedSimpArgs false
set_option linter.unusedVariables false
set_option maxRecDepth 100000

/-- The post at a plain end alone. -/
def OnlyN (Q : Exit → Act → World → Prop) : Exit → Act → World → Prop := fun e a w => e = .normal ∧ Q .normal a w
def calmC : Callee → Bool
  | .builtin .append => true
  | .builtin .len => true
  | .builtin .max => true
  | _ => false
/-- An operation that neither calls nor defers. -/
def calmB (o : Oper) : Bool :=
  match o.op with
  | .move _ | .assign _ | .alloc _ | .buildSlice _ _ _ | .load _ _ | .store _ _ _ | .binOp _ _ _ _ _ | .indexAddr _ _ _ | .lookup _ _ _ _ | .mapUpdate _ _ _ _ => true
  | .call c => calmC c.callee
  | _ => false
def calmR : Result Next → Prop
  | .ok (.value _) _ => True
  | .ok .skip _ => True
  | .halt _ _ => True
  | _ => False
theorem calm_v (P : Program) (w : World) (s : Sem Value) : calmR ((do pure (Next.value (← s)) : Sem Next).run P w) := by
  simp
  generalize s.run P w = r
  cases r <;> trivial
theorem calm_u (P : Program) (w : World) (s : Sem Unit) : calmR ((do s; pure Next.skip : Sem Next).run P w) := by
  simp
  generalize s.run P w = r
  cases r <;> trivial
theorem calm_spec {o : Oper} (h : calmB o = true) (P : Program) (w : World) (ρ : Operand → Value) : o.about P w ρ = none ∧ (∀ c, o.op ≠ .defer c) ∧ calmR ((execOp ρ o).run P w) := by
  unfold calmB at h
  cases ho : o.op <;> rw [ho] at h <;> simp only [Bool.false_eq_true] at h
  case call c =>
    have hc : ∃ b, c.callee = .builtin b ∧ (b = .append ∨ b = .len ∨ b = .max) := by
      unfold calmC at h
      split at h <;> first | exact ⟨_, by assumption, by simp⟩ | simp at h
    obtain ⟨b, hb, hbb⟩ := hc
    refine ⟨?_, by simp, ?_⟩
    · unfold Oper.about
      rw [ho]
      simp only [resolve, hb]
      rfl
    · unfold execOp
      rw [ho]
      simp only [resolve, hb, pure_bind, invoke]
      rcases hbb with rfl | rfl | rfl <;> exact calm_v _ _ _
  all_goals
    refine ⟨by unfold Oper.about; rw [ho], by simp, ?_⟩
    unfold execOp
    rw [ho]
    simp only
    first | exact calm_v _ _ _ | exact calm_u _ _ _ | (simp only [pure, calmR]; trivial)
section
variable {F : Fence} {n : Nat} {P : Program} {ops : Array Oper} {Q : Exit → Act → World → Prop} {md : Region.Mode}
theorem wpOpIn_calm {i : Nat} {K : Act → World → Prop} {a : Act} {w : World} (hc : ∀ (i : Nat) (o : Oper), ops[i]? = some o → calmB o = true) (h : wpOp P ops (OnlyN Q) i K a w) : wpOpIn F n P ops (OnlyN Q) i K a w := by
  unfold wpOp at h
  unfold wpOpIn
  cases ho : ops[i]? with
  | none => rw [ho] at h; exact h
  | some o =>
    rw [ho] at h
    obtain ⟨h1, h2, h3⟩ := calm_spec (hc i o ho) P w a.eval
    have hab : ∀ f, o.about P w a.eval = some f → F.fn f := fun f hf => by rw [h1] at hf; cases hf
    simp only at h ⊢
    split
    · rename_i hw
      rw [if_pos hw] at h
      rcases h with h | ⟨_, a', w', e, _⟩
      · refine ⟨hab, ?_⟩
        rw [Oper.semAt_eq _ _ _ h2]
        unfold Oper.wp at h
        generalize (execOp a.eval o).run P w = r at h h3 ⊢
        cases r with
        | ok x w' => cases x <;> simp only [calmR] at h3 <;> exact h
        | halt x w' => cases x <;> exact h
      · cases e
    · rename_i hw
      rw [if_neg hw] at h
      exact ⟨hab, h⟩
theorem wpAnyIn_calm (hc : ∀ (i : Nat) (o : Oper), ops[i]? = some o → calmB o = true) : ∀ (fuel : Nat) (listed : Array Bool) (a : Act) (w : World), wpAny P md ops (OnlyN Q) fuel listed a w → wpAnyIn F n P md ops (OnlyN Q) fuel listed a w
  | 0, _, _, _, h => h
  | fuel + 1, listed, a, w, h => ⟨h.1, fun i hi => wpOpIn_calm hc (wpOp_mono (fun a w h => wpAnyIn_calm hc fuel _ a w h) (h.2 i hi))⟩
theorem hd_in {l : List Oper} {S : World → Prop} {id : Nat} {a : Act} {w : World} (k : Nat) (hc : l.all calmB = true) (hm : P.follows .mixedOrders = true) (hB : tailB l k = true) (hS : S w.drew) (h : S w.drew → Hd P l (OnlyN Q) S k k (Array.replicate l.length false) a w.drew) : (Code.region id l.toArray true).wpIn F n P Q a w := by
  refine wpIn_mono (Q := OnlyN Q) ?_ (fun e a w h => by rw [h.1]; exact h.2)
  simp only [tailB, Bool.and_eq_true, decide_eq_true_eq] at hB
  obtain ⟨⟨⟨_, hn⟩, _⟩, _⟩ := hB
  have inv0 : HeadInv .any l.toArray k (Array.replicate l.length false) :=
    ⟨by simp, fun j oj _ hl => (by rw [getD_replicate_false] at hl; cases hl), fun t _ ht => getD_in (by simpa using ht) (getD_replicate_false _ _)⟩
  have hdl : (l.drop k).length = l.length - k := by simp
  refine wpIn_region_any hm (wpAnyIn_calm (fun i o ho => List.all_eq_true.1 hc o (List.mem_of_getElem? (by simpa using ho))) _ _ _ _ ?_)
  have := any_of_headS (Q := OnlyN Q) (S := S) (R := TailR P l (OnlyN Q) k) (g := l.length - k) (fun listed a' w' hR => by
    have := wpAny_of_seq (md := .any) (Q' := OnlyN Q) (l.drop k) k listed a' w' (fun j => by simp [List.getElem?_drop]) (by rw [hdl]; exact hR.1) hR.2
    rwa [hdl] at this) k _ a _ inv0 (h hS)
  rw [show k + (l.length - k) = l.toArray.size from by simp; omega] at this
  simpa using this
end
end Go.Proofs.Ytmommjagndadjaa
namespace Go.Proofs.Ytmommjagndadjaa.Sc
open Go.RowKit Go.Shelf Go.Maps Go.Proofs.Ytmommjagndadjaa
set_option linter.unusedSimpArgs false
set_option linter.unusedVariables false
set_option maxRecDepth 100000

attribute [local go_sem] Oper.semAt_some
/-- Those behind one, each put a level higher. -/
def levV : List Int → Int → List Int → List Int
  | [], _, lev => lev
  | k :: l, i, lev => levV l i (lev.set k.toNat (max (lev.getD k.toNat 0) (lev.getD i.toNat 0 + 1)))
/-- The levels, as the order goes on. -/
def goL : Nat → List (List Int) → List Int → List Int → List Int → List Int
  | 0, _, _, _, lev => lev
  | f + 1, behind, waits, h, lev => if h = [] then lev else
    goL f behind (freeV (behind.getD (popV h).1.toNat []) (waits, (popV h).2)).1 (freeV (behind.getD (popV h).1.toNat []) (waits, (popV h).2)).2 (levV (behind.getD (popV h).1.toNat []) (popV h).1 lev)
def levelsV (on : List (List Int)) : List Int :=
  goL (fuelS on) (waitsV on 0 (List.replicate on.length 0, List.replicate on.length [])).2 (waitsV on 0 (List.replicate on.length 0, List.replicate on.length [])).1 (readyV (waitsV on 0 (List.replicate on.length 0, List.replicate on.length [])).1 0 []) (List.replicate on.length 0)
theorem levV_at {l : List Int} {k : Nat} {x : Int} (h : l[k]? = some x) (i : Int) (lev : List Int) : levV (l.drop k) i lev = levV (l.drop (k + 1)) i (lev.set x.toNat (max (lev.getD x.toNat 0) (lev.getD i.toNat 0 + 1))) := by
  rw [drop_at h, levV]
theorem goL_nil (f : Nat) (b : List (List Int)) (W lev : List Int) : goL f b W [] lev = lev := by
  cases f with
  | zero => rfl
  | succ f => rw [goL, if_pos rfl]
theorem goL_step (f : Nat) (b : List (List Int)) (W h lev : List Int) (hne : h ≠ []) : goL (f + 1) b W h lev = goL f b (freeV (b.getD (popV h).1.toNat []) (W, (popV h).2)).1 (freeV (b.getD (popV h).1.toNat []) (W, (popV h).2)).2 (levV (b.getD (popV h).1.toNat []) (popV h).1 lev) := by
  rw [goL, if_neg hne]
def RetO (n : Nat) (out lev : List Int) (w : World) (e : Ending) (w' : World) : Prop := ∃ p cap q, e = .returned (.tuple #[.slice p out.length cap, .slice q n n]) ∧ Hid (SlC w' (.slice p out.length cap) out.length (i64s out) ∧ SlC w' (.slice q n n) n (i64s lev) ∧ Ext w w')
def tO (p : Option Addr) (n c bw bb Mw Mb : Nat) (u6 u7 k u19 u20 u21 u22 u23 u24 u38 : Value) : Array Value := #[.slice p n c, undef, .slice none 0 0, .slice none 0 0, .pointer (some ⟨bw, 0, none⟩), .pointer (some ⟨bb, 0, none⟩), u6, u7, undef, undef, undef, undef, undef, undef, .map (some Mw), .map (some Mb), .slice p n c, .int .i64 (n : Int), k, u19, u20, u21, u22, u23, u24, undef, undef, undef, undef, undef, undef, undef, undef, undef, undef, undef, undef, undef, u38, undef, undef, undef, undef, undef, undef, undef, undef, undef, undef, undef, undef, undef, undef, undef, undef, undef, undef, undef, undef, undef, undef, undef, undef, undef, undef, undef, undef, undef, undef, undef, undef, undef, undef, undef, undef, undef, undef, undef, undef, undef, undef, undef, undef, undef, undef, undef, undef, undef, undef, undef, undef, undef, undef, undef, undef, undef, undef, undef, undef, undef, undef, undef, undef, undef, undef, undef, undef]
def mk1 (d : Nat) : Deferred := { target := .collected d, args := #[] }
theorem leaves_marks {F : Fence} {n : Nat} {P : Program} {fn : Func} {tmps : Array Value} {R : Ending → World → Prop} : ∀ (ds : List Nat) (w : World), ds.Nodup → (∀ d ∈ ds, w.heap[d]? = some (.deferred (some []))) → (∀ w', Kb ds w w' → LeavesInM F n P fn tmps R [] .returning w') → LeavesInM F n P fn tmps R (ds.map mk1) .returning w
  | [], w, _, _, h => h w (Kb.refl _ _)
  | d :: ds, w, hn, hd, h => by
    have hp := kb_putObj w d (.deferred none)
    have hn2 := List.nodup_cons.1 hn
    refine ⟨by simp, .inl ⟨d, _, rfl, run_takeDeferred (hd d (by simp)), leaves_marks ds _ hn2.2 (fun e he => hp.heap (fun e2 => by simp at e2; subst e2; exact hn2.1 he) (hd e (by simp [he]))) (fun w' hk => h w' ((hp.mono (by simp)).trans (hk.mono (fun k hk => List.mem_cons_of_mem _ hk))))⟩⟩
/-- Between two rounds of the first loop. -/
structure LI (w : World) (bw bb Mw Mb n E : Nat) (on : List (List Int)) (v : Nat) (s : List Int × List (List Int)) (fv : Nat → Value) (ds : List Nat) (wr : World) : Prop where
  o1 : O1 w (fun k => k = bw ∨ k = bb ∨ k ∈ ds) n (2 * ((on.take v).map List.length).sum) Mw Mb fv s.1 s.2 wr
  hw : wr.heap[bw]? = some (.cells #[.map (some Mw)] 82 (0, 0))
  hb : wr.heap[bb]? = some (.cells #[.map (some Mb)] 83 (0, 0))
  hd : ∀ d ∈ ds, wr.heap[d]? = some (.deferred (some [])) ∧ bb < d
  nd : ds.Nodup
  pl : waitsV on 0 (List.replicate n 0, List.replicate n []) = waitsV (on.drop v) (v : Int) s ∧ WB n ((on.take v).map List.length).sum s
/-- Within a round of the first loop: some numbers of a row have come. -/
structure LJ (w : World) (bw bb Mw Mb n cn Bi : Nat) (v : Nat) (s : List Int × List (List Int)) (ds : List Nat) (pre : List Int) (fv : Nat → Value) (wr : World) : Prop where
  o1 : O1 w (fun k => (k = bw ∨ k = bb ∨ k ∈ ds) ∨ k = Bi ∨ k = Bi + 1 ∨ k = Bi + 2 ∨ k = Bi + 3 ∨ k = Bi + 4) n (2 * (cn + pre.length)) Mw Mb fv (pre.foldl (stepW (v : Int)) s).1 (pre.foldl (stepW (v : Int)) s).2 wr
  hw : wr.heap[bw]? = some (.cells #[.map (some Mw)] 82 (0, 0))
  hb : wr.heap[bb]? = some (.cells #[.map (some Mb)] 83 (0, 0))
  hd : ∀ d ∈ ds, wr.heap[d]? = some (.deferred (some [])) ∧ bb < d ∧ d < Bi
  hi : wr.heap[Bi]? = some (.cells #[.int .i64 (v : Int)] 3 (0, 0))
  wb : WB n (cn + pre.length) (pre.foldl (stepW (v : Int)) s)
  or : w.heap.size ≤ Mw ∧ Mw + 1 = bw ∧ bw + 1 = Mb ∧ Mb + 1 = bb ∧ bb < Bi
section
variable {w W W' : World} {bw bb Mw Mb n cn Bi v : Nat} {s : List Int × List (List Int)} {ds : List Nat} {pre : List Int} {fv : Nat → Value}
theorem LJ.next (h : LJ w bw bb Mw Mb n cn Bi v s ds pre fv W) (hx : Ext W W') : LJ w bw bb Mw Mb n cn Bi v s ds pre fv W' :=
  ⟨h.o1.next hx, ext_block hx h.hw, ext_block hx h.hb, fun d hd => ⟨ext_block hx (h.hd d hd).1, (h.hd d hd).2⟩, ext_block hx h.hi, h.wb, h.or⟩
theorem LJ.kb (h : LJ w bw bb Mw Mb n cn Bi v s ds pre fv W) (hk : Kb [Bi + 2, Bi + 3, Bi + 4] W W') : LJ w bw bb Mw Mb n cn Bi v s ds pre fv W' := by
  obtain ⟨a1, a2, a3, a4, a5⟩ := h.or
  exact ⟨h.o1.kb hk (fun k hk => by simp at hk; omega) (by simp; omega) (by simp; omega) (fun u hu g hg e => by have := (h.o1.off u hu g hg).2.2; simp at e; exact this (.inr (.inr (.inr (e.imp id (·.imp id id)))))), hk.heap (by simp; omega) h.hw, hk.heap (by simp; omega) h.hb, fun d hd => ⟨hk.heap (fun e => by have := (h.hd d hd).2; simp at e; omega) (h.hd d hd).1, (h.hd d hd).2⟩, hk.heap (by simp) h.hi, h.wb, h.or⟩
end
theorem O1.cm {w0 w : World} {Av : Nat → Prop} {n c d Mw Mb : Nat} {fv : Nat → Value} {W : List Int} {ls : List (List Int)} (h : O1 w0 Av n c Mw Mb fv W ls w) (hd : c ≤ d) : O1 w0 Av n d Mw Mb fv W ls w := by
  obtain ⟨L1, a1, a2⟩ := h.wm
  obtain ⟨L2, b1, b2⟩ := h.bm
  exact ⟨h.ext, h.lo, h.ne, h.nW, h.nl, ⟨L1, by omega, a2⟩, ⟨L2, by omega, b2⟩, h.row, h.ap, h.off⟩
theorem stepW_set (v q : Nat) (s : List Int × List (List Int)) : stepW (v : Int) s (q : Int) = (s.1.set v (s.1.getD v 0 + 1), s.2.set q (s.2.getD q [] ++ [(v : Int)])) := by
  unfold stepW incV
  rw [Int.toNat_natCast, Int.toNat_natCast]
theorem once_mem : ∀ {seen l : List Int} {x : Int}, x ∈ onceV seen l → x ∈ l
  | _, [], x, h => by simp [onceV] at h
  | seen, y :: l, x, h => by
    rw [onceV] at h
    split at h
    · exact List.mem_cons_of_mem _ (once_mem h)
    · rcases List.mem_cons.1 h with rfl | h
      · simp
      · exact List.mem_cons_of_mem _ (once_mem h)
theorem once_len : ∀ (seen l : List Int), (onceV seen l).length ≤ l.length
  | _, [] => by simp [onceV]
  | seen, y :: l => by
    rw [onceV]
    split
    · have := once_len seen l; simp; omega
    · have := once_len (y :: seen) l; simp; omega
set_option maxRecDepth 8000 in
set_option maxHeartbeats 16000000 in
theorem ordered_any {w : World} {p : Option Addr} {n c : Nat} {vs : List Value} {on : List (List Int)} (hr : RowsIn w (.slice p n c) vs on) (hn : n = on.length) (hn1 : n ≤ 100000) (hE : (on.map List.length).sum ≤ 1000000000) (hin : ∀ l ∈ on, ∀ x ∈ l, 0 ≤ x ∧ x < (n : Int)) :
    Calls Try.prog 24 #[.slice p n c] w (RetO n (sortV on) (levelsV on) w) := by
  obtain ⟨Q, hQ⟩ : ∃ Q, Q = RetO n (sortV on) (levelsV on) w := ⟨_, rfl⟩
  rw [← hQ]
  have HQ := Lib.hid hQ
  have HR := Lib.hid (And.intro hr (And.intro hn hin))
  obtain ⟨E, hEE⟩ : ∃ E, E = (on.map List.length).sum := ⟨_, rfl⟩
  rw [← hEE] at hE
  have HEE := Lib.hid hEE
  have hcc : n ≤ c ∧ (c : Int) ≤ 9223372036854775807 := by
    obtain ⟨a', c', e, h1, h2, -⟩ := hr.top
    simp only [Value.slice.injEq] at e
    rw [e.2.2, hn]
    unfold maxLen at h2
    exact ⟨h1, by omega⟩
  obtain ⟨hcc, hcI⟩ := hcc
  clear hQ hr hn hin hEE
  have hmk := @run_makeMap Try.prog
  refine (callsIn_wide (n := 8)).1 ?_
  refine callsIn_of_wp_marks Try.func24 rfl trivial ?_ rfl
  simp only [Try.ntmps24, List.size_toArray, List.length_cons, List.length_nil, Nat.reduceAdd, Nat.reduceSub, Array.replicate_succ, Array.replicate_zero, List.push_toArray, List.append_toArray, List.nil_append, List.cons_append]
  gi_upto_region 3 with fail
  obtain ⟨Mw, hMw⟩ : ∃ z, z = w.heap.size := ⟨_, rfl⟩
  obtain ⟨bw, hbw⟩ : ∃ z, z = w.heap.size + 1 := ⟨_, rfl⟩
  obtain ⟨Mb, hMb⟩ : ∃ z, z = w.heap.size + 1 + 1 := ⟨_, rfl⟩
  obtain ⟨bb, hbb⟩ : ∃ z, z = w.heap.size + 1 + 1 + 1 := ⟨_, rfl⟩
  have q0 := IM.made Try.prog 3 w
  have x1 : Ext (w.alloc (.map #[] 0)) ((w.alloc (.map #[] 0)).alloc (.cells #[.map (some w.heap.size)] 82)) := (Ext.refl _).alloc _
  have q1 : ((w.alloc (.map #[] 0)).alloc (.cells #[.map (some w.heap.size)] 82)).heap[w.heap.size + 1]? = some (.cells #[.map (some w.heap.size)] 82 (0, 0)) := heap_alloc_at _ _ _ (by simp)
  have hx0 : Ext w ((w.alloc (.map #[] 0)).alloc (.cells #[.map (some w.heap.size)] 82)) := ((Ext.refl w).alloc _).alloc _
  have q0 := q0.ext x1
  have hz : ((w.alloc (.map #[] 0)).alloc (.cells #[.map (some w.heap.size)] 82)).heap.size = w.heap.size + 1 + 1 := by simp
  generalize ((w.alloc (.map #[] 0)).alloc (.cells #[.map (some w.heap.size)] 82)) = wa at q0 q1 hx0 hz ⊢
  clear x1
  have q2 := IM.made Try.prog 3 wa
  rw [hz] at q2
  have x2 : Ext (wa.alloc (.map #[] 0)) ((wa.alloc (.map #[] 0)).alloc (.cells #[.map (some (w.heap.size + 1 + 1))] 83)) := (Ext.refl _).alloc _
  have x3 : Ext wa ((wa.alloc (.map #[] 0)).alloc (.cells #[.map (some (w.heap.size + 1 + 1))] 83)) := ((Ext.refl _).alloc _).alloc _
  have q3 : ((wa.alloc (.map #[] 0)).alloc (.cells #[.map (some (w.heap.size + 1 + 1))] 83)).heap[w.heap.size + 1 + 1 + 1]? = some (.cells #[.map (some (w.heap.size + 1 + 1))] 83 (0, 0)) := heap_alloc_at _ _ _ (by simp [hz])
  have q2 := q2.ext x2
  have q0 := q0.ext x3
  have q1 := ext_block x3 q1
  have hx0 := hx0.trans x3
  generalize ((wa.alloc (.map #[] 0)).alloc (.cells #[.map (some (w.heap.size + 1 + 1))] 83)) = wb at q0 q1 q2 q3 hx0 ⊢
  clear x2 x3 hz
  rw [← hMw] at q0
  rw [← hbw, ← hMw] at q1
  rw [← hMb] at q2
  rw [← hbb, ← hMb] at q3
  rw [← hbb, ← hMb, ← hbw, ← hMw]
  have hMl : w.heap.size ≤ Mw ∧ Mw + 1 = bw ∧ bw + 1 = Mb ∧ Mb + 1 = bb := by omega
  have HML := Lib.hid hMl
  have HLI : Hid (LI w bw bb Mw Mb n E on 0 (List.replicate n 0, List.replicate n []) (fun _ => .slice none 0 0) [] wb) := Lib.hid ⟨(O1.made hx0 (by omega) (by omega) q0 q2 n).av (fun v hv g hg => by simp [Value.ownBlock] at hg), q1, q3, fun d hd => by simp at hd, List.nodup_nil, rfl, WB.zero n⟩
  clear q0 q1 q2 q3 hx0 hMw hbw hMb hbb hMl
  gi_wp2
  obtain ⟨J, hJ⟩ : ∃ J : Act → World → Prop, J = fun a wr => ∃ (v : Nat) (s : List Int × List (List Int)) (fv : Nat → Value) (ds : List Nat) (u6 u7 u19 u20 u21 u22 u23 u24 u38 : Value), a = { tmps := tO p n c bw bb Mw Mb u6 u7 (.int .i64 (v : Int)) u19 u20 u21 u22 u23 u24 u38, defers := ds.map mk1 } ∧ v ≤ n ∧ Hid (LI w bw bb Mw Mb n E on v s fv ds wr) := ⟨_, rfl⟩
  obtain ⟨mu, hmu⟩ : ∃ mu : Act → World → Nat, mu = fun a _ => n - (intOf (a.tmps.getD 18 undef)).toNat := ⟨_, rfl⟩
  have HJ := Lib.hid hJ
  have HM := Lib.hid hmu
  refine wpIn_loop J mu ?_ ?_
  · rw [hJ]
    exact ⟨0, _, _, [], undef, undef, undef, undef, undef, undef, undef, undef, undef, rfl, Nat.zero_le _, HLI⟩
  intro a wl hI
  rw [hJ] at hI
  obtain ⟨v, s, fv, ds, u6, u7, u19, u20, u21, u22, u23, u24, u38, rfl, hv, HS⟩ := hI
  clear hJ hmu HLI
  unfold tO
  by_cases hlt : v < n
  · have hvi : (v : Int) < (n : Int) := Int.ofNat_lt.2 hlt
    obtain ⟨xv, r, hx, hr, hrow⟩ := HR.out.1.at (j := v) (by rw [← HR.out.2.1]; exact hlt)
    obtain ⟨pr, cr, rfl, hrc, hrm, hrcell⟩ := id hrow
    have htop : ∃ b o, p = some ⟨b, o, none⟩ ∧ wl.cell? ⟨b, o + v, none⟩ = some (.slice pr r.length cr) := by
      obtain ⟨a', c', e, h1, h2, h3⟩ := HR.out.1.top
      simp only [Value.slice.injEq] at e
      obtain ⟨b, o, e1, e2⟩ := h3 v _ hx
      exact ⟨b, o, by rw [e.1, e1], HS.out.o1.ext.cell e2⟩
    obtain ⟨b, o, rfl, ct⟩ := htop
    have hbl := World.block_lt_of_cell? wl _ ct
    have hvc : v < c := by omega
    obtain ⟨m, hm⟩ : ∃ m, m = r.length := ⟨_, rfl⟩
    rw [← hm] at ct hrc hrow
    have hcrI : (cr : Int) ≤ 9223372036854775807 := by unfold maxLen at hrm; omega
    have HRR : Hid (on[v]? = some r ∧ m = r.length ∧ SlC w (.slice pr m cr) m (i64s r)) := Lib.hid ⟨hr, hm, hrow⟩
    have hmE : m ≤ 1000000000 := by
      have h1 := cnt_at hr
      have h2 := cnt_le on (v + 1)
      have := HEE.out
      omega
    obtain ⟨cn, hcn⟩ : ∃ z, z = ((on.take v).map List.length).sum := ⟨_, rfl⟩
    have hcE : cn + m ≤ E := by
      have h1 := cnt_at hr
      have h2 := cnt_le on (v + 1)
      have := HEE.out
      omega
    have HCN := Lib.hid hcn
    clear hx hr hrcell hm hrm hcn hrow
    gi_wp2_with (refine ⟨trivial, ?_⟩; gi_at_call 40; refine (callsIn_wide.2 (once_any _ _ _ _)).mono ?_; rintro e w' ⟨rfl, rfl⟩)
    have hxB : Ext wl ((wl.alloc (.cells #[.int .i64 (v : Int)] 3)).alloc (.cells #[.slice pr m cr] 36)) := ((Ext.refl wl).alloc _).alloc _
    have k1 : ((wl.alloc (.cells #[.int .i64 (v : Int)] 3)).alloc (.cells #[.slice pr m cr] 36)).heap[wl.heap.size]? = some (.cells #[.int .i64 (v : Int)] 3 (0, 0)) := ext_block ((Ext.refl _).alloc _) (heap_alloc_last wl _)
    have k2 : ((wl.alloc (.cells #[.int .i64 (v : Int)] 3)).alloc (.cells #[.slice pr m cr] 36)).heap[wl.heap.size + 1]? = some (.cells #[.slice pr m cr] 36 (0, 0)) := heap_alloc_at _ _ _ (by simp)
    have k3 : ((wl.alloc (.cells #[.int .i64 (v : Int)] 3)).alloc (.cells #[.slice pr m cr] 36)).heap.size = wl.heap.size + 2 := by simp
    generalize ((wl.alloc (.cells #[.int .i64 (v : Int)] 3)).alloc (.cells #[.slice pr m cr] 36)) = wB at hxB k1 k2 k3 ⊢
    obtain ⟨Bi, hBi⟩ : ∃ z, z = wl.heap.size := ⟨_, rfl⟩
    rw [← hBi] at k1 k2 k3
    rw [← hBi]
    have hbbi : bb < Bi := by rw [hBi]; exact (Array.getElem?_eq_some_iff.1 HS.out.hb).1
    have hLJ : LJ w bw bb Mw Mb n cn Bi v s ds [] fv wB := by
      refine ⟨?_, ext_block hxB HS.out.hw, ext_block hxB HS.out.hb, fun d hd => ⟨ext_block hxB (HS.out.hd d hd).1, (HS.out.hd d hd).2, by rw [hBi]; exact (Array.getElem?_eq_some_iff.1 (HS.out.hd d hd).1).1⟩, k1, ?_, ?_⟩
      · have h1 := HS.out.o1
        rw [← HCN.out] at h1
        exact (h1.avs (fun g hg => hg.imp id (fun h => by rw [← hBi]; omega))).next hxB
      · have h1 := HS.out.pl.2
        rw [← HCN.out] at h1
        exact h1
      · have := HML.out
        omega
    have hwB : w.heap.size ≤ Bi := by have := HML.out; omega
    have HB := Lib.hid (And.intro hLJ (And.intro k2 (And.intro k3 hxB)))
    have HPV := Lib.hid (And.intro hBi (HS.out.o1.ext.trans hxB))
    clear hLJ k1 k2 k3 hxB hBi ct hbl
    refine range_mem (F := Fence.wide) rfl (by decide) (gf := 63) (lb := #[.pointer (some ⟨Bi + 1, 0, none⟩)]) rfl trivial (enters_of Try.func63 (by kernel_rfl) rfl) (fun x => #[.int .i64 x]) (fun _ => rfl) (onceV [] r)
      (fun pre W => ∃ fv', LJ w bw bb Mw Mb n cn Bi v s ds pre fv' W) (fun k => k < w.heap.size ∨ k = Bi + 1 ∨ k = Bi + 2 ∨ k = Bi + 3 ∨ k = Bi + 4) ?z ?hix ?hik ?start ?hit ?a1 ?assign ?body ?done
    case z => rw [HB.out.2.2.1]; exact ⟨by simp, by simp⟩
    case hix => rintro s' W W' ⟨fv', h1⟩ hx; exact ⟨fv', h1.next hx⟩
    case hik =>
      rintro s' W W' ⟨fv', h1⟩ hk
      rw [HB.out.2.2.1] at hk
      exact ⟨fv', h1.kb hk⟩
    case start => exact ⟨fv, HB.out.1⟩
    case assign =>
      intro l i W K hK
      gi_wp2
      exact hK
    case hit =>
      rw [HB.out.2.2.1]
      intro l J' hJx hJk hY W hx hW hJ0
      have hsl := (HRR.out.2.2).ext (HPV.out.2.trans hx)
      refine once1_in Fence.wide (8 - 1) trivial rfl (by decide) l (Bi + 1) (Bi + 2) pr m cr r HRR.out.2.1.symm hmE (fun x hx => ?_) J' (fun k => k < w.heap.size ∨ k = Bi + 1 ∨ k = Bi + 2 ∨ k = Bi + 3 ∨ k = Bi + 4) hJx hJk ⟨by simp, by simp⟩ ?_ (by omega) hY W hW (ext_block hx HB.out.2.1) hsl hJ0
      · have := HR.out.2.2 r (List.mem_of_getElem? HRR.out.1) x hx
        unfold I64
        omega
      · intro b o hm0 e
        obtain ⟨a', c', e2, h1, h2, h3⟩ := HRR.out.2.2
        simp only [Value.slice.injEq] at e2
        obtain ⟨x, hx⟩ : ∃ x, (i64s r)[0]? = some x := ⟨_, List.getElem?_eq_getElem (by unfold i64s; rw [List.length_map, ← HRR.out.2.1]; exact hm0)⟩
        obtain ⟨b2, o2, e3, e4⟩ := h3 0 x hx
        have e5 := World.block_lt_of_cell? _ _ e4
        rw [← e2.1, e] at e3
        simp only [Option.some.injEq, Addr.mk.injEq] at e3
        obtain ⟨rfl, -⟩ := e3
        simp only at e5
        exact ⟨.inl e5, by omega⟩
    case done =>
      rw [HB.out.2.2.1]
      rintro W ⟨fv', h⟩ hsz hdf
      have HE : Hid (LI w bw bb Mw Mb n E on (v + 1) ((onceV [] r).foldl (stepW (v : Int)) s) fv' ((Bi + 2) :: ds) W) := Lib.hid (by
        have h2 := once_len [] r
        have h3 := cnt_at HRR.out.1
        rw [← HCN.out] at h3
        refine ⟨?_, h.hw, h.hb, fun d hd => ?_, ?_, ?_, ?_⟩
        · rw [h3]
          refine (h.o1.av (fun u hu g hg e => (h.o1.off u hu g hg).2.2 ?_)).cm (by omega)
          rcases e with e | e | e
          · exact .inl (.inl e)
          · exact .inl (.inr (.inl e))
          · rcases List.mem_cons.1 e with e | e
            · exact .inr (.inr (.inr (.inl e)))
            · exact .inl (.inr (.inr e))
        · rcases List.mem_cons.1 hd with rfl | hd
          · exact ⟨hdf, by omega⟩
          · exact ⟨(h.hd d hd).1, (h.hd d hd).2.1⟩
        · refine List.nodup_cons.2 ⟨fun e => by have := (h.hd _ e).2; omega, HS.out.nd⟩
        · rw [HS.out.pl.1, waitsV_at HRR.out.1]
          rfl
        · rw [h3]
          exact h.wb.mono (by omega))
      clear h hdf
      gi_wp2
      rw [HJ.out, HM.out]
      refine ⟨⟨v + 1, _, fv', (Bi + 2) :: ds, _, _, _, _, _, _, _, _, _, rfl, by omega, HE⟩, ?_⟩
      simp [intOf, tO]
      omega
    case body =>
      rw [HB.out.2.2.1]
      rintro l pre x rest W hxs ⟨fv', h⟩ hsz
      have hxm : x ∈ r := once_mem (seen := []) (by rw [hxs]; simp)
      have hxb := HR.out.2.2 r (List.mem_of_getElem? HRR.out.1) x hxm
      obtain ⟨q, hq⟩ : ∃ q : Nat, x = (q : Int) := ⟨x.toNat, by omega⟩
      subst hq
      have hqn : q < n := by omega
      have hqi : (q : Int) < (n : Int) := by omega
      have hpl : cn + pre.length ≤ 1000000000 := by
        have h2 := once_len [] r
        rw [hxs, ← HRR.out.2.1] at h2
        simp at h2
        omega
      have c1 : W.cell? ⟨bw, 0, none⟩ = some (.map (some Mw)) := by rw [cell_of_row W bw 0 _ _ (0, 0) h.hw]; rfl
      have c2 : W.cell? ⟨Bi, 0, none⟩ = some (.int .i64 (v : Int)) := by rw [cell_of_row W Bi 0 _ _ (0, 0) h.hi]; rfl
      have l1 := World.block_lt_of_cell? _ _ c1
      have l2 := World.block_lt_of_cell? _ _ c2
      have hlk := h.o1.lookW hlt (by omega)
      obtain ⟨X, hX⟩ : ∃ z, z = (pre.foldl (stepW (v : Int)) s).1.getD v 0 := ⟨_, rfl⟩
      rw [← hX] at hlk
      have hXb : 0 ≤ X ∧ X ≤ 1000000000 := by
        have h1 := h.wb.lo X (by rw [hX]; exact getD_mem (by rw [h.wb.n1]; exact hlt))
        omega
      obtain ⟨hX0, hX1⟩ := hXb
      obtain ⟨w8, hrun8, ho8, hk8⟩ := h.o1.putW hlt (by omega) (by omega) (X + 1)
      have H8 := Lib.hid (And.intro h (And.intro ho8 (And.intro hk8 (And.intro hX hxs))))
      clear ho8 hk8 hX hxs h hxb hxm
      gi_upto_region 9 with fail
      obtain ⟨va, vm, vc, hfq⟩ := own_slice3 (H8.out.2.1.row q hqn)
      have hq1 := H8.out.2.1
      have hk8 := H8.out.2.2.1
      obtain ⟨o1, o2, o3, o4, o5⟩ := H8.out.1.or
      have hb8 := hk8.heap (by simp; omega) H8.out.1.hb
      have hi8 := hk8.heap (by simp; omega) H8.out.1.hi
      have d1 : w8.cell? ⟨bb, 0, none⟩ = some (.map (some Mb)) := by rw [cell_of_row w8 bb 0 _ _ (0, 0) hb8]; rfl
      have d2 : w8.cell? ⟨Bi, 0, none⟩ = some (.int .i64 (v : Int)) := by rw [cell_of_row w8 Bi 0 _ _ (0, 0) hi8]; rfl
      have hlb := hq1.lookB hqn (by omega)
      rw [hfq] at hlb
      have hz8 := hk8.size
      clear hlk hrun8 c1 c2 l1 l2
      refine hd_in (S := fun w' => w'.cell? ⟨bb, 0, none⟩ = some (.map (some Mb)) ∧ w'.cell? ⟨Bi, 0, none⟩ = some (.int .i64 (v : Int)) ∧ (Instr.lookup 83 (.map (some Mb)) (.int .i64 (q : Int)) false).run Try.prog w' = .ok (.slice va vm vc) w') 8 (by kernel_rfl) (by kernel_rfl) (by kernel_rfl) ⟨(Ext.refl w8).drew.cell d1, (Ext.refl w8).drew.cell d2, by rw [← hfq]; exact (hq1.next (Ext.refl w8).drew).lookB hqn (by omega)⟩ (fun hHeld => ?_)
      have hxd : Ext w8 w8.drew := (Ext.refl w8).drew
      clear hlb
      generalize w8.drew = wd at hxd hHeld ⊢
      refine hd_take (i := 0) (v := .map (some Mb)) rfl (by kernel_rfl) (by kernel_rfl) (fun _ _ _ h => by cases h.1) (Or.inl ⟨by rfl, fun w' hSw => by ((try dsimp only at hSw); go_simp)⟩) hHeld ?_
      try simp only [Act.put, List.setIfInBounds_toArray, List.set_cons_zero, List.set_cons_succ]
      refine hd_take (i := 1) (v := .int .i64 (q : Int)) rfl (by kernel_rfl) (by kernel_rfl) (fun _ _ _ h => by cases h.1) (Or.inl ⟨by rfl, fun w' hSw => by ((try dsimp only at hSw); go_simp)⟩) hHeld ?_
      try simp only [Act.put, List.setIfInBounds_toArray, List.set_cons_zero, List.set_cons_succ]
      refine hd_take (i := 2) (v := .map (some Mb)) rfl (by kernel_rfl) (by kernel_rfl) (fun _ _ _ h => by cases h.1) (Or.inl ⟨by rfl, fun w' hSw => by ((try dsimp only at hSw); go_simp)⟩) hHeld ?_
      try simp only [Act.put, List.setIfInBounds_toArray, List.set_cons_zero, List.set_cons_succ]
      refine hd_take (i := 3) (v := .int .i64 (q : Int)) rfl (by kernel_rfl) (by kernel_rfl) (fun _ _ _ h => by cases h.1) (Or.inl ⟨by rfl, fun w' hSw => by ((try dsimp only at hSw); go_simp)⟩) hHeld ?_
      try simp only [Act.put, List.setIfInBounds_toArray, List.set_cons_zero, List.set_cons_succ]
      refine hd_take (i := 4) (v := .slice va vm vc) rfl (by kernel_rfl) (by kernel_rfl) (fun _ _ _ h => by cases h.1) (Or.inl ⟨by rfl, fun w' hSw => by ((try dsimp only at hSw); go_simp)⟩) hHeld ?_
      try simp only [Act.put, List.setIfInBounds_toArray, List.set_cons_zero, List.set_cons_succ]
      refine hd_take (i := 5) (v := .int .i64 (v : Int)) rfl (by kernel_rfl) (by kernel_rfl) (fun _ _ _ h => by cases h.1) (Or.inl ⟨by rfl, fun w' hSw => by ((try dsimp only at hSw); go_simp)⟩) hHeld ?_
      try simp only [Act.put, List.setIfInBounds_toArray, List.set_cons_zero, List.set_cons_succ]
      refine hd_one (i := 6) rfl (by kernel_rfl) (by decide) (fun K hK => ?_)
      go_simp
      have hxn : Ext wd (wd.alloc (.cells #[.int .i64 (v : Int)] 3)) := (Ext.refl wd).alloc _
      have hsn : SlC (wd.alloc (.cells #[.int .i64 (v : Int)] 3)) (.slice (some ⟨wd.heap.size, 0, none⟩) 1 1) 1 [.int .i64 (v : Int)] := SlC.fresh wd #[.int .i64 (v : Int)] _ 1 _ rfl (by decide)
      refine hK.out _ _ ⟨hxn.cell hHeld.1, hxn.cell hHeld.2.1, by rw [← hfq]; exact (hq1.next (hxd.trans hxn)).lookB hqn (by omega)⟩ (fun hHeld => ?_)
      clear hK K
      try simp only [Act.put, List.setIfInBounds_toArray, List.set_cons_zero, List.set_cons_succ]
      have HXN := Lib.hid (hxd.trans hxn)
      generalize (wd.alloc (.cells #[.int .i64 (v : Int)] 3)) = wn at hxn hsn HXN hHeld ⊢
      generalize wd.heap.size = N at hsn ⊢
      obtain ⟨ql, hql⟩ : ∃ z, z = (pre.foldl (stepW (v : Int)) s).2.getD q [] := ⟨_, rfl⟩
      have hqn9 := hq1.next HXN.out
      have hon := hqn9.row q hqn
      rw [hfq, ← hql] at hon
      have hqll : ql.length ≤ 1000000000 := by
        have h5 : q < (pre.foldl (stepW (v : Int)) s).2.length := by rw [H8.out.1.wb.n2]; exact hqn
        have h6 : ql ∈ (pre.foldl (stepW (v : Int)) s).2 := by
          rw [hql, List.getD, List.getElem?_eq_getElem h5]
          exact List.getElem_mem _
        have := (H8.out.1.wb.beh ql h6).1
        omega
      refine hd_one (i := 7) rfl (by kernel_rfl) (by decide) (fun K hK => ?_)
      refine step_append_slc _ rfl (.tmp 34) (.tmp 36) 36 rfl w.heap.size 3 (.int .i64 0) 1 8 Try.underlying36 infoInt rfl (by decide) (.slice va vm vc) ql.length (i64s ql) rfl hon _ 1 [.int .i64 (v : Int)] rfl hsn rfl (by simp [Value.oneCell']) (by unfold maxLen; omega) (by omega) (hqn9.ext.size) ?_
      intro v3 w6 hown3 hg3 hat3
      obtain ⟨x9, y9, z9, rfl⟩ := own_slice3 hown3
      have hk6 : Kb (Value.ownBlock (.slice va vm vc)).toList wn w6 := Kb.grown hg3 (fun g hg => Option.mem_toList.2 hg)
      have hoff := fun g (e : g ∈ (Value.ownBlock (.slice va vm vc)).toList) => hqn9.off q hqn g (by rw [hfq]; exact Option.mem_toList.1 e)
      have hlk6 : (Instr.lookup 83 (.map (some Mb)) (.int .i64 (q : Int)) false).run Try.prog w6 = .ok (.slice va vm vc) w6 := by
        obtain ⟨L2, g1, g2, g3⟩ := hqn9.bm
        rw [← hfq, ← g3 q hqn]
        exact (g2.kb hk6 (fun e => (hoff _ e).2.1 rfl)).look Try.underlying3 Try.underlying83 (czeroInts w6) (wfI (by unfold I64; omega))
      refine hK.out _ _ ⟨hk6.cell (fun e => (hoff _ e).2.2 (.inl (.inr (.inl rfl)))) hHeld.1, hk6.cell (fun e => (hoff _ e).2.2 (.inr (.inl rfl))) hHeld.2.1, hlk6⟩ (fun hHeld => ?_)
      clear hK K hlk6
      try simp only [Act.put, List.setIfInBounds_toArray, List.set_cons_zero, List.set_cons_succ]
      refine hd_end (by kernel_rfl) ?_
      simp only [List.drop_succ_cons, List.drop_zero]
      obtain ⟨w9, hrun9, ho9, hk9⟩ := hqn9.putB (q := q) (l := ql) (x := (v : Int)) hqn (by omega) (by omega) hql.symm (by rw [hfq]; exact hk6) (by rw [show i64s (ql ++ [(v : Int)]) = i64s ql ++ [.int .i64 (v : Int)] by simp [i64s]]; exact hown3) (by rw [hfq]; exact hat3.imp id (fun e => ⟨_, e, Nat.le_refl _⟩)) (fun k hk => by
        have h1 := HXN.out.size
        rcases hk with (rfl | rfl | hk) | rfl | rfl | rfl | rfl | rfl
        · omega
        · omega
        · have := (H8.out.1.hd k hk).2; omega
        all_goals omega)
      have H9 := Lib.hid (And.intro ho9 hk9)
      clear hown3 hg3 hat3 hk6 hoff ho9 hk9
      go_wp2
      refine ⟨rfl, ?_⟩
      try gi_wp2
      have hst : (pre ++ [(q : Int)]).foldl (stepW (v : Int)) s = ((pre.foldl (stepW (v : Int)) s).1.set v (X + 1), (pre.foldl (stepW (v : Int)) s).2.set q (ql ++ [(v : Int)])) := by
        rw [List.foldl_append, List.foldl_cons, List.foldl_nil, stepW_set, ← H8.out.2.2.2.1, ← hql]
      have hkA : Kb (Mw :: Mb :: (fv' q).ownBlock.toList) W w9 := ((H8.out.2.2.1.mono (by simp)).trans (Kb.of_ext HXN.out)).trans (H9.out.2.mono (fun k hk => List.mem_cons_of_mem _ hk))
      have hnot : ∀ k, ((k = bw ∨ k = bb ∨ k ∈ ds) ∨ k = Bi ∨ k = Bi + 1 ∨ k = Bi + 2 ∨ k = Bi + 3 ∨ k = Bi + 4) → k ∉ Mw :: Mb :: (fv' q).ownBlock.toList := fun k hk e => by
        rcases List.mem_cons.1 e with e | e
        · rcases hk with (hk | hk | hk) | hk
          · omega
          · omega
          · have := (H8.out.1.hd k hk).2; omega
          · omega
        rcases List.mem_cons.1 e with e | e
        · rcases hk with (hk | hk | hk) | hk
          · omega
          · omega
          · have := (H8.out.1.hd k hk).2; omega
          · omega
        · exact (H8.out.1.o1.off q hqn k (Option.mem_toList.1 e)).2.2 hk
      refine ⟨KpZ.of_kb hkA (fun k hk e => ?_), updF fv' q (.slice x9 y9 z9), ?_, hkA.heap (hnot _ (.inl (.inl rfl))) H8.out.1.hw, hkA.heap (hnot _ (.inl (.inr (.inl rfl)))) H8.out.1.hb, fun d hd => ⟨hkA.heap (hnot _ (.inl (.inr (.inr hd)))) (H8.out.1.hd d hd).1, (H8.out.1.hd d hd).2⟩, hkA.heap (hnot _ (.inr (.inl rfl))) H8.out.1.hi, ?_, H8.out.1.or⟩
      · rcases e with e | e
        · rcases List.mem_cons.1 hk with h1 | h1
          · omega
          rcases List.mem_cons.1 h1 with h1 | h1
          · omega
          · have := ((H8.out.1.o1.row q hqn).lt k (Option.mem_toList.1 h1)).1
            omega
        · exact hnot k (.inr (.inr e)) hk
      · rw [hst]
        exact H9.out.1.cm (by simp; omega)
      · have h1 := H8.out.1.wb.step hlt hqn
        rw [List.foldl_append, List.foldl_cons, List.foldl_nil, List.length_append]
        exact h1
  · have hvi : ¬ (v : Int) < (n : Int) := fun e => hlt (Int.ofNat_lt.1 e)
    obtain rfl : v = n := by omega
    have HC : Hid (waitsV on 0 (List.replicate v 0, List.replicate v []) = s ∧ WB v E s) := Lib.hid (by
      refine ⟨by rw [HS.out.pl.1, HR.out.2.1, List.drop_length, waitsV], ?_⟩
      have := HS.out.pl.2
      rw [show on.take v = on by rw [HR.out.2.1, List.take_length], ← HEE.out] at this
      exact this)
    have HO1 : Hid (O1 w (fun k => k = bw ∨ k = bb ∨ k ∈ ds) v (2 * E) Mw Mb fv s.1 s.2 wl) := Lib.hid (by
      have := HS.out.o1
      rw [show on.take v = on by rw [HR.out.2.1, List.take_length], ← HEE.out] at this
      exact this)
    have hmk1 := run_make_row' (P := Try.prog) 36 3 (.int .i64 0) 8 Try.underlying36 infoInt rfl .i64 .i64 v (by omega) (by omega)
    gi_wp2
    have z1 : ((wl.alloc (.cells (madeCells #[.int .i64 0] v) 3)).alloc (.cells #[.slice none 0 0] 89)).heap[wl.heap.size]? = some (.cells (madeCells #[.int .i64 0] v) 3 (0, 0)) := ext_block ((Ext.refl _).alloc _) (heap_alloc_last wl _)
    have z2 : ((wl.alloc (.cells (madeCells #[.int .i64 0] v) 3)).alloc (.cells #[.slice none 0 0] 89)).heap[wl.heap.size + 1]? = some (.cells #[.slice none 0 0] 89 (0, 0)) := heap_alloc_at _ _ _ (by simp)
    have z3 : Ext wl ((wl.alloc (.cells (madeCells #[.int .i64 0] v) 3)).alloc (.cells #[.slice none 0 0] 89)) := ((Ext.refl _).alloc _).alloc _
    generalize ((wl.alloc (.cells (madeCells #[.int .i64 0] v) 3)).alloc (.cells #[.slice none 0 0] 89)) = wm at z1 z2 z3 ⊢
    obtain ⟨V, hV⟩ : ∃ z, z = wl.heap.size := ⟨_, rfl⟩
    obtain ⟨L, hL⟩ : ∃ z, z = V + 1 := ⟨_, rfl⟩
    rw [← hV, ← hL] at z2
    rw [← hV] at z1
    rw [← hV, ← hL]
    have hst : O2 wl Mw L V v (2 * E) s.1 [] (List.replicate v 0) (.slice none 0 0) [] wm := by
      have hpl : PLs wm wl.heap.size L [] := ⟨⟨_, z2, own_nil _ _ _ _, fun b hb => by simp [Value.ownBlock] at hb⟩, by omega⟩
      have htL : ∀ z, TbO L wm z → z = L := fun z hz => by
        rcases hz with rfl | ⟨j, u, h1, h2⟩
        · rfl
        · rw [cell_of_row wm L j _ _ (0, 0) z2] at h1
          cases j with
          | zero =>
            simp at h1
            subst h1
            simp [Value.ownBlock] at h2
          | succ j => simp at h1
      obtain ⟨L1, a1, a2, a3⟩ := HO1.out.wm
      refine ⟨Kb.of_ext z3, HO1.out.ltw, HO1.out.nW, ⟨L1, a1, a2.ext z3, a3⟩, hpl, ?_, own_nil _ _ _ _, fun e => by have := htL _ e; omega, by simp [Value.ownBlock], fun z hz => by simp [Value.ownBlock] at hz⟩
      rw [show i64s (List.replicate v 0) = List.replicate v (.int .i64 0) by simp [i64s]]
      exact own_made V _ (by omega) (by unfold maxLen; omega) z1
    have HST := Lib.hid hst
    have HVL := Lib.hid (And.intro hV hL)
    have c4 : wm.cell? ⟨bw, 0, none⟩ = some (.map (some Mw)) := by rw [cell_of_row wm bw 0 _ _ (0, 0) (ext_block z3 HS.out.hw)]; rfl
    have HBX : Hid (∀ w', Kb [Mw] wl w' → w'.cell? ⟨bw, 0, none⟩ = some (.map (some Mw)) ∧ w'.cell? ⟨bb, 0, none⟩ = some (.map (some Mb)) ∧ bw < w'.heap.size ∧ bb < w'.heap.size) := Lib.hid (fun w' hk => by
      have hh := HML.out
      have e1 : w'.cell? ⟨bw, 0, none⟩ = some (.map (some Mw)) := by rw [cell_of_row w' bw 0 _ _ (0, 0) (hk.heap (by simp; omega) HS.out.hw)]; rfl
      have e2 : w'.cell? ⟨bb, 0, none⟩ = some (.map (some Mb)) := by rw [cell_of_row w' bb 0 _ _ (0, 0) (hk.heap (by simp; omega) HS.out.hb)]; rfl
      exact ⟨e1, e2, World.block_lt_of_cell? _ _ e1, World.block_lt_of_cell? _ _ e2⟩)
    clear z1 z2 z3 hst hV hL c4 hmk1
    gi_loopw [46] (fun iv wq => ∃ (k : Nat) (h : List Int), k ≤ v ∧ iv = .int .i64 (k : Int) ∧ h.length ≤ k ∧ Hid (O2 wl Mw L V v (2 * E) s.1 h (List.replicate v 0) (.slice none 0 0) [] wq) ∧ Hid (readyV s.1 0 [] = readyV (s.1.drop k) (k : Int) h ∧ ∀ x ∈ h, 0 ≤ x ∧ x < (v : Int))) (fun iv _ => v - (intOf iv).toNat)
    case atStart => exact ⟨0, [], Nat.zero_le _, rfl, Nat.le_refl _, HST, Lib.hid ⟨rfl, fun x hx => by simp at hx⟩⟩
    case round =>
      obtain ⟨k, h, hk, rfl, hhl, HT, HK⟩ := hrel
      by_cases hlt3 : k < v
      · have hki : (k : Int) < (v : Int) := Int.ofNat_lt.2 hlt3
        obtain ⟨c1, c2, l1, l2⟩ := HBX.out wr HT.out.kb
        have hlk := HT.out.look hlt3 (by omega)
        obtain ⟨X, hX⟩ : ∃ z, z = s.1.getD k 0 := ⟨_, rfl⟩
        rw [← hX] at hlk
        have HXX : Hid (s.1[k]? = some X) := Lib.hid (by
          have h1 : k < s.1.length := by rw [HT.out.nW]; exact hlt3
          rw [hX, List.getElem?_eq_getElem h1]; simp [List.getD, List.getElem?_eq_getElem h1])
        clear hX
        by_cases hz : X = 0
        · have hq : (X == 0) = true := by simpa using hz
          have HCC : Hid (readyV s.1 0 [] = readyV (s.1.drop (k + 1)) ((k : Int) + 1) (pushV h (k : Int))) := Lib.hid (by rw [HK.out.1, readyV_at HXX.out, if_pos hz])
          have HPU : Hid (Calls Try.prog 41 #[.iface 87 (.pointer (some ⟨L, 0, none⟩)), .iface 3 (.int .i64 (k : Int))] wr (RetN (TbO L) (fun w' => PLs w' wl.heap.size L (pushV h (k : Int))) wr)) := Lib.hid (hpush_any HT.out.pl (k : Int) (by omega) HT.out.kb.size)
          clear hz
          gi_wp2_with (refine ⟨trivial, ?_⟩; gi_at_call 41; refine (callsIn_wide.2 HPU.out).mono ?_; rintro e1 w1 ⟨rfl, H1⟩)
          refine ⟨⟨k + 1, pushV h (k : Int), by omega, by go_num, by rw [pushV_len]; omega, Lib.hid (HT.out.heap H1.out.1 H1.out.2), Lib.hid ⟨HCC.out, fun x hx => ?_⟩⟩, by simp [intOf]; omega⟩
          rcases pushV_mem hx with hx | rfl
          · exact HK.out.2 x hx
          · omega
        · have hq : (X == 0) = false := by simpa using hz
          have HCC : Hid (readyV s.1 0 [] = readyV (s.1.drop (k + 1)) ((k : Int) + 1) h) := Lib.hid (by rw [HK.out.1, readyV_at HXX.out, if_neg hz])
          clear hz
          gi_wp2
          exact ⟨⟨k + 1, h, by omega, by go_num, by omega, HT, Lib.hid ⟨HCC.out, HK.out.2⟩⟩, by simp [intOf]; omega⟩
      · have hki : ¬ (k : Int) < (v : Int) := fun e => hlt3 (Int.ofNat_lt.1 e)
        obtain rfl : k = v := by omega
        have HRY : Hid (readyV s.1 0 [] = h) := Lib.hid (by rw [HK.out.1, List.drop_eq_nil_of_le (by rw [HT.out.nW]; exact Nat.le_refl _), readyV])
        obtain ⟨F0, hF0⟩ : ∃ z, z = k + E + 1 := ⟨_, rfl⟩
        have HSV : Hid (sortV on = goV F0 s.2 s.1 h [] ∧ levelsV on = goL F0 s.2 s.1 h (List.replicate k 0)) := Lib.hid (by
          unfold sortV levelsV fuelS
          rw [← HR.out.2.1, ← HEE.out, ← hF0, HC.out.1, HRY.out]
          exact ⟨rfl, rfl⟩)
        have HGB : Hid (GB k (k + E) 0 E s.1 h) := Lib.hid ⟨HT.out.nW, fun x hx => by have := HC.out.2.lo x hx; omega, by have := HC.out.2.sum; omega, HK.out.2⟩
        have HF0 := Lib.hid hF0
        clear hF0
        gi_wp2
        have hta := assertInt
        refine wpIn_wide.2 ?_
        go_loopg [2] F0 (fun gk ovv wr => ∃ (f lo : Nat) (h W lev out : List Int), gk = f + 1 ∧ out.length + gk ≤ F0 ∧ Hid (O2 wl Mw L V k (2 * E + lo) W h lev ovv out wr) ∧ Hid (sortV on = goV gk s.2 W h out ∧ levelsV on = goL gk s.2 W h lev ∧ GB k f lo E W h ∧ lo + f * E ≤ (k + E) * E ∧ ∀ x ∈ lev, 0 ≤ x ∧ x ≤ (lo : Int)))
        case atStart => exact ⟨k + E, 0, h, s.1, List.replicate k 0, [], HF0.out, by simp, HT, Lib.hid ⟨HSV.out.1, HSV.out.2, HGB.out, by omega, fun x hx => by rw [List.eq_of_mem_replicate hx]; simp⟩⟩
        case round =>
          obtain ⟨f, lo, h, W, lev, out, rfl, hol, HT, HG⟩ := hrel
          obtain ⟨vL, hvL, hcL⟩ := HT.out.pl.len
          have HCL := Lib.hid hcL
          have hvl2 := HT.out.pl.lt
          obtain ⟨pa, pc, rfl⟩ := own_n HT.out.ou
          clear hcL
          by_cases hne : h = []
          · subst hne
            have HO : Hid (sortV on = out ∧ levelsV on = lev) := Lib.hid (by rw [HG.out.1, HG.out.2.1, goV_nil, goL_nil]; exact ⟨rfl, rfl⟩)
            have HCL0 : Hid (Calls Try.prog 42 #[.pointer (some ⟨L, 0, none⟩)] wr (fun e w' => e = .returned (.int .i64 0) ∧ w' = wr)) := Lib.hid HCL.out
            obtain ⟨ol, hol2⟩ : ∃ z, z = out.length := ⟨_, rfl⟩
            rw [← hol2]
            have HOL := Lib.hid hol2
            clear HCL hol2
            go_wp2_with (first | (go_at_call 42; refine HCL0.out.mono ?_; rintro e1 w1 ⟨rfl, rfl⟩) | fail)
            gi_wp2
            show LeavesInM Fence.wide 8 Try.prog Try.f24 _ Q (ds.map mk1) .returning _
            refine leaves_marks ds _ HS.out.nd (fun d hd => ?_) (fun w' hk => ?_)
            · have h1 := HS.out.hd d hd
              have hh := HML.out
              exact HT.out.kb.heap (by simp; omega) h1.1
            · have hlt : ∀ d ∈ ds, d < wl.heap.size ∧ w.heap.size ≤ d := fun d hd => by
                have h1 := HS.out.hd d hd
                have hh := HML.out
                exact ⟨(Array.getElem?_eq_some_iff.1 h1.1).1, by omega⟩
              have hou := hk.row HT.out.ou (fun g hg e => by have := (HT.out.ou.lt g e).1; have := hlt g hg; omega)
              have hlv := hk.row HT.out.lv (fun g hg e => by have := (HT.out.lv.lt g e).1; have := hlt g hg; omega)
              have hxw : Ext w w' := hk.ext (HT.out.kb.ext HO1.out.ext (fun g hg => by simp at hg; subst hg; exact HO1.out.lo.1)) (fun d hd => (hlt d hd).2)
              rw [← HOL.out] at hou
              refine ⟨.tuple #[.slice pa ol pc, .slice (some ⟨V, 0, none⟩) k k], by simp [results, Try.f24, go_sem], ?_⟩
              rw [HQ.out, HO.out.1, HO.out.2]
              exact ⟨pa, pc, some ⟨V, 0, none⟩, by rw [HOL.out], Lib.hid ⟨by have := SlC.of_owns hou; rw [HOL.out] at this; exact this, SlC.of_owns hlv, hxw⟩⟩
          · have hpos : (0 : Int) < (h.length : Int) := by have := List.length_pos_iff.2 hne; omega
            obtain ⟨hn0, hhn⟩ : ∃ z, z = h.length := ⟨_, rfl⟩
            rw [← hhn] at HCL hpos
            have hphi := HG.out.2.2.1.phi
            obtain ⟨f, rfl⟩ : ∃ f', f = f' + 1 := ⟨f - 1, by omega⟩
            obtain ⟨hgp, hX0, hX1⟩ := HG.out.2.2.1.pop hne
            have hFb : f ≤ 2000000000 := by have := HF0.out; omega
            have HPO := Lib.hid (hpop_any HT.out.pl (by omega) (by have := HF0.out; omega))
            obtain ⟨q, hq⟩ : ∃ q : Nat, (popV h).1 = (q : Int) := ⟨(popV h).1.toNat, by omega⟩
            rw [hq] at HPO hX0 hX1
            have hqn : q < k := by omega
            have HGP := Lib.hid hgp
            have HGS : Hid (sortV on = goV (f + 1) s.2 (freeV (s.2.getD q []) (W, (popV h).2)).1 (freeV (s.2.getD q []) (W, (popV h).2)).2 (out ++ [(q : Int)]) ∧ levelsV on = goL (f + 1) s.2 (freeV (s.2.getD q []) (W, (popV h).2)).1 (freeV (s.2.getD q []) (W, (popV h).2)).2 (levV (s.2.getD q []) (q : Int) lev)) := Lib.hid (by
              rw [HG.out.1, HG.out.2.1, goV_step _ _ _ _ _ hne, goL_step _ _ _ _ _ hne, hq, Int.toNat_natCast]
              exact ⟨rfl, rfl⟩)
            have hLO : lo + E ≤ 2000000000000000000 ∧ lo + E + f * E ≤ (k + E) * E := by
              have h1 := HG.out.2.2.2.1
              rw [Nat.succ_mul] at h1
              have h2 : (k + E) * E ≤ 1001000000 * 1000000000 := Nat.mul_le_mul (by omega) (by omega)
              omega
            have HLO := Lib.hid hLO
            have hlo1 := hLO.1
            obtain ⟨ol, hol2⟩ : ∃ z, z = out.length := ⟨_, rfl⟩
            rw [← hol2] at hol ⊢
            have HOL := Lib.hid hol2
            obtain ⟨hq', hhq'⟩ : ∃ z, z = (popV h).2 := ⟨_, rfl⟩
            rw [← hhq'] at HPO HGP HGS
            have holb : ol ≤ 3000000000 := by have := HF0.out; omega
            clear hgp hX0 hX1 hq hne hLO hphi hhn hhq' hol2
            go_upto_region 20 with (first | (go_at_call 42; refine HCL.out.mono ?_; rintro e1 w1 ⟨rfl, rfl⟩) | fail)
            clear hvL
            go_upto_region 21 with (first | (go_at_call 43; refine HPO.out.mono ?_; rintro e2 w2 ⟨rfl, H2⟩) | fail)
            have hs2 := HT.out.heap H2.out.1 H2.out.2
            have HS2 := Lib.hid hs2
            have hou2 : w2.ownsRow wl.heap.size 3 1 (.slice pa ol pc) ol (i64s out) := by
              have h1 := hs2.ou
              rw [← HOL.out] at h1
              exact h1
            have HOU2 := Lib.hid hou2
            have hws2 : wl.heap.size ≤ w2.heap.size := hs2.kb.size
            clear hs2 hou2
            go_upto_region 22 with (at_builtin; (refine wpList_append_slc _ rfl (.tmp 66) (.tmp 68) 36 rfl wl.heap.size 3 (.int .i64 0) 1 8 Try.underlying36 infoInt rfl (by decide) (.slice pa ol pc) ol (i64s out) rfl (HOU2.out.alloc (.cells #[.int .i64 (q : Int)] 3)) _ 1 [.int .i64 (q : Int)] rfl (SlC.fresh _ #[.int .i64 (q : Int)] _ 1 _ (by simp) (by decide)) rfl (by simp [Value.oneCell']) (by unfold maxLen; omega) (by omega) (by simp; omega) ?_; intro v9 w3 hown9 hg9 hat9; obtain ⟨xc, zc, rfl⟩ := own_n hown9; have HC9 := Lib.hid (And.intro hown9 (And.intro hg9 hat9)); clear hown9 hg9 hat9))
            have hs3 : O2 wl Mw L V k (2 * E + lo) W hq' lev (.slice xc (ol + 1) zc) (out ++ [(q : Int)]) w3 := by
              have h1 := HS2.out.next ((Ext.refl w2).alloc (.cells #[.int .i64 (q : Int)] 3))
              rw [← HOL.out] at h1
              refine h1.push (Kb.grown HC9.out.2.1 (fun g hg => Option.mem_toList.2 hg)) ?_ (HC9.out.2.2.imp id (fun e => ⟨_, e, Nat.le_refl _⟩))
              rw [← HOL.out, show i64s (out ++ [(q : Int)]) = i64s out ++ [.int .i64 (q : Int)] by simp [i64s]]
              exact HC9.out.1
            have HS3 := Lib.hid hs3
            obtain ⟨l, hl⟩ : ∃ z, z = s.2.getD q [] := ⟨_, rfl⟩
            have hln : s.2[q]? = some l := by
              have h5 : q < s.2.length := by rw [HO1.out.nl]; exact hqn
              rw [hl, List.getElem?_eq_getElem h5]
              simp [List.getD, List.getElem?_eq_getElem h5]
            obtain ⟨hlkb, hown⟩ := HO1.out.later hs3.kb (by omega) hqn
            rw [← hl] at hown
            obtain ⟨qv, hqv⟩ : ∃ z, z = fv q := ⟨_, rfl⟩
            rw [← hqv] at hown hlkb
            have HQV := Lib.hid hqv
            obtain ⟨qa, qc, rfl⟩ := own_n hown
            have hqI : (q : Int) < (k : Int) := by omega
            obtain ⟨c1, c2, l1, l2⟩ := HBX.out w3 hs3.kb
            obtain ⟨m2, hm2⟩ : ∃ z, z = l.length := ⟨_, rfl⟩
            rw [← hm2] at hlkb
            have hqc : m2 ≤ qc ∧ (qc : Int) ≤ 9223372036854775807 := by
              obtain ⟨a', c', e, h1, h2, -⟩ := SlC.of_owns hown
              simp only [Value.slice.injEq] at e
              rw [e.2.2, hm2]
              unfold maxLen at h2
              exact ⟨h1, by omega⟩
            obtain ⟨hqc1, hqc2⟩ := hqc
            have hbeh := HC.out.2.beh l (List.mem_of_getElem? hln)
            have hm2E : m2 ≤ E := by rw [hm2]; exact hbeh.1
            have HLL := Lib.hid (And.intro hl (And.intro hm2 hbeh.2))
            clear hs3 hl hln hown hbeh hm2 hvl2 hqv
            go_upto_region 23 with fail
            clear c1 c2 l1 l2 hlkb
            go_loopw [74] (fun iv wr => ∃ (i : Nat) (W2 h2 lev2 : List Int), i ≤ m2 ∧ iv = .int .i64 (i : Int) ∧ Hid (O2 wl Mw L V k (2 * E + (lo + i)) W2 h2 lev2 (.slice xc (ol + 1) zc) (out ++ [(q : Int)]) wr) ∧ Hid (freeV l (W, hq') = freeV (l.drop i) (W2, h2) ∧ levV l (q : Int) lev = levV (l.drop i) (q : Int) lev2 ∧ GB k f (lo + i) E W2 h2 ∧ ∀ x ∈ lev2, 0 ≤ x ∧ x ≤ ((lo + i : Nat) : Int))) (fun iv _ => m2 - (intOf iv).toNat)
            case atStart => exact ⟨0, W, hq', lev, Nat.zero_le _, rfl, HS3, Lib.hid ⟨rfl, rfl, HGP.out, HG.out.2.2.2.2⟩⟩
            case round =>
              obtain ⟨i, W2, h2, lev2, hi, rfl, HU, HV⟩ := hrel
              by_cases hlt5 : i < m2
              · have hii : (i : Int) < (m2 : Int) := Int.ofNat_lt.2 hlt5
                obtain ⟨x, hx⟩ : ∃ x, l[i]? = some x := ⟨_, List.getElem?_eq_getElem (by rw [← HLL.out.2.1]; exact hlt5)⟩
                have hxb := HLL.out.2.2 x (List.mem_of_getElem? hx)
                obtain ⟨u, hu⟩ : ∃ u : Nat, x = (u : Int) := ⟨x.toNat, by omega⟩
                subst hu
                have hun : u < k := by omega
                have huI : (u : Int) < (k : Int) := by omega
                have hrow := (HO1.out.later HU.out.kb (by omega) hqn).2
                rw [← HLL.out.1, ← HQV.out] at hrow
                have hcells := SlC.of_owns hrow
                obtain ⟨a', c', e, -, -, h3⟩ := hcells
                simp only [Value.slice.injEq] at e
                obtain ⟨b4, o4, e4, cx⟩ := h3 i (.int .i64 (u : Int)) (by simp [i64s, hx])
                have hqa : qa = some ⟨b4, o4, none⟩ := by rw [e.1, e4]
                have hiq : i < qc := by omega
                have cxl := World.block_lt_of_cell? wr _ cx
                obtain ⟨a1, a2, a3⟩ := HU.out.at hun
                obtain ⟨a4, a5, -⟩ := HU.out.at hqn
                obtain ⟨A1, hA1⟩ : ∃ z, z = lev2.getD u 0 := ⟨_, rfl⟩
                obtain ⟨A2, hA2⟩ : ∃ z, z = lev2.getD q 0 := ⟨_, rfl⟩
                rw [← hA1] at a1
                rw [← hA2] at a4
                have hA1b := HV.out.2.2.2 A1 (by rw [hA1]; exact getD_mem (by rw [HU.out.levn]; exact hun))
                have hA2b := HV.out.2.2.2 A2 (by rw [hA2]; exact getD_mem (by rw [HU.out.levn]; exact hqn))
                have hA20 : 0 ≤ A2 := hA2b.1
                have hA21 : A2 ≤ 4000000000000000000 := by omega
                have hw1 : IntKind.i64.wrap (A2 + 1) = A2 + 1 := IntWalk.i64_in _ (by omega)
                obtain ⟨c1, c2, l1, l2⟩ := HBX.out wr HU.out.kb
                obtain ⟨Z, hZ⟩ : ∃ z, z = (if A1 < A2 + 1 then A2 + 1 else A1) := ⟨_, rfl⟩
                have hZi := hZ.symm
                have hZm : Z = max A1 (A2 + 1) := by rw [hZ]; split <;> omega
                have hZb : 0 ≤ Z ∧ Z ≤ ((lo + (i + 1) : Nat) : Int) := by rw [hZm]; omega
                have HX := Lib.hid (And.intro hx (And.intro hA1 (And.intro hA2 (And.intro hZm hZb))))
                clear hZ hZm hZb
                clear hx hxb h3 e e4 hA1 hA2 hA1b hA2b hrow
                subst hqa
                go_upto_region 25 with fail
                refine wp_region_noPanic ?_
                refine hd_begin (S := fun w' => w'.cell? ⟨V, u, none⟩ = some (.int .i64 A1) ∧ w'.cell? ⟨V, q, none⟩ = some (.int .i64 A2)) 13 (by kernel_rfl) (by kernel_rfl) ⟨(Ext.refl wr).drew.cell a1, (Ext.refl wr).drew.cell a4⟩ (fun hHeld => ?_)
                have hs7 := HU.out.next (Ext.refl wr).drew
                generalize wr.drew = wd at hHeld hs7 ⊢
                refine hd_take (i := 0) (v := .slice (some ⟨V, 0, none⟩) k k) rfl (by kernel_rfl) (by kernel_rfl) (fun _ _ _ h => h) (Or.inl ⟨by rfl, fun w' hSw => by ((try dsimp only at hSw); go_simp)⟩) hHeld ?_
                try simp only [Act.put, List.setIfInBounds_toArray, List.set_cons_zero, List.set_cons_succ]
                refine hd_take (i := 1) (v := .int .i64 (u : Int)) rfl (by kernel_rfl) (by kernel_rfl) (fun _ _ _ h => h) (Or.inl ⟨by rfl, fun w' hSw => by ((try dsimp only at hSw); go_simp)⟩) hHeld ?_
                try simp only [Act.put, List.setIfInBounds_toArray, List.set_cons_zero, List.set_cons_succ]
                refine hd_take (i := 2) (v := .slice (some ⟨V, 0, none⟩) k k) rfl (by kernel_rfl) (by kernel_rfl) (fun _ _ _ h => h) (Or.inl ⟨by rfl, fun w' hSw => by ((try dsimp only at hSw); go_simp)⟩) hHeld ?_
                try simp only [Act.put, List.setIfInBounds_toArray, List.set_cons_zero, List.set_cons_succ]
                refine hd_take (i := 3) (v := .int .i64 (u : Int)) rfl (by kernel_rfl) (by kernel_rfl) (fun _ _ _ h => h) (Or.inl ⟨by rfl, fun w' hSw => by ((try dsimp only at hSw); go_simp)⟩) hHeld ?_
                try simp only [Act.put, List.setIfInBounds_toArray, List.set_cons_zero, List.set_cons_succ]
                refine hd_take (i := 4) (v := .pointer (some ⟨V, u, none⟩)) rfl (by kernel_rfl) (by kernel_rfl) (fun _ _ _ h => h) (Or.inl ⟨by rfl, fun w' hSw => by ((try dsimp only at hSw); go_simp)⟩) hHeld ?_
                try simp only [Act.put, List.setIfInBounds_toArray, List.set_cons_zero, List.set_cons_succ]
                refine hd_take (i := 5) (v := .int .i64 A1) rfl (by kernel_rfl) (by kernel_rfl) (fun _ _ _ h => h) (Or.inl ⟨by rfl, fun w' hSw => by ((try dsimp only at hSw); go_simp)⟩) hHeld ?_
                try simp only [Act.put, List.setIfInBounds_toArray, List.set_cons_zero, List.set_cons_succ]
                refine hd_take (i := 6) (v := .slice (some ⟨V, 0, none⟩) k k) rfl (by kernel_rfl) (by kernel_rfl) (fun _ _ _ h => h) (Or.inl ⟨by rfl, fun w' hSw => by ((try dsimp only at hSw); go_simp)⟩) hHeld ?_
                try simp only [Act.put, List.setIfInBounds_toArray, List.set_cons_zero, List.set_cons_succ]
                refine hd_take (i := 7) (v := .int .i64 (q : Int)) rfl (by kernel_rfl) (by kernel_rfl) (fun _ _ _ h => h) (Or.inl ⟨by rfl, fun w' hSw => by ((try dsimp only at hSw); go_simp)⟩) hHeld ?_
                try simp only [Act.put, List.setIfInBounds_toArray, List.set_cons_zero, List.set_cons_succ]
                refine hd_take (i := 8) (v := .pointer (some ⟨V, q, none⟩)) rfl (by kernel_rfl) (by kernel_rfl) (fun _ _ _ h => h) (Or.inl ⟨by rfl, fun w' hSw => by ((try dsimp only at hSw); go_simp)⟩) hHeld ?_
                try simp only [Act.put, List.setIfInBounds_toArray, List.set_cons_zero, List.set_cons_succ]
                refine hd_take (i := 9) (v := .int .i64 A2) rfl (by kernel_rfl) (by kernel_rfl) (fun _ _ _ h => h) (Or.inl ⟨by rfl, fun w' hSw => by ((try dsimp only at hSw); go_simp)⟩) hHeld ?_
                try simp only [Act.put, List.setIfInBounds_toArray, List.set_cons_zero, List.set_cons_succ]
                refine hd_take (i := 10) (v := .int .i64 (A2 + 1)) rfl (by kernel_rfl) (by kernel_rfl) (fun _ _ _ h => h) (Or.inl ⟨by rfl, fun w' hSw => by ((try dsimp only at hSw); go_simp)⟩) hHeld ?_
                try simp only [Act.put, List.setIfInBounds_toArray, List.set_cons_zero, List.set_cons_succ]
                refine hd_take (i := 11) (v := .int .i64 Z) rfl (by kernel_rfl) (by kernel_rfl) (fun _ _ _ h => h) (Or.inl ⟨by rfl, fun w' hSw => by ((try dsimp only at hSw); go_simp)⟩) hHeld ?_
                try simp only [Act.put, List.setIfInBounds_toArray, List.set_cons_zero, List.set_cons_succ]
                refine hd_take (i := 12) (v := .pointer (some ⟨V, u, none⟩)) rfl (by kernel_rfl) (by kernel_rfl) (fun _ _ _ h => h) (Or.inl ⟨by rfl, fun w' hSw => by ((try dsimp only at hSw); go_simp)⟩) hHeld ?_
                try simp only [Act.put, List.setIfInBounds_toArray, List.set_cons_zero, List.set_cons_succ]
                refine hd_end (by kernel_rfl) ?_
                simp only [List.drop_succ_cons, List.drop_zero]
                clear cx cxl c1 c2 l1 l2 a1 a2 a3 a4 a5
                obtain ⟨e1, e2, e3⟩ := hs7.at hun
                have HS7 := Lib.hid (hs7.setV hun Z)
                clear hs7 hHeld hZi
                go_wp2_with fail
                refine NoPanic.normal ?_
                clear e1 e2 e3
                generalize wd.setCell ⟨V, u, none⟩ (.int .i64 Z) = w7 at HS7 ⊢
                obtain ⟨c1, c2, l1, l2⟩ := HBX.out w7 HS7.out.kb
                have hlk := HS7.out.look hun (by omega)
                obtain ⟨X, hX⟩ : ∃ z, z = W2.getD u 0 := ⟨_, rfl⟩
                rw [← hX] at hlk
                have hXb := HV.out.2.2.1.lb X (by rw [hX]; exact getD_mem (by rw [HV.out.2.2.1.len]; exact hun))
                have hXlo : -4000000000000000000 ≤ X := by omega
                have hXhi : X ≤ 4000000000000000000 := by omega
                have hwx : IntKind.i64.wrap (X - 1) = X - 1 := IntWalk.i64_in _ (by omega)
                obtain ⟨w8, hrun8, ho8, -⟩ := HS7.out.put hun (by omega) (by unfold maxLen; omega) (X - 1)
                have HGF := Lib.hid (HV.out.2.2.1.free hun)
                have hinc : incV W2 (u : Int) (-1) = W2.set u (X - 1) := by unfold incV; rw [Int.toNat_natCast, ← hX]; rfl
                obtain ⟨Y, hY⟩ : ∃ z, z = (W2.set u (X - 1)).getD u 0 := ⟨_, rfl⟩
                have HYY : Hid (incV W2 (u : Int) (-1) = W2.set u (X - 1) ∧ (incV W2 (u : Int) (-1)).getD u 0 = Y) := Lib.hid ⟨hinc, by rw [hinc, hY]⟩
                have H8 := Lib.hid (And.intro ho8 hY)
                clear ho8 hY hinc hX hXb
                go_upto_region 27 with fail
                clear hlk hrun8 c1 c2 l1 l2 hwx
                obtain ⟨c1, c2, l1, l2⟩ := HBX.out w8 H8.out.1.kb
                have hlk := H8.out.1.look hun (by omega)
                rw [← H8.out.2] at hlk
                have HLV : Hid (levV l (q : Int) lev = levV (l.drop (i + 1)) (q : Int) (lev2.set u Z) ∧ ∀ x ∈ lev2.set u Z, 0 ≤ x ∧ x ≤ ((lo + (i + 1) : Nat) : Int)) := Lib.hid (by
                  refine ⟨by rw [HV.out.2.1, levV_at HX.out.1, Int.toNat_natCast, Int.toNat_natCast, ← HX.out.2.1, ← HX.out.2.2.1, ← HX.out.2.2.2.1], fun x hx => ?_⟩
                  rcases List.mem_or_eq_of_mem_set hx with hx | rfl
                  · have := HV.out.2.2.2 x hx; omega
                  · exact HX.out.2.2.2.2)
                by_cases hz : Y = 0
                · have hzq : (Y == 0) = true := by simpa using hz
                  have HE : Hid (freeV l (W, hq') = freeV (l.drop (i + 1)) (W2.set u (X - 1), pushV h2 (u : Int)) ∧ GB k f (lo + (i + 1)) E (W2.set u (X - 1)) (pushV h2 (u : Int))) := Lib.hid (by
                    have h1 := HGF.out
                    rw [HYY.out.2, if_pos hz, HYY.out.1] at h1
                    refine ⟨?_, h1⟩
                    rw [HV.out.1, freeV_at HX.out.1]
                    simp only [Int.toNat_natCast]
                    rw [HYY.out.2, if_pos hz, HYY.out.1])
                  have HPU : Hid (Calls Try.prog 41 #[.iface 87 (.pointer (some ⟨L, 0, none⟩)), .iface 3 (.int .i64 (u : Int))] w8 (RetN (TbO L) (fun w' => PLs w' wl.heap.size L (pushV h2 (u : Int))) w8)) := Lib.hid (hpush_any H8.out.1.pl (u : Int) (by have := HV.out.2.2.1.phi; omega) H8.out.1.kb.size)
                  clear hz
                  go_wp2_with (first | (go_at_call 41; refine HPU.out.mono ?_; rintro e6 w6 ⟨rfl, H6⟩) | fail)
                  exact ⟨⟨i + 1, W2.set u (X - 1), pushV h2 (u : Int), lev2.set u Z, by omega, by go_num, Lib.hid ((H8.out.1.heap H6.out.1 H6.out.2).cm (by omega)), Lib.hid ⟨HE.out.1, HLV.out.1, HE.out.2, HLV.out.2⟩⟩, by simp [intOf]; omega⟩
                · have hzq : (Y == 0) = false := by simpa using hz
                  have HE : Hid (freeV l (W, hq') = freeV (l.drop (i + 1)) (W2.set u (X - 1), h2) ∧ GB k f (lo + (i + 1)) E (W2.set u (X - 1)) h2) := Lib.hid (by
                    have h1 := HGF.out
                    rw [HYY.out.2, if_neg hz, HYY.out.1] at h1
                    refine ⟨?_, h1⟩
                    rw [HV.out.1, freeV_at HX.out.1]
                    simp only [Int.toNat_natCast]
                    rw [HYY.out.2, if_neg hz, HYY.out.1])
                  clear hz
                  go_wp2
                  exact ⟨⟨i + 1, W2.set u (X - 1), h2, lev2.set u Z, by omega, by go_num, Lib.hid (H8.out.1.cm (by omega)), Lib.hid ⟨HE.out.1, HLV.out.1, HE.out.2, HLV.out.2⟩⟩, by simp [intOf]; omega⟩
              · have hii : ¬ (i : Int) < (m2 : Int) := fun e => hlt5 (Int.ofNat_lt.1 e)
                obtain rfl : i = m2 := by omega
                have HE : Hid (sortV on = goV (f + 1) s.2 W2 h2 (out ++ [(q : Int)]) ∧ levelsV on = goL (f + 1) s.2 W2 h2 lev2) := Lib.hid (by
                  have h1 := HV.out.1
                  have h2 := HV.out.2.1
                  rw [HLL.out.2.1, List.drop_length, freeV] at h1
                  rw [HLL.out.2.1, List.drop_length, levV] at h2
                  rw [HGS.out.1, HGS.out.2, ← HLL.out.1, h1, h2]
                  exact ⟨rfl, rfl⟩)
                have HLO2 : Hid (lo + i + f * E ≤ (k + E) * E) := Lib.hid (by have := HLO.out.2; omega)
                go_wp2
                go_roundg (f + 1)
                case measure => omega
                case rel => exact ⟨f, lo + i, h2, W2, lev2, out ++ [(q : Int)], rfl, by rw [List.length_append, ← HOL.out]; simp; omega, HU, Lib.hid ⟨HE.out.1, HE.out.2, HV.out.2.2.1, HLO2.out, HV.out.2.2.2⟩⟩
end Go.Proofs.Ytmommjagndadjaa.Sc

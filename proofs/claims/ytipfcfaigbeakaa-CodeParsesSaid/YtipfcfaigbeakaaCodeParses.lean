/-
  CodeParses: the law's own function. Two lists of bytes: the law returns true.
  No condition.
-/
import Derived.Test.YtipfcfaigbeakaaCodeParseD
import Derived.Test.YtipfcfaigbeakaaCodeParseE
import Derived.Test.YtipfcfaigbeakaaCodeRefS
import Derived.Test.YtipfcfaigbeakaaCodeSame
import Derived.Test.YtipfcfaigbeakaaJLaw
import Derived.Test.YtipfcfaigbeakaaKit6
import Derived.Deep.MidRow
import Derived.Laws.OwnMore
import Derived.BigQuiet
namespace Go.Proofs.Ytipfcfaigbeakaa
open Go.RowKit
set_option linter.unusedSimpArgs false
set_option linter.unusedVariables false
set_option maxRecDepth 100000

/-- A program that no store below a base can touch. -/
def KeepC (base : Nat) (w : World) (kv iv bv : Value) (c : CodeV) : Prop :=
  (w.ownsRow base 3 1 kv c.kinds.length (i64s c.kinds) ∧ w.ownsRow base 3 1 iv c.init.length (i64s c.init) ∧ w.ownsRow base 33 3 bv c.body.length (insCells c.body)) ∨ (c = zeroV ∧ CodeIn w kv iv bv c)
theorem slc_zero {w w' : World} {v : Value} (h : SlC w v 0 []) : SlC w' v 0 [] := by
  obtain ⟨a, cap, rfl, h1, h2, -⟩ := h
  exact ⟨a, cap, rfl, h1, h2, fun j u hu => by simp at hu⟩
theorem SlC.cap_le {w : World} {a : Option Addr} {n m cap : Nat} {xs : List Value} (h : SlC w (.slice a n cap) m xs) : cap ≤ maxLen := by
  obtain ⟨a', cap', e1, h1, h2, hc⟩ := h
  simp only [Value.slice.injEq] at e1
  omega
theorem wrap_next {j n : Nat} (h : j < n) (hn : n ≤ 9223372036854775807) : wrap64 ((j : Int) + 1) = (j : Int) + 1 := nat64 (m := j + 1) (cap := n) h hn
theorem BoxV.other {C : Nat} {vs : List Value} {w : World} (h : BoxV C vs w) {g : Nat} (hg : g ≠ C) (j : Nat) (u : Value) : BoxV C vs (w.setCell ⟨g, j, none⟩ u) := by
  refine ⟨fun k x hx => ?_, fun k => by simp; exact h.fz k, by simp; exact h.lt⟩
  rw [World.cell?_setCell_other _ _ _ _ (by intro e; simp only [Addr.mk.injEq] at e; exact hg e.1)]
  exact h.cells k x hx
theorem own_there3 {w : World} {base g n cap : Nat} {e : TypeId} {xs : List Value} (h : w.ownsRow base e 3 (.slice (some ⟨g, 0, none⟩) n cap) n xs) (j : Nat) (hj : j < n) : w.there g (j * 3) 3 := by
  obtain ⟨h1, h2⟩ := h
  rcases h2 with ⟨h2, _⟩ | ⟨g', cap', cur, hv, hg, hh, hn, hc, hs, ht⟩
  · cases h2
  · simp only [Value.slice.injEq, Option.some.injEq, Addr.mk.injEq] at hv
    obtain ⟨⟨rfl, -, -⟩, -, rfl⟩ := hv
    refine fun i hi => ⟨?_, frozen_of_row _ _ _ _ _ hh⟩
    rw [cell_of_row w g _ cur e (0, 0) hh, Array.getElem?_eq_getElem (by rw [hs]; omega)]
    rfl
/-- Three cells of an owned row. -/
theorem own_store3 {w : World} {base g n cap : Nat} {e : TypeId} {xs : List Value} (h : w.ownsRow base e 3 (.slice (some ⟨g, 0, none⟩) n cap) n xs) (j : Nat) (a b c : Value) : (w.setCells g j [a, b, c]).ownsRow base e 3 (.slice (some ⟨g, 0, none⟩) n cap) n (((xs.set j a).set (j + 1) b).set (j + 1 + 1) c) :=
  (((h.stored j a).1.stored (j + 1) b).1.stored (j + 1 + 1) c).1
theorem BoxV.setCells3 {C : Nat} {vs : List Value} {w : World} (h : BoxV C vs w) {g : Nat} (hg : g ≠ C) (j : Nat) (a b c : Value) : BoxV C vs (w.setCells g j [a, b, c]) :=
  ((h.other hg j a).other hg (j + 1) b).other hg (j + 1 + 1) c
theorem ext_setCells3 {w x : World} (h : Ext w x) {g : Nat} (hg : w.heap.size ≤ g) (j : Nat) (a b c : Value) : Ext w (x.setCells g j [a, b, c]) :=
  ((h.setCell hg a).setCell hg b).setCell hg c
theorem KeepC.in {base : Nat} {w : World} {kv iv bv : Value} {c : CodeV} (h : KeepC base w kv iv bv c) : CodeIn w kv iv bv c := by
  rcases h with ⟨h1, h2, h3⟩ | ⟨_, h⟩
  · exact ⟨SlC.of_owns h1, SlC.of_owns h2, SlC.of_owns h3⟩
  · exact h
theorem KeepC.ext {base : Nat} {w w' : World} {kv iv bv : Value} {c : CodeV} (h : KeepC base w kv iv bv c) (hx : Ext w w') : KeepC base w' kv iv bv c := by
  rcases h with ⟨h1, h2, h3⟩ | ⟨e, h⟩
  · exact .inl ⟨ownsRow_ext h1 hx, ownsRow_ext h2 hx, ownsRow_ext h3 hx⟩
  · exact .inr ⟨e, h.ext hx⟩
theorem KeepC.set {base : Nat} {w : World} {kv iv bv : Value} {c : CodeV} (h : KeepC base w kv iv bv c) {a : Addr} (ha : a.block < base) (u : Value) : KeepC base (w.setCell a u) kv iv bv c := by
  rcases h with ⟨h1, h2, h3⟩ | ⟨e, h⟩
  · exact .inl ⟨ownsRow_setCell_below h1 ha u, ownsRow_setCell_below h2 ha u, ownsRow_setCell_below h3 ha u⟩
  · subst e
    exact .inr ⟨rfl, slc_zero h.kinds, slc_zero h.init, slc_zero h.body⟩
/-- The error of a reading. -/
def errV (o : Option CodeV) : Int := match o with | some _ => 0 | none => 50
/-- The program's own reading, as the law uses it. -/
theorem parseK_any (l : List Int) (v : Value) (w : World) (hlen : l.length ≤ 10000) (hv : SlC w v l.length (u8s l)) (hl : ∀ x ∈ l, 0 ≤ x ∧ x < 256) :
    Calls Try.prog 23 #[v] w fun e w' => ∃ (c : CodeV) (ka : Option Addr) (kn kc : Nat) (ia : Option Addr) (im ic : Nat) (ba : Option Addr) (bn bc : Nat), e = .returned (.tuple #[codeA c (.slice ka kn kc) (.slice ia im ic) (.slice ba bn bc), .int .i64 (errV (parseV l))]) ∧ Hid (c = (parseV l).getD zeroV) ∧ KeepC w.heap.size w' (.slice ka kn kc) (.slice ia im ic) (.slice ba bn bc) c ∧ Ext w w' := by
  have key : Calls Try.prog 23 #[v] w fun e w' => ∃ c kv iv bv, e = .returned (.tuple #[codeA c kv iv bv, .int .i64 (errV (parseV l))]) ∧ c = (parseV l).getD zeroV ∧ KeepC w.heap.size w' kv iv bv c ∧ Ext w w' := by
    by_cases hp : l.take 4 = [77, 84, 82, 49]
    · refine (parseO_go l v w hv hl (by omega) hp).mono ?_
      rintro e w1 ⟨c, kv, iv, bv, rfl, hc, h1, h2, h3, hx⟩
      exact ⟨c, kv, iv, bv, rfl, hc, .inl ⟨h1, h2, h3⟩, hx⟩
    · refine (parse_head l v w hv hl (by omega) hp).mono ?_
      have e : parseV l = none := by unfold parseV; rw [if_neg hp]
      rintro _ w1 ⟨c, kv, iv, bv, rfl, hc, h1, _, _, hx⟩
      rw [e]
      exact ⟨c, kv, iv, bv, rfl, hc, .inr ⟨hc, h1⟩, hx⟩
  refine key.mono ?_
  rintro e w1 ⟨c, kv, iv, bv, rfl, hc, hk, hx⟩
  obtain ⟨⟨_, _, rfl, -⟩, ⟨_, _, rfl, -⟩, ⟨_, _, rfl, -⟩⟩ := id hk.in
  exact ⟨c, _, _, _, _, _, _, _, _, _, rfl, Lib.hid hc, hk, hx⟩
theorem refParseK_any (l : List Int) (v : Value) (w : World) (hlen : l.length ≤ 10000) (hv : SlC w v l.length (u8s l)) (hl : ∀ x ∈ l, 0 ≤ x ∧ x < 256) :
    Calls Try.prog 25 #[v] w fun e w' => ∃ (c : CodeV) (ka : Option Addr) (kn kc : Nat) (ia : Option Addr) (im ic : Nat) (ba : Option Addr) (bn bc : Nat), e = .returned (.tuple #[codeA c (.slice ka kn kc) (.slice ia im ic) (.slice ba bn bc), .int .i64 (errV (parseV l))]) ∧ Hid (c = (parseV l).getD zeroV) ∧ CodeIn w' (.slice ka kn kc) (.slice ia im ic) (.slice ba bn bc) c ∧ Ext w w' := by
  refine (refParse_any l v w hlen hv hl).mono ?_
  rintro e w1 ⟨c, kv, iv, bv, rfl, hc, hk, hx⟩
  obtain ⟨⟨_, _, rfl, -⟩, ⟨_, _, rfl, -⟩, ⟨_, _, rfl, -⟩⟩ := id hk
  exact ⟨c, _, _, _, _, _, _, _, _, _, rfl, Lib.hid hc, hk, hx⟩
/-- .. and what its body owns. -/
theorem parseB_any (l : List Int) (v : Value) (w : World) (hlen : l.length ≤ 10000) (hv : SlC w v l.length (u8s l)) (hl : ∀ x ∈ l, 0 ≤ x ∧ x < 256) :
    Calls Try.prog 23 #[v] w fun e w' => ∃ (i o c s : Int) (ka : Option Addr) (kn kc : Nat) (ia : Option Addr) (im ic : Nat) (ba : Option Addr) (bn bc : Nat) (y : Int) (xs : List Value), e = .returned (.tuple #[.agg #[.slice ka kn kc, .int .i64 i, .int .i64 o, .int .i64 c, .int .i64 s, .slice ia im ic, .slice ba bn bc], .int .i64 y]) ∧ w'.ownsRow w.heap.size 33 3 (.slice ba bn bc) bn xs ∧ xs.length = bn * 3 ∧ Hid (bn ≤ 9223372036854775807) ∧ wrap64 (bn : Int) = bn ∧ Ext w w' := by
  refine (parse_any l v w hv hl).mono ?_
  intro e w1 h
  rw [if_neg (by omega)] at h
  obtain ⟨c, kv, iv, bv, rfl, hc, h1, _, h2, hx⟩ := h
  obtain ⟨a1, c1, rfl, -⟩ := h1.kinds
  obtain ⟨a2, c2, rfl, -⟩ := h1.init
  obtain ⟨a3, c3, rfl, h31, h32, -⟩ := h1.body
  have hm : Hid (c.body.length ≤ 9223372036854775807) := Lib.hid (Nat.le_trans h31 h32)
  exact ⟨c.ins, c.outs, c.cells, c.stack, a1, _, c1, a2, _, c2, a3, _, c3, _, _, rfl, h2, h2.1, hm, nat64 h31 h32, hx⟩

set_option maxHeartbeats 4000000 in
theorem long_live (B O : List Int) (vb vo : Value) (w : World) (hb : SlC w vb B.length (u8s B)) (ho : SlC w vo O.length (u8s O)) (h : 10000 < B.length ∨ 10000 < O.length) :
    Calls Try.prog 8 #[vb, vo] w fun e w' => e = .returned (.bool true) ∧ Ext w w' := by
  obtain ⟨ab, cb, rfl, hb1, hb2, -⟩ := hb
  obtain ⟨ao, co, rfl, ho1, ho2, -⟩ := ho
  have hwb := nat64 hb1 hb2
  have hwo := nat64 ho1 ho2
  by_cases h1 : 10000 < (B.length : Int)
  · clear h
    go_enter Try.func8, Try.ntmps8
    go_wp2_with (first | (go_at_call 15; refine (alive_any _).mono ?_; rintro e w1 ⟨rfl, hx1⟩))
    go_ret
    exact ⟨rfl, hx1⟩
  · have h2 : 10000 < (O.length : Int) := by omega
    clear h
    go_enter Try.func8, Try.ntmps8
    go_wp2_with (first | (go_at_call 15; refine (alive_any _).mono ?_; rintro e w1 ⟨rfl, hx1⟩))
    go_ret
    exact ⟨rfl, hx1⟩
set_option maxHeartbeats 4000000 in
theorem codeParses_any (B O : List Int) (vb vo : Value) (w : World) (hb : SlC w vb B.length (u8s B)) (yb : ∀ x ∈ B, 0 ≤ x ∧ x < 256) (ho : SlC w vo O.length (u8s O)) (yo : ∀ x ∈ O, 0 ≤ x ∧ x < 256) :
    Calls Try.prog 8 #[vb, vo] w fun e w' => e = .returned (.bool true) ∧ Ext w w' := by
  by_cases h : 10000 < B.length ∨ 10000 < O.length
  · exact long_live B O vb vo w hb ho h
  have hlb : B.length ≤ 10000 := by omega
  have hlo : O.length ≤ 10000 := by omega
  have hlb' : ¬ 10000 < (B.length : Int) := by omega
  have hlo' : ¬ 10000 < (O.length : Int) := by omega
  obtain ⟨ab, cb, rfl, hb1, hb2, -⟩ := id hb
  obtain ⟨ao, co, rfl, ho1, ho2, -⟩ := id ho
  have hwb := nat64 hb1 hb2
  have hwo := nat64 ho1 ho2
  have HB : Hid (∀ w', Ext w w' → SlC w' (.slice ab B.length cb) B.length (u8s B)) := Lib.hid fun w' hx => hb.ext hx
  have HO : Hid (∀ w', Ext w w' → SlC w' (.slice ao O.length co) O.length (u8s O)) := Lib.hid fun w' hx => ho.ext hx
  have HYB := Lib.hid yb
  have HYO := Lib.hid yo
  clear h hb ho yb yo hb1 hb2 ho1 ho2
  go_enter Try.func8, Try.ntmps8
  go_upto_region 4 with (go_at_call 15; refine (alive_any _).mono ?_; rintro e w1 ⟨rfl, hx1⟩)
  go_upto_region 5 with (first
    | (at_builtin; (refine wpList_append_slc _ rfl (.const (.slice none 0 0)) (.tmp 30) 38 rfl w.heap.size 5 (.int .u8 0) 1 1 Try.underlying38 infoByte rfl (by decide) (.slice none 0 0) 0 [] rfl (own_nil _ _ _ _) _ B.length (u8s B) rfl (HB.out _ (by repeat first | exact Ext.refl _ | assumption | refine Ext.drew ?_ | refine Ext.drewN ?_ _ | refine Ext.extBy ?_ _ | refine Ext.alloc ?_ _ | refine Ext.setCell ?_ (by simp; try omega) _ | (refine Ext.trans ?_ (by assumption)))) (by simp) (by simp [Value.oneCell']) (by unfold maxLen; omega) (by omega) hx1.size ?_; intro v1 w2 hown1 hg1 hat1; have hE1 := ext_grown_nil hg1))
    | (at_builtin; (refine wpList_append_slc _ rfl (.tmp 31) (.tmp 32) 38 rfl w.heap.size 5 (.int .u8 0) 1 1 Try.underlying38 infoByte rfl (by decide) v1 (0 + B.length) ([] ++ u8s B) rfl (hown1.alloc _) _ 1 [.int .u8 167] rfl (SlC.fresh _ #[.int .u8 167] _ 1 _ (by simp) (by decide)) (by simp) (by simp [Value.oneCell']) (by unfold maxLen; omega) (by omega) (by have := hE1.size; have := hx1.size; simp at *; omega) ?_; intro v2 w3 hown2 hg2 hat2; have hE2 : Ext w w3 := below_grown (base := w.heap.size) (((hx1.trans hE1).alloc _)) (Nat.le_refl _) (by have := hE1.size; have := hx1.size; simp at *; omega) (hown1.alloc _) hg2)))
  obtain ⟨F, hF⟩ : ∃ F, F = B ++ [167] := ⟨_, rfl⟩
  have HF := Lib.hid hF
  have hFl : F.length = B.length + 1 := by rw [hF]; simp
  obtain ⟨g, cf, rfl, hgb, hcf, hgl⟩ := ownsRow_some hown2 (by omega)
  have hown : w3.ownsRow w.heap.size 5 1 (.slice (some ⟨g, 0, none⟩) (0 + B.length + 1) cf) F.length (u8s F) := by
    rw [hFl, hF]
    have := hown2
    simp only [List.nil_append, Nat.zero_add] at this ⊢
    simpa using this
  obtain ⟨M, hM⟩ : ∃ M, M = 0 + B.length + 1 := ⟨_, rfl⟩
  have hMl : M = B.length + 1 := by omega
  have HM := Lib.hid hMl
  rw [← hM] at hcf hown ⊢
  rw [hFl, ← hMl] at hown
  rw [← hMl] at hFl
  clear hown1 hg1 hat1 hE1 hown2 hg2 hat2 hx1 hF hM
  have hcb : B.length ≤ cf := by omega
  have hwm := nat64 hcf (SlC.of_owns hown).cap_le
  have hhead : SlC w3 (.slice (some ⟨g, 0, none⟩) B.length cf) B.length (u8s B) := by
    obtain ⟨a', cap', e1, h1, h2, hc⟩ := SlC.of_owns hown
    simp only [Value.slice.injEq] at e1
    obtain ⟨rfl, -, rfl⟩ := e1
    refine ⟨_, _, rfl, hcb, h2, fun j u hu => hc j u ?_⟩
    have hj := (List.getElem?_eq_some_iff.1 hu).1
    rw [HF.out, show u8s (B ++ [167]) = u8s B ++ u8s [167] from List.map_append, List.getElem?_append_left hj]
    exact hu
  have HP := Lib.hid (parseK_any B _ w3 hlb hhead HYB.out)
  have hsg := hE2.size
  clear hhead hMl hFl
  simp only [codeA] at HP
  go_upto_region 6 with (go_at_call 23; refine HP.out.mono ?_; rintro e w5 ⟨c, ka, kn, kc, ia, im, ic, ba, bn, bc, rfl, HC, hk, hx5⟩)
  have hE3 : Ext w3 (w5.alloc (.cells #[.slice ka kn kc, .int .i64 c.ins, .int .i64 c.outs, .int .i64 c.cells, .int .i64 c.stack, .slice ia im ic, .slice ba bn bc] 25)) := hx5.alloc _
  have hown6 := ownsRow_ext hown hE3
  have hk6 := hk.ext ((Ext.refl w5).alloc (.cells #[.slice ka kn kc, .int .i64 c.ins, .int .i64 c.outs, .int .i64 c.cells, .int .i64 c.stack, .slice ia im ic, .slice ba bn bc] 25))
  have hbox6 : BoxV w5.heap.size [.slice ka kn kc, .int .i64 c.ins, .int .i64 c.outs, .int .i64 c.cells, .int .i64 c.stack, .slice ia im ic, .slice ba bn bc] (w5.alloc (.cells #[.slice ka kn kc, .int .i64 c.ins, .int .i64 c.outs, .int .i64 c.cells, .int .i64 c.stack, .slice ia im ic, .slice ba bn bc] 25)) :=
    ⟨fun j u hu => by rw [cell_of_row _ _ j _ _ (0, 0) (heap_alloc_last w5 _)]; simpa using hu, fun j => frozen_of_row _ _ j _ _ (heap_alloc_last w5 _), by simp⟩
  have hE6 : Ext w (w5.alloc (.cells #[.slice ka kn kc, .int .i64 c.ins, .int .i64 c.outs, .int .i64 c.cells, .int .i64 c.stack, .slice ia im ic, .slice ba bn bc] 25)) := hE2.trans hE3
  have hgX : g < w5.heap.size ∧ w3.heap.size ≤ w5.heap.size := by have := hx5.size; omega
  generalize w5.alloc (.cells #[.slice ka kn kc, .int .i64 c.ins, .int .i64 c.outs, .int .i64 c.cells, .int .i64 c.stack, .slice ia im ic, .slice ba bn bc] 25) = w6 at hE3 hown6 hk6 hbox6 hE6 ⊢
  obtain ⟨X, hX⟩ : ∃ X, X = w5.heap.size := ⟨_, rfl⟩
  rw [← hX] at hbox6 hgX ⊢
  clear hX hown hk hx5 HP
  have hhead : SlC w6 (.slice (some ⟨g, 0, none⟩) B.length cf) B.length (u8s B) := by
    obtain ⟨a', cap', e1, h1, h2, hc⟩ := SlC.of_owns hown6
    simp only [Value.slice.injEq] at e1
    obtain ⟨rfl, -, rfl⟩ := e1
    refine ⟨_, _, rfl, hcb, h2, fun j u hu => hc j u ?_⟩
    have hj := (List.getElem?_eq_some_iff.1 hu).1
    rw [HF.out, show u8s (B ++ [167]) = u8s B ++ u8s [167] from List.map_append, List.getElem?_append_left hj]
    exact hu
  have s1 := fun n : Nat => run_str 38 5 Try.underlying38 Try.underlying5 (hhead.ext ((Ext.refl w6).drewN n)) 9 Try.underlying9
  have s2 := fun n : Nat => run_str 38 5 Try.underlying38 Try.underlying5 (HB.out _ (hE6.drewN n)) 9 Try.underlying9
  have hse : ((strOfNums B).toList == (strOfNums B).toList) = true := beq_self_eq_true _
  have h167 : w6.cell? ⟨g, B.length, none⟩ = some (.int .u8 167) := (own_cell1 hown6 B.length (.int .u8 167) (by rw [HF.out]; simp)).1
  have hi0 : (0 : Int) ≤ (B.length : Int) := by omega
  have hi1 : (B.length : Int) < (M : Int) := by have := HM.out; omega
  have hi2 : B.length < M := by have := HM.out; omega
  have hFl : F.length = M := by rw [HF.out, HM.out]; simp
  have hM4 : M ≤ 10001 := by have := HM.out; omega
  clear hhead
  go_quiet (fail)
  clear s1 s2 hse h167 hi0 hi1 hi2
  go_wp2
  go_loopw [10] (fun i wr => ∃ (j : Nat) (xs : List Int), j ≤ M ∧ i = .int .i64 j ∧ xs.length = M ∧ wr.ownsRow w.heap.size 5 1 (.slice (some ⟨g, 0, none⟩) M cf) M (u8s xs) ∧ Ext w wr ∧ KeepC w3.heap.size wr (.slice ka kn kc) (.slice ia im ic) (.slice ba bn bc) c ∧ BoxV X [.slice ka kn kc, .int .i64 c.ins, .int .i64 c.outs, .int .i64 c.cells, .int .i64 c.stack, .slice ia im ic, .slice ba bn bc] wr) (fun i _ => M - (intOf i).toNat)
  case atStart => exact ⟨0, F, Nat.zero_le _, rfl, hFl, ownsRow_ext hown6 (Ext.drewN (Ext.refl w6) _), hE6.drewN _, hk6.ext (Ext.drewN (Ext.refl w6) _), hbox6.drewN _⟩
  case round =>
    obtain ⟨j, xs, hj, rfl, hxl, hox, hxr, hkr, hbr⟩ := hrel
    clear hown6 hE6 hk6 hbox6
    by_cases hlt : j < M
    · obtain ⟨y', hy'⟩ : ∃ y', xs[j]? = some y' := ⟨_, List.getElem?_eq_getElem (by omega)⟩
      obtain ⟨hc1, hf1⟩ := own_cell1 hox j (.int .u8 y') (by simp [hy'])
      have hX1 := hgX.1
      clear hy'
      go_wp2
      go_roundw
      case rel => exact ⟨j + 1, xs.set j (bits .xor .u8 y' 255), by omega, by go_num, by simpa using hxl, by have := own_set1 hox j hlt (.int .u8 (bits .xor .u8 y' 255)); simpa [List.map_set] using this, hxr.setCell hgb _, hkr.set hgl _, hbr.other (by omega) _ _⟩
      case measure => simp [intOf]; omega
    · obtain rfl : j = M := by omega
      clear hox hj hlt hcf hcb hgX hwm hFl hM4
      obtain ⟨wq, hwq⟩ : ∃ x, x = wr := ⟨_, rfl⟩
      subst hwq
      have HP := Lib.hid (parseB_any O _ wq hlo (HO.out _ hxr) HYO.out)
      go_upto_region 12 with (go_at_call 23; refine HP.out.mono ?_; rintro e w8 ⟨i2, o2, c2, s2, ka2, kn2, kc2, ia2, im2, ic2, ba2, bn2, bc2, y2, xs2, rfl, hown8, hl8, hn8, hwn, hx8⟩)
      have HFin : Hid (∀ w', Ext wq w' → CodeIn w' (.slice ka kn kc) (.slice ia im ic) (.slice ba bn bc) c ∧ BoxV X [.slice ka kn kc, .int .i64 c.ins, .int .i64 c.outs, .int .i64 c.cells, .int .i64 c.stack, .slice ia im ic, .slice ba bn bc] w') := Lib.hid fun w' hx => ⟨hkr.in.ext hx, hbr.ext hx⟩
      have HLT : Hid (∀ g2, ba2 = some ⟨g2, 0, none⟩ → g2 ≠ w8.heap.size) := Lib.hid fun g2 e => Nat.ne_of_lt (hown8.lt g2 (by rw [e]; rfl)).2
      have hboxY : BoxV w8.heap.size [.slice ka2 kn2 kc2, .int .i64 i2, .int .i64 o2, .int .i64 c2, .int .i64 s2, .slice ia2 im2 ic2, .slice ba2 bn2 bc2] (w8.alloc (.cells #[.slice ka2 kn2 kc2, .int .i64 i2, .int .i64 o2, .int .i64 c2, .int .i64 s2, .slice ia2 im2 ic2, .slice ba2 bn2 bc2] 25)) :=
        ⟨fun j u hu => by rw [cell_of_row _ _ j _ _ (0, 0) (heap_alloc_last w8 _)]; simpa using hu, fun j => frozen_of_row _ _ j _ _ (heap_alloc_last w8 _), by simp⟩
      have hx9 : Ext wq (w8.alloc (.cells #[.slice ka2 kn2 kc2, .int .i64 i2, .int .i64 o2, .int .i64 c2, .int .i64 s2, .slice ia2 im2 ic2, .slice ba2 bn2 bc2] 25)) := hx8.alloc _
      have hown9 := ownsRow_ext hown8 ((Ext.refl w8).alloc (.cells #[.slice ka2 kn2 kc2, .int .i64 i2, .int .i64 o2, .int .i64 c2, .int .i64 s2, .slice ia2 im2 ic2, .slice ba2 bn2 bc2] 25))
      generalize w8.alloc (.cells #[.slice ka2 kn2 kc2, .int .i64 i2, .int .i64 o2, .int .i64 c2, .int .i64 s2, .slice ia2 im2 ic2, .slice ba2 bn2 bc2] 25) = w9 at hboxY hx9 hown9 ⊢
      obtain ⟨Y, hY⟩ : ∃ Y, Y = w8.heap.size := ⟨_, rfl⟩
      rw [← hY] at hboxY HLT ⊢
      clear hY hown8 hx8 HP hkr hbr
      go_wp2
      go_loopw [13] (fun i w' => ∃ (j : Nat) (xs : List Value), j ≤ bn2 ∧ i = .int .i64 j ∧ xs.length = bn2 * 3 ∧ w'.ownsRow wq.heap.size 33 3 (.slice ba2 bn2 bc2) bn2 xs ∧ Ext wq w' ∧ BoxV Y [.slice ka2 kn2 kc2, .int .i64 i2, .int .i64 o2, .int .i64 c2, .int .i64 s2, .slice ia2 im2 ic2, .slice ba2 bn2 bc2] w') (fun i _ => bn2 - (intOf i).toNat)
      case atStart => exact ⟨0, xs2, Nat.zero_le _, rfl, hl8, hown9, hx9, hboxY⟩
      case round =>
        obtain ⟨j, xs, hj, rfl, hxl, hox, hxz, hbz⟩ := hrel
        clear hown9 hx9 hboxY
        have y6 := hbz.cells 6 _ rfl
        by_cases hlt : j < bn2
        · obtain ⟨g2, cg2, e1, hgb2, -, hgl2⟩ := ownsRow_some hox (Nat.lt_of_le_of_lt (Nat.zero_le _) hlt)
          simp only [Value.slice.injEq] at e1
          obtain ⟨rfl, -, rfl⟩ := e1
          have hY2 := HLT.out g2 rfl
          have hji : (j : Int) < (bn2 : Int) := Int.ofNat_lt.2 hlt
          have hj0 : (0 : Int) ≤ (j : Int) := Int.natCast_nonneg _
          have hw1 := wrap_next hlt hn8.out
          clear hwb hwo hlb hlo hlb' hlo' hl8 hsg hgl hgb hE2 hE3 hxr
          have hth := own_there3 hox j hlt
          go_upto_region 14 with (refine wpList_store_mid rfl 33 (.tmp 88) (.tmp 87) rfl g2 _ #[.int .i64 0, .int .i64 0, .int .i64 0] rfl rfl hth rfl (by simp [Value.oneCell']) ?_)
          go_wp2
          go_roundw
          case rel => exact ⟨j + 1, ((xs.set (j * 3) (.int .i64 0)).set (j * 3 + 1) (.int .i64 0)).set (j * 3 + 1 + 1) (.int .i64 0), hlt, by rw [hw1]; rfl, by rw [List.length_set, List.length_set, List.length_set]; exact hxl, own_store3 hox _ _ _ _, ext_setCells3 hxz hgb2 _ _ _ _, hbz.setCells3 hY2 _ _ _ _⟩
          case measure =>
            rw [hw1]
            exact Nat.sub_lt_sub_left hlt (Nat.lt_succ_self j)
        · obtain rfl : j = bn2 := Nat.le_antisymm hj (Nat.not_lt.1 hlt)
          clear hox hbz hxl hl8 hj hlt
          have HRP := Lib.hid (refParseK_any B _ wr hlb (HB.out _ (hxr.trans hxz)) HYB.out)
          simp only [codeA] at HRP
          go_upto_region 17 with (go_at_call 25; refine HRP.out.mono ?_; rintro e w12 ⟨c', ka', kn', kc', ia', im', ic', ba', bn', bc', rfl, HC', hin', hx12⟩)
          obtain rfl : c' = c := HC'.out.trans HC.out.symm
          have hin13 := hin'.ext ((Ext.refl w12).alloc (.cells #[.slice ka' kn' kc', .int .i64 c'.ins, .int .i64 c'.outs, .int .i64 c'.cells, .int .i64 c'.stack, .slice ia' im' ic', .slice ba' bn' bc'] 25))
          have hx13 : Ext wq (w12.alloc (.cells #[.slice ka' kn' kc', .int .i64 c'.ins, .int .i64 c'.outs, .int .i64 c'.cells, .int .i64 c'.stack, .slice ia' im' ic', .slice ba' bn' bc'] 25)) := (hxz.trans hx12).alloc _
          have hboxZ : BoxV w12.heap.size [.slice ka' kn' kc', .int .i64 c'.ins, .int .i64 c'.outs, .int .i64 c'.cells, .int .i64 c'.stack, .slice ia' im' ic', .slice ba' bn' bc'] (w12.alloc (.cells #[.slice ka' kn' kc', .int .i64 c'.ins, .int .i64 c'.outs, .int .i64 c'.cells, .int .i64 c'.stack, .slice ia' im' ic', .slice ba' bn' bc'] 25)) :=
            ⟨fun j u hu => by rw [cell_of_row _ _ j _ _ (0, 0) (heap_alloc_last w12 _)]; simpa using hu, fun j => frozen_of_row _ _ j _ _ (heap_alloc_last w12 _), by simp⟩
          have hfin := HFin.out _ hx13
          have hxw : Ext w (w12.alloc (.cells #[.slice ka' kn' kc', .int .i64 c'.ins, .int .i64 c'.outs, .int .i64 c'.cells, .int .i64 c'.stack, .slice ia' im' ic', .slice ba' bn' bc'] 25)) := hxr.trans hx13
          generalize w12.alloc (.cells #[.slice ka' kn' kc', .int .i64 c'.ins, .int .i64 c'.outs, .int .i64 c'.cells, .int .i64 c'.stack, .slice ia' im' ic', .slice ba' bn' bc'] 25) = w13 at hin13 hboxZ hfin hxw ⊢
          obtain ⟨Z, hZ⟩ : ∃ Z, Z = w12.heap.size := ⟨_, rfl⟩
          rw [← hZ] at hboxZ ⊢
          clear hZ HRP hx13 hin' hx12 y6
          have HS := Lib.hid (refSameC_any c' _ _ _ _ _ _ w13 hfin.1 hin13)
          simp only [codeA] at HS
          have z0 := hboxZ.cells 0 _ rfl
          have z1 := hboxZ.cells 1 _ rfl
          have z2 := hboxZ.cells 2 _ rfl
          have z3 := hboxZ.cells 3 _ rfl
          have z4 := hboxZ.cells 4 _ rfl
          have z5 := hboxZ.cells 5 _ rfl
          have z6 := hboxZ.cells 6 _ rfl
          have x0 := hfin.2.cells 0 _ rfl
          have x1 := hfin.2.cells 1 _ rfl
          have x2 := hfin.2.cells 2 _ rfl
          have x3 := hfin.2.cells 3 _ rfl
          have x4 := hfin.2.cells 4 _ rfl
          have x5 := hfin.2.cells 5 _ rfl
          have x6 := hfin.2.cells 6 _ rfl
          go_wp2_with (first | (go_at_call 18; refine (num19_any _ _).mono ?_; rintro e w9 ⟨rfl, rfl⟩) | (go_at_call 24; refine HS.out.mono ?_; rintro e w14 ⟨rfl, hx14⟩))
          go_ret
          exact ⟨rfl, hxw.trans hx14⟩
end Go.Proofs.Ytipfcfaigbeakaa

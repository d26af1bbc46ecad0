/-
  The walks of the program's code: a program is written.
  No condition.
  The walks of the laws on code: the document's example of a program.
  No condition.
  The walks of the laws on code: the document's example, and what is too much to be played.
  No condition.
-/
import Derived.Test.YtipfcfaigbeakaaMCodeWalkS
import Derived.Test.YtipfcfaigbeakaaMCodeWalkL
namespace Go.Proofs.Ytipfcfaigbeakaa
open Go.RowKit
set_option maxRecDepth 100000

/-- What is written of a program: its bytes, or none where the rules do not take it. -/
def outB (c : CodeV) : List Int := if chk c = 0 then codeB c else []
theorem chk_sizes {c : CodeV} (h : chk c = 0) : c.body.length ≤ 60000 ∧ c.kinds.length ≤ 8000 ∧ c.init.length ≤ 8000 := by
  unfold chk at h
  by_cases hz : 60000 < c.body.length ∨ 8000 < c.kinds.length ∨ 64 < c.stack
  · rw [if_pos hz] at h; cases h
  · rw [if_neg hz] at h
    cases hf : formedV c
    · rw [hf, if_pos rfl] at h; cases h
    · have := formed_of hf
      have h1 := this.init
      have h2 := this.sum
      have h3 := this.ins
      have h4 := this.outs
      omega
set_option maxHeartbeats 1000000 in
theorem write_any (c : CodeV) (kv iv bv : Value) (w : World) (h : CodeIn w kv iv bv c) (hwf : CodeWf c) :
    Calls Try.prog 21 #[codeA c kv iv bv] w fun e w' => ∃ v, e = .returned (.tuple #[v, .int .i64 (chk c)]) ∧ w'.ownsRow w.heap.size 5 1 v (outB c).length (u8s (outB c)) ∧ Ext w w' := by
  have HC : Hid (∀ w', Ext w w' → Calls Try.prog 17 #[codeA c kv iv bv] w' fun e w1 => e = .returned (.int .i64 (chk c)) ∧ Ext w' w1) := Lib.hid fun w' hx => check_any c kv iv bv w' (h.ext hx)
  have HW : Hid (chk c = 0 → ∀ w', Ext w w' → Calls Try.prog 48 #[codeA c kv iv bv] w' fun e w1 => ∃ v, e = .returned v ∧ w1.ownsRow w.heap.size 5 1 v (outB c).length (u8s (outB c)) ∧ Ext w' w1) := Lib.hid fun h0 w' hx => by
    obtain ⟨h1, h2, h3⟩ := chk_sizes h0
    refine (written_any c kv iv bv w' (h.ext hx) hwf h1 h2 h3).mono ?_
    rintro e w1 ⟨v, rfl, ho, hx1⟩
    refine ⟨v, rfl, ?_, hx1⟩
    unfold outB
    rw [if_pos h0]
    exact ownsRow_base ho hx.size
  have HN : Hid (chk c ≠ 0 → outB c = []) := Lib.hid fun h0 => by unfold outB; rw [if_neg h0]
  obtain ⟨x, hx⟩ : ∃ x, x = chk c := ⟨_, rfl⟩
  obtain ⟨o, ho⟩ : ∃ o, o = outB c := ⟨_, rfl⟩
  rw [← hx, ← ho] at HW
  rw [← hx, ← ho] at HN
  rw [← hx] at HC
  rw [← hx, ← ho]
  clear hx ho
  by_cases h0 : x = 0
  · subst h0
    simp only [codeA] at HC HW ⊢
    go_enter Try.func21, Try.ntmps21
    go_wp2_with (first | (go_at_call 17; refine (HC.out _ (by repeat first | exact Ext.refl _ | assumption | refine Ext.drew ?_ | refine Ext.drewN ?_ _ | refine Ext.extBy ?_ _ | refine Ext.alloc ?_ _ | refine Ext.setCell ?_ (by simp; try omega) _ | (refine Ext.trans ?_ (by assumption)))).mono ?_; rintro e w1 ⟨rfl, hx1⟩; (first | (with_reducible obtain ⟨t1, rfl⟩ := Ext.tok2 hx1) | (obtain ⟨t1, rfl⟩ := Ext.tok hx1))) | (go_at_call 48; refine (HW.out trivial _ (by repeat first | exact Ext.refl _ | assumption | refine Ext.drew ?_ | refine Ext.drewN ?_ _ | refine Ext.extBy ?_ _ | refine Ext.alloc ?_ _ | refine Ext.setCell ?_ (by simp; try omega) _ | (refine Ext.trans ?_ (by assumption)))).mono ?_; rintro e w2 ⟨v2, rfl, hown, hx2⟩; (first | (with_reducible obtain ⟨t2, rfl⟩ := Ext.tok2 hx2) | (obtain ⟨t2, rfl⟩ := Ext.tok hx2))))
    go_ret2
    exact ⟨v2, rfl, hown, (by repeat first | exact Ext.refl _ | assumption | refine Ext.drew ?_ | refine Ext.drewN ?_ _ | refine Ext.extBy ?_ _ | refine Ext.alloc ?_ _ | refine Ext.setCell ?_ (by simp; try omega) _ | (refine Ext.trans ?_ (by assumption)))⟩
  · have hb : (x != 0) = true := by simpa using h0
    have ho := HN.out h0
    subst ho
    clear HW HN
    simp only [codeA] at HC ⊢
    go_enter Try.func21, Try.ntmps21
    go_wp2_with (first | (go_at_call 17; refine (HC.out _ (by repeat first | exact Ext.refl _ | assumption | refine Ext.drew ?_ | refine Ext.drewN ?_ _ | refine Ext.extBy ?_ _ | refine Ext.alloc ?_ _ | refine Ext.setCell ?_ (by simp; try omega) _ | (refine Ext.trans ?_ (by assumption)))).mono ?_; rintro e w1 ⟨rfl, hx1⟩; (first | (with_reducible obtain ⟨t1, rfl⟩ := Ext.tok2 hx1) | (obtain ⟨t1, rfl⟩ := Ext.tok hx1))))
    go_ret2
    exact ⟨_, rfl, own_nil _ _ _ _, (by repeat first | exact Ext.refl _ | assumption | refine Ext.drew ?_ | refine Ext.drewN ?_ _ | refine Ext.extBy ?_ _ | refine Ext.alloc ?_ _ | refine Ext.setCell ?_ (by simp; try omega) _ | (refine Ext.trans ?_ (by assumption)))⟩
end Go.Proofs.Ytipfcfaigbeakaa

namespace Go.Proofs.Ytipfcfaigbeakaa
open Go.RowKit
set_option maxRecDepth 100000

abbrev smallV : CodeV := { kinds := [2, 2], ins := 1, outs := 1, cells := 0, init := [], stack := 2, body := [⟨2, 0, 0⟩, ⟨1, 1, 2⟩, ⟨5, 3, 2⟩, ⟨3, 1, 0⟩, ⟨9, 0, 0⟩] }
abbrev smallK : Array Value := #[.int .i64 2, .int .i64 2]
abbrev smallB : Array Value := #[.int .i64 2, .int .i64 0, .int .i64 0, .int .i64 1, .int .i64 1, .int .i64 2, .int .i64 5, .int .i64 3, .int .i64 2, .int .i64 3, .int .i64 1, .int .i64 0, .int .i64 9, .int .i64 0, .int .i64 0]
/-- The example's slices lie in the blocks g and g + 1. -/
def SmallAt (g : Nat) (w : World) : Prop := w.heap[g]? = some (.cells smallK 3) ∧ w.heap[g + 1]? = some (.cells smallB 33)
theorem SlC.of_block {w : World} {g : Nat} {arr : Array Value} {e : TypeId} {fr : Nat × Nat} (hg : w.heap[g]? = some (.cells arr e fr)) (n cap : Nat) (cs : List Value) (hn : n ≤ cap) (hc : cap ≤ maxLen) (ha : arr.toList = cs) : SlC w (.slice (some ⟨g, 0, none⟩) n cap) n cs := by
  refine ⟨_, cap, rfl, hn, hc, fun j u hu => ⟨g, 0, rfl, ?_⟩⟩
  subst ha
  rw [Nat.zero_add, cell_of_row w g j arr e fr hg]
  simpa using hu
theorem SlC.nil (w : World) : SlC w (.slice none 0 0) 0 [] := ⟨none, 0, rfl, Nat.le_refl _, Nat.zero_le _, fun j u hu => by simp at hu⟩
theorem SmallAt.code {g : Nat} {w : World} (h : SmallAt g w) : CodeIn w (.slice (some ⟨g, 0, none⟩) 2 2) (.slice none 0 0) (.slice (some ⟨g + 1, 0, none⟩) 5 5) smallV :=
  ⟨SlC.of_block h.1 2 2 _ (by decide) (by decide) rfl, SlC.nil w, SlC.of_block h.2 5 5 _ (by decide) (by decide) rfl⟩
theorem SmallAt.ext {g : Nat} {w w' : World} (h : SmallAt g w) (hx : Ext w w') : SmallAt g w' :=
  ⟨by rw [Below.block hx g (Array.getElem?_eq_some_iff.1 h.1).1]; exact h.1, by rw [Below.block hx (g + 1) (Array.getElem?_eq_some_iff.1 h.2).1]; exact h.2⟩
set_option maxHeartbeats 1000000 in
theorem small_any (w : World) : Calls Try.prog 20 #[] w fun e w' => e = .returned (codeA smallV (.slice (some ⟨w.heap.size + 1, 0, none⟩) 2 2) (.slice none 0 0) (.slice (some ⟨w.heap.size + 1 + 1, 0, none⟩) 5 5)) ∧ Ext w w' ∧ w'.heap.size = w.heap.size + 3 ∧ SmallAt (w.heap.size + 1) w' := by
  go_enter Try.func20, Try.ntmps20
  go_wp2
  refine ret_row rfl w.heap.size 25 #[.slice (some ⟨w.heap.size + 1, 0, none⟩) 2 2, .int .i64 1, .int .i64 1, .int .i64 0, .int .i64 2, .slice none 0 0, .slice (some ⟨w.heap.size + 1 + 1, 0, none⟩) 5 5] _ rfl ?hg Try.underlying25 rfl (by kernel_rfl) rfl ?_
  case hg => exact (Below.block (((Ext.refl (w.alloc _)).alloc _).alloc _) w.heap.size (by simp)).trans (heap_alloc_last w _)
  refine ⟨rfl, (by repeat first | exact Ext.refl _ | assumption | refine Ext.drew ?_ | refine Ext.drewN ?_ _ | refine Ext.extBy ?_ _ | refine Ext.alloc ?_ _ | refine Ext.setCell ?_ (by simp; try omega) _ | (refine Ext.trans ?_ (by assumption))), by simp, ?_, ?_⟩
  · exact (Below.block ((Ext.refl ((w.alloc _).alloc _)).alloc _) (w.heap.size + 1) (by simp)).trans (heap_alloc_at _ _ _ (by simp))
  · exact heap_alloc_at _ _ _ (by simp)
end Go.Proofs.Ytipfcfaigbeakaa

namespace Go.Proofs.Ytipfcfaigbeakaa
open Go.RowKit
set_option maxRecDepth 100000

theorem num19_any (n : Int) (w : World) : Calls Try.prog 18 #[.int .i64 n] w fun e w' => e = .returned (.int .i64 n) ∧ w = w' := by
  go_enter Try.func18, Try.ntmps18
  go_wp2
  go_ret
  exact ⟨rfl, rfl⟩
def bigV (c : CodeV) : Bool := decide (3000 < c.body.length) || decide (500 < c.kinds.length) || decide (500 < c.init.length)
theorem big_any (c : CodeV) (kv iv bv : Value) (w : World) (h : CodeIn w kv iv bv c) :
    Calls Try.prog 16 #[codeA c kv iv bv] w fun e w' => e = .returned (.bool (bigV c)) ∧ Ext w w' := by
  obtain ⟨⟨ak, ck, rfl, hk1, hk2, hkc⟩, ⟨ai, ci, rfl, hi1, hi2, hic⟩, ⟨ab, cb, rfl, hb1, hb2, hbc⟩⟩ := id h
  have hln := nat64 hk1 hk2
  have hin := nat64 hi1 hi2
  have hbn := nat64 hb1 hb2
  clear hkc hic hbc hk1 hk2 hi1 hi2 hb1 hb2
  obtain ⟨x, hx⟩ : ∃ x, x = bigV c := ⟨_, rfl⟩
  rw [← hx]
  have HX := Lib.hid hx
  clear hx
  simp only [codeA]
  go_enter Try.func16, Try.ntmps16
  go_wp2
  all_goals
    go_ret
    refine ⟨?_, (by repeat first | exact Ext.refl _ | assumption | refine Ext.drew ?_ | refine Ext.drewN ?_ _ | refine Ext.extBy ?_ _ | refine Ext.alloc ?_ _ | refine Ext.setCell ?_ (by simp; try omega) _ | (refine Ext.trans ?_ (by assumption)))⟩
    rw [HX.out]
    unfold bigV
    refine congrArg (fun b => Ending.returned (.bool b)) ?_; rw [Bool.eq_iff_iff]; simp only [Bool.or_eq_true, decide_eq_true_eq, true_iff]; omega
theorem chk_small : chk smallV = 0 := by decide +kernel
theorem chk_small1 : chk { smallV with stack := 1 } = 50 := by decide +kernel
theorem wf_small : CodeWf smallV := ⟨by simp [I64], by simp [I64], by simp [I64], by simp [I64], by simp [I64], by simp [I64], by simp [I64]⟩
theorem out_small : outB smallV = [77, 84, 82, 49, 4, 2, 2, 0, 4, 4, 4, 10, 4, 0, 0, 2, 2, 4, 10, 6, 4, 6, 2, 0, 18, 0, 0] := by decide +kernel
set_option maxHeartbeats 2000000 in
theorem alive_any (w : World) : Calls Try.prog 15 #[] w fun e w' => e = .returned (.bool true) ∧ Ext w w' := by
  go_enter Try.func15, Try.ntmps15
  go_upto_region 2 with (first | (go_at_call 20; refine (small_any w).mono ?_; rintro e w1 ⟨rfl, hx1, hs1, ha1⟩))
  go_upto_region 3 with (first | (go_at_call 20; refine (small_any _).mono ?_; rintro e w2 ⟨rfl, hx2, hs2, ha2⟩))
  obtain ⟨q0, q1, q2, q3, q4, q5, q6⟩ := BoxIs.of (c := smallV) hx2
  rw [hs1] at q0 q1 q2 q3 q4 q5 q6
  have hc1 := ha1.code.ext ((Ext.refl _).alloc _ |>.trans hx2)
  have hc2 := ha2.code
  have hs2' : w2.heap.size = w.heap.size + 7 := by rw [hs2]; simp; omega
  have hx2' : Ext w w2 := (hx1.alloc _).trans hx2
  simp [hs1] at hc2
  clear hx2 hs2 ha2 ha1 hx1 hs1
  have HC1 : Hid (∀ w', Ext w2 w' → Calls Try.prog 17 #[codeA smallV (.slice (some ⟨w.heap.size + 1, 0, none⟩) 2 2) (.slice none 0 0) (.slice (some ⟨w.heap.size + 1 + 1, 0, none⟩) 5 5)] w' fun e w1 => e = .returned (.int .i64 0) ∧ Ext w' w1) := Lib.hid fun w' hx => by
    have := check_any smallV _ _ _ w' (hc1.ext hx)
    rw [chk_small] at this
    exact this
  have HC2 : Hid (∀ w', Ext w2 w' → Calls Try.prog 17 #[codeA { smallV with stack := 1 } (.slice (some ⟨w.heap.size + 3 + 1 + 1, 0, none⟩) 2 2) (.slice none 0 0) (.slice (some ⟨w.heap.size + 3 + 1 + 1 + 1, 0, none⟩) 5 5)] w' fun e w1 => e = .returned (.int .i64 50) ∧ Ext w' w1) := Lib.hid fun w' hx => by
    have := check_any { smallV with stack := 1 } _ _ _ w' (CodeIn.ext (w := w2) ⟨hc2.1, hc2.2, hc2.3⟩ hx)
    rw [chk_small1] at this
    exact this
  have HW : Hid (∀ w', Ext w2 w' → Calls Try.prog 21 #[codeA smallV (.slice (some ⟨w.heap.size + 1, 0, none⟩) 2 2) (.slice none 0 0) (.slice (some ⟨w.heap.size + 1 + 1, 0, none⟩) 5 5)] w' fun e w1 => ∃ g cap, e = .returned (.tuple #[.slice (some ⟨g, 0, none⟩) 27 cap, .int .i64 0]) ∧ 27 ≤ cap ∧ cap ≤ maxLen ∧ (∀ j u, (u8s [77, 84, 82, 49, 4, 2, 2, 0, 4, 4, 4, 10, 4, 0, 0, 2, 2, 4, 10, 6, 4, 6, 2, 0, 18, 0, 0])[j]? = some u → w1.cell? ⟨g, j, none⟩ = some u) ∧ Ext w' w1) := Lib.hid fun w' hx => by
    refine (write_any smallV _ _ _ w' (hc1.ext hx) wf_small).mono ?_
    rintro e w1 ⟨v, rfl, ho, hx1⟩
    rw [chk_small]
    rw [out_small] at ho
    obtain ⟨g, cap, rfl, hb, hnc, hg⟩ := ownsRow_some ho (by decide)
    obtain ⟨a, cap', e1, h1, h2, h3⟩ := SlC.of_owns ho
    simp only [Value.slice.injEq] at e1
    obtain ⟨rfl, -, rfl⟩ := e1
    refine ⟨g, cap, rfl, h1, h2, fun j u hu => ?_, hx1⟩
    obtain ⟨b, o, e2, hc⟩ := h3 j u hu
    simp only [Option.some.injEq, Addr.mk.injEq] at e2
    obtain ⟨rfl, rfl, -⟩ := e2
    rw [Nat.zero_add] at hc
    exact hc
  clear hc1 hc2
  go_upto_region 5 with (first | (go_at_call 17; refine (HC1.out _ (by repeat first | exact Ext.refl _ | assumption | refine Ext.drew ?_ | refine Ext.drewN ?_ _ | refine Ext.extBy ?_ _ | refine Ext.alloc ?_ _ | refine Ext.setCell ?_ (by simp; try omega) _ | (refine Ext.trans ?_ (by assumption)))).mono ?_; rintro e w3 ⟨rfl, hx3⟩; (first | (with_reducible obtain ⟨t3, rfl⟩ := Ext.tok2 hx3) | (obtain ⟨t3, rfl⟩ := Ext.tok hx3))))
  go_upto_region 6 with (first | (go_at_call 17; refine (HC2.out _ (by repeat first | exact Ext.refl _ | assumption | refine Ext.drew ?_ | refine Ext.drewN ?_ _ | refine Ext.extBy ?_ _ | refine Ext.alloc ?_ _ | refine Ext.setCell ?_ (by simp; try omega) _ | (refine Ext.trans ?_ (by assumption)))).mono ?_; rintro e w4 ⟨rfl, hx4⟩; (first | (with_reducible obtain ⟨t4, rfl⟩ := Ext.tok2 hx4) | (obtain ⟨t4, rfl⟩ := Ext.tok hx4))))
  go_upto_region 7 with (first | (go_at_call 21; refine (HW.out _ (by repeat first | exact Ext.refl _ | assumption | refine Ext.drew ?_ | refine Ext.drewN ?_ _ | refine Ext.extBy ?_ _ | refine Ext.alloc ?_ _ | refine Ext.setCell ?_ (by simp; try omega) _ | (refine Ext.trans ?_ (by assumption)))).mono ?_; rintro e w5 ⟨g5, cap5, rfl, hn5, hm5, hc5, hx5⟩; (first | (with_reducible obtain ⟨t5, rfl⟩ := Ext.tok2 hx5) | (obtain ⟨t5, rfl⟩ := Ext.tok hx5))))
  have hE : Ext w ((w2.alloc (.cells #[.slice (some ⟨w.heap.size + 3 + 1 + 1, 0, none⟩) 2 2, .int .i64 1, .int .i64 1, .int .i64 0, .int .i64 1, .slice none 0 0, .slice (some ⟨w.heap.size + 3 + 1 + 1 + 1, 0, none⟩) 5 5] 25)).extBy t5) := (by repeat first | exact Ext.refl _ | assumption | refine Ext.drew ?_ | refine Ext.drewN ?_ _ | refine Ext.extBy ?_ _ | refine Ext.alloc ?_ _ | refine Ext.setCell ?_ (by simp; try omega) _ | (refine Ext.trans ?_ (by assumption)))
  generalize ((w2.alloc (.cells #[.slice (some ⟨w.heap.size + 3 + 1 + 1, 0, none⟩) 2 2, .int .i64 1, .int .i64 1, .int .i64 0, .int .i64 1, .slice none 0 0, .slice (some ⟨w.heap.size + 3 + 1 + 1 + 1, 0, none⟩) 5 5] 25)).extBy t5) = w5 at hc5 hE ⊢
  have b4 := hc5 4 _ rfl
  have b9 := hc5 9 _ rfl
  have b11 := hc5 11 _ rfl
  have cv := run_convert_bytes_arg (P := Try.prog) w5 38 5 Try.underlying38 Try.underlying5 g5 0 4 cap5 [77, 84, 82, 49] rfl (fun i hi => by
    rw [Nat.zero_add]
    match i, hi with
    | 0, _ => exact hc5 0 _ rfl
    | 1, _ => exact hc5 1 _ rfl
    | 2, _ => exact hc5 2 _ rfl
    | 3, _ => exact hc5 3 _ rfl) 9 Try.underlying9
  have hst : (strOfNums [77, 84, 82, 49]).toList = [77, 84, 82, 49] := by rw [Lib.strOfNums_toList]; rfl
  have e4 : 4 ≤ cap5 := by omega
  clear hc5 hx3 hx4 hx5 q0 q1 q2 q3 q4 q5 q6 HC1 HC2 HW
  go_wp2_with (first | (go_at_call 18; refine (num19_any _ _).mono ?_; rintro e w6 ⟨rfl, rfl⟩))
  go_ret
  exact ⟨rfl, hE⟩
end Go.Proofs.Ytipfcfaigbeakaa

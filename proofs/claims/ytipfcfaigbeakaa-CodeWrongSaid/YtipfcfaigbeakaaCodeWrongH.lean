/-
  The law on what can be wrong with code: its walk, some of its cases.
  No condition.
-/
import Derived.Test.YtipfcfaigbeakaaCodeWrongB
namespace Go.Proofs.Ytipfcfaigbeakaa
open Go.RowKit
set_option maxRecDepth 100000


set_option maxHeartbeats 4000000 in
theorem codeWrong_f (K : Nat) (hK : K = 15) (w : World) : Calls Try.prog 5 #[.int .i64 (K : Int)] w fun e w' => e = .returned (.bool true) ∧ Ext w w' := by
  have h0 : K < 22 := by omega
  obtain ⟨x, hx⟩ : ∃ x, x = wantV.getD K 0 := ⟨_, rfl⟩
  have HA : Hid (Ask K x) := Lib.hid (by rw [hx]; exact ask_all ⟨K, h0⟩)
  go_enter Try.func5, Try.ntmps5
  go_upto_region 6 with (first | (go_at_call 15; refine (alive_any _).mono ?_; rintro e w1 ⟨rfl, hx1⟩; (first | (with_reducible obtain ⟨t1, rfl⟩ := Ext.tok2 hx1) | (obtain ⟨t1, rfl⟩ := Ext.tok hx1))) | (go_at_call 20; refine (small_any _).mono ?_; rintro e w2 ⟨rfl, hx2, hs2, ha2⟩))
  all_goals try omega
  have ht := wantTab ((Below.block hx2 (w.heap.size + t1.n) (by simp)).trans (heap_alloc_at _ _ _ (by simp))) ⟨K, h0⟩
  rw [← hx] at ht
  have hlike : LikeAt (w.heap.size + t1.n + 1 + 1) smallK smallB w2 := by simpa using (show LikeAt _ smallK smallB w2 from ⟨ha2.1, ha2.2⟩)
  have hE2 : Ext w w2 := ((Ext.by w t1).alloc _).trans hx2
  have hs3 : w2.heap.size = w.heap.size + t1.n + 4 := by rw [hs2]; simp <;> omega
  have kc0 := hlike.kindAt 0 (.int .i64 2) rfl
  have b0 := hlike.insAt 0 (.int .i64 2) rfl
  have b1 := hlike.insAt 1 (.int .i64 0) rfl
  have b2 := hlike.insAt 2 (.int .i64 0) rfl
  have b3 := hlike.insAt 3 (.int .i64 1) rfl
  have b4 := hlike.insAt 4 (.int .i64 1) rfl
  have b5 := hlike.insAt 5 (.int .i64 2) rfl
  have b6 := hlike.insAt 6 (.int .i64 5) rfl
  have b7 := hlike.insAt 7 (.int .i64 3) rfl
  have b8 := hlike.insAt 8 (.int .i64 2) rfl
  have b9 := hlike.insAt 9 (.int .i64 3) rfl
  have b10 := hlike.insAt 10 (.int .i64 1) rfl
  have b11 := hlike.insAt 11 (.int .i64 0) rfl
  have b12 := hlike.insAt 12 (.int .i64 9) rfl
  have b13 := hlike.insAt 13 (.int .i64 0) rfl
  have b14 := hlike.insAt 14 (.int .i64 0) rfl
  have fk : ∀ j, w2.frozen? ⟨w.heap.size + t1.n + 1 + 1, j, none⟩ = false := fun j => frozen_of_row w2 _ j _ _ hlike.1
  have fb : ∀ j, w2.frozen? ⟨w.heap.size + t1.n + 1 + 1 + 1, j, none⟩ = false := fun j => frozen_of_row w2 _ j _ _ hlike.2
  clear hx1 hx2 hs2 ha2 hx

  obtain rfl := hK
  have hXl : w2.heap.size < (w2.alloc (.cells #[.slice (some ⟨w.heap.size + t1.n + 1 + 1, 0, none⟩) 2 2, .int .i64 1, .int .i64 1, .int .i64 0, .int .i64 2, .slice none 0 0, .slice (some ⟨w.heap.size + t1.n + 1 + 1 + 1, 0, none⟩) 5 5] 25)).heap.size := by simp
  have hb : BoxC w2.heap.size (.slice (some ⟨w.heap.size + t1.n + 1 + 1, 0, none⟩) 2 2) 1 1 0 2 (.slice none 0 0) (.slice (some ⟨w.heap.size + t1.n + 1 + 1 + 1, 0, none⟩) 5 5) (w2.alloc (.cells #[.slice (some ⟨w.heap.size + t1.n + 1 + 1, 0, none⟩) 2 2, .int .i64 1, .int .i64 1, .int .i64 0, .int .i64 2, .slice none 0 0, .slice (some ⟨w.heap.size + t1.n + 1 + 1 + 1, 0, none⟩) 5 5] 25)) := ⟨by go_simp, by go_simp, by go_simp, by go_simp, by go_simp, by go_simp, by go_simp, by go_simp⟩
  have hl2 := hlike.ext ((Ext.refl w2).alloc (.cells #[.slice (some ⟨w.heap.size + t1.n + 1 + 1, 0, none⟩) 2 2, .int .i64 1, .int .i64 1, .int .i64 0, .int .i64 2, .slice none 0 0, .slice (some ⟨w.heap.size + t1.n + 1 + 1 + 1, 0, none⟩) 5 5] 25))
  go_upto_region 45 with (at_builtin; go_must (refine wpList_grow_lit rfl _ _ 23 33 rfl (.agg #[.int .i64 0, .int .i64 0, .int .i64 0]) 3 24 Try.underlying23 infoIns rfl (by decide) (some ⟨w.heap.size + t1.n + 1 + 1 + 1, 0, none⟩) 3 (insCells [⟨2, 0, 0⟩, ⟨1, 1, 2⟩, ⟨5, 3, 2⟩]) rfl (fun h => by cases h) rfl (fun b hb' j u hu => by cases hb'; rw [slot_add, Nat.zero_add]; exact hl2.insAll j u (take_get hu)) 1 1 _ #[.int .i64 9, .int .i64 0, .int .i64 0] rfl (by simp [hs3]) rfl (by simp [Value.oneCell']) (by omega) (by unfold maxLen; omega) (by omega) ?_; intro v2 w3 hown2 hx3); obtain ⟨a2, m2, c2, rfl⟩ := own_slice3 hown2; have hb3 := hb.below hx3 hXl; rw [hs3] at hb3; obtain ⟨r0, r1, r2, r3, r4, r5, r6, r7⟩ := id hb3; have ht3 : w3.cell? ⟨w.heap.size + t1.n, 15, none⟩ = some (.int .i64 x) := hx3.cell (((Ext.refl w2).alloc _).cell ht); have hw3 := hx3.size; rw [World.size_alloc, hs3] at hw3; have hT3 : w.heap.size + t1.n < w3.heap.size := by omega)
  have hin : CodeIn (w3.setCell ⟨w.heap.size + t1.n + 4, 6, none⟩ (.slice a2 m2 c2)) (.slice (some ⟨w.heap.size + t1.n + 1 + 1, 0, none⟩) 2 2) (.slice none 0 0) (.slice a2 m2 c2) (wrongV 15) :=
    ⟨(LikeAt.code ((hl2.ext hx3).other (X := w.heap.size + t1.n + 4) (by omega) (by omega) 6 (.slice a2 m2 c2)) [2, 2] [⟨2, 0, 0⟩, ⟨1, 1, 2⟩, ⟨5, 3, 2⟩, ⟨3, 1, 0⟩, ⟨9, 0, 0⟩] smallV 5 5 rfl rfl rfl rfl (by decide) (by decide) rfl rfl rfl).kinds, SlC.nil _, SlC.of_owns (ownsRow_setCell_below hown2 (a := ⟨w.heap.size + t1.n + 4, 6, none⟩) (by show w.heap.size + t1.n + 4 < _; omega) _)⟩
  have hE3 : Ext w w3 := (hE2.alloc _).trans hx3
  clear hb hb3 hl2 hlike hown2 ht
  go_wp2_with (first | (go_at_call 17; refine (HA.out _ _ _ _ hin).mono ?_; rintro e w4 ⟨rfl, hx4⟩; (first | (with_reducible obtain ⟨t4, rfl⟩ := Ext.tok2 hx4) | (obtain ⟨t4, rfl⟩ := Ext.tok hx4))) | (refine region_drew (by kernel_rfl) (by kernel_rfl) ?_; (repeat (go_big_quiet_step (exact in_drew (num19_any _ _)))); refine wpQuiet_nil ?_; rintro _ ⟨nq, rfl⟩))
  go_ret
  exact ⟨rfl, by first | exact Ext.drewN (Ext.extBy (ext_set hE3 (show w.heap.size ≤ w.heap.size + t1.n + 4 by omega) 6 _) _) _ | exact Ext.drew (Ext.extBy (ext_set hE3 (show w.heap.size ≤ w.heap.size + t1.n + 4 by omega) 6 _) _)⟩
end Go.Proofs.Ytipfcfaigbeakaa

/-
  The law on what can be wrong with code: its walk, some of its cases.
  No condition.
-/
import Derived.Test.YtipfcfaigbeakaaCodeWrongB
namespace Go.Proofs.Ytipfcfaigbeakaa
open Go.RowKit
set_option maxRecDepth 100000


set_option maxHeartbeats 4000000 in
theorem codeWrong_b (K : Nat) (hK : K = 7 ∨ K = 8 ∨ K = 9 ∨ K = 10) (w : World) : Calls Try.prog 5 #[.int .i64 (K : Int)] w fun e w' => e = .returned (.bool true) ∧ Ext w w' := by
  have h0 : K < 22 := by omega
  obtain ⟨x, hx⟩ : ∃ x, x = wantV.getD K 0 := ⟨_, rfl⟩
  have HA : Hid (Ask K x) := Lib.hid (by rw [hx]; exact ask_all ⟨K, h0⟩)
  go_enter Try.func5, Try.ntmps5
  go_upto_region 6 with (first | (go_at_call 15; refine (alive_any _).mono ?_; rintro e w1 ⟨rfl, hx1⟩; (first | (with_reducible obtain ⟨t1, rfl⟩ := Ext.tok2 hx1) | (obtain ⟨t1, rfl⟩ := Ext.tok hx1))) | (go_at_call 20; refine (small_any _).mono ?_; rintro e w2 ⟨rfl, hx2, hs2, ha2⟩))
  all_goals try omega
  have ht := wantTab ((Below.block hx2 (w.heap.size + t1.n) (by simp)).trans (heap_alloc_at _ _ _ (by simp))) ⟨K, h0⟩
  rw [← hx] at ht
  have hlike : LikeAt (w.heap.size + t1.n + 1 + 1) smallK smallB w2 := by simpa using (show LikeAt _ smallK smallB w2 from ⟨ha2.1, ha2.2⟩)
  have hE2 : Ext w w2 := ((Ext.by w t1).alloc _).trans hx2
  have hs3 : w2.heap.size = w.heap.size + t1.n + 4 := by rw [hs2]; simp <;> omega
  have kc0 := hlike.kindAt 0 (.int .i64 2) rfl
  have b0 := hlike.insAt 0 (.int .i64 2) rfl
  have b1 := hlike.insAt 1 (.int .i64 0) rfl
  have b2 := hlike.insAt 2 (.int .i64 0) rfl
  have b3 := hlike.insAt 3 (.int .i64 1) rfl
  have b4 := hlike.insAt 4 (.int .i64 1) rfl
  have b5 := hlike.insAt 5 (.int .i64 2) rfl
  have b6 := hlike.insAt 6 (.int .i64 5) rfl
  have b7 := hlike.insAt 7 (.int .i64 3) rfl
  have b8 := hlike.insAt 8 (.int .i64 2) rfl
  have b9 := hlike.insAt 9 (.int .i64 3) rfl
  have b10 := hlike.insAt 10 (.int .i64 1) rfl
  have b11 := hlike.insAt 11 (.int .i64 0) rfl
  have b12 := hlike.insAt 12 (.int .i64 9) rfl
  have b13 := hlike.insAt 13 (.int .i64 0) rfl
  have b14 := hlike.insAt 14 (.int .i64 0) rfl
  have fk : ∀ j, w2.frozen? ⟨w.heap.size + t1.n + 1 + 1, j, none⟩ = false := fun j => frozen_of_row w2 _ j _ _ hlike.1
  have fb : ∀ j, w2.frozen? ⟨w.heap.size + t1.n + 1 + 1 + 1, j, none⟩ = false := fun j => frozen_of_row w2 _ j _ _ hlike.2
  clear hx1 hx2 hs2 ha2 hx

  rcases hK with rfl | rfl | rfl | rfl
  · go_wp2_with (first | (go_at_call 17; refine (HA.out _ _ _ _ (LikeAt.code (LikeAt.ext (LikeAt.ins hlike 3 (.int .i64 10)) ((Ext.refl _).alloc _)) [2, 2] [⟨2, 0, 0⟩, ⟨10, 1, 2⟩, ⟨5, 3, 2⟩, ⟨3, 1, 0⟩, ⟨9, 0, 0⟩] (wrongV 7) 5 5 rfl rfl rfl rfl (by decide) (by decide) rfl rfl rfl)).mono ?_; rintro e w4 ⟨rfl, hx4⟩; (first | (with_reducible obtain ⟨t4, rfl⟩ := Ext.tok2 hx4) | (obtain ⟨t4, rfl⟩ := Ext.tok hx4))) | (refine region_drew (by kernel_rfl) (by kernel_rfl) ?_; (repeat (go_big_quiet_step (exact in_drew (num19_any _ _)))); refine wpQuiet_nil ?_; rintro _ ⟨nq, rfl⟩))
    go_ret
    exact ⟨rfl, (by repeat first | exact Ext.refl _ | assumption | refine Ext.drew ?_ | refine Ext.drewN ?_ _ | refine Ext.extBy ?_ _ | refine Ext.alloc ?_ _ | refine Ext.setCell ?_ (by simp; try omega) _ | (refine Ext.trans ?_ (by assumption)))⟩
  · go_wp2_with (first | (go_at_call 17; refine (HA.out _ _ _ _ (LikeAt.code (LikeAt.ext (LikeAt.ins hlike 4 (.int .i64 200)) ((Ext.refl _).alloc _)) [2, 2] [⟨2, 0, 0⟩, ⟨1, 200, 2⟩, ⟨5, 3, 2⟩, ⟨3, 1, 0⟩, ⟨9, 0, 0⟩] (wrongV 8) 5 5 rfl rfl rfl rfl (by decide) (by decide) rfl rfl rfl)).mono ?_; rintro e w4 ⟨rfl, hx4⟩; (first | (with_reducible obtain ⟨t4, rfl⟩ := Ext.tok2 hx4) | (obtain ⟨t4, rfl⟩ := Ext.tok hx4))) | (refine region_drew (by kernel_rfl) (by kernel_rfl) ?_; (repeat (go_big_quiet_step (exact in_drew (num19_any _ _)))); refine wpQuiet_nil ?_; rintro _ ⟨nq, rfl⟩))
    go_ret
    exact ⟨rfl, (by repeat first | exact Ext.refl _ | assumption | refine Ext.drew ?_ | refine Ext.drewN ?_ _ | refine Ext.extBy ?_ _ | refine Ext.alloc ?_ _ | refine Ext.setCell ?_ (by simp; try omega) _ | (refine Ext.trans ?_ (by assumption)))⟩
  · go_wp2_with (first | (go_at_call 17; refine (HA.out _ _ _ _ (LikeAt.code (LikeAt.ext (LikeAt.ins hlike 1 (.int .i64 2)) ((Ext.refl _).alloc _)) [2, 2] [⟨2, 2, 0⟩, ⟨1, 1, 2⟩, ⟨5, 3, 2⟩, ⟨3, 1, 0⟩, ⟨9, 0, 0⟩] (wrongV 9) 5 5 rfl rfl rfl rfl (by decide) (by decide) rfl rfl rfl)).mono ?_; rintro e w4 ⟨rfl, hx4⟩; (first | (with_reducible obtain ⟨t4, rfl⟩ := Ext.tok2 hx4) | (obtain ⟨t4, rfl⟩ := Ext.tok hx4))) | (refine region_drew (by kernel_rfl) (by kernel_rfl) ?_; (repeat (go_big_quiet_step (exact in_drew (num19_any _ _)))); refine wpQuiet_nil ?_; rintro _ ⟨nq, rfl⟩))
    go_ret
    exact ⟨rfl, (by repeat first | exact Ext.refl _ | assumption | refine Ext.drew ?_ | refine Ext.drewN ?_ _ | refine Ext.extBy ?_ _ | refine Ext.alloc ?_ _ | refine Ext.setCell ?_ (by simp; try omega) _ | (refine Ext.trans ?_ (by assumption)))⟩
  · go_wp2_with (first | (go_at_call 17; refine (HA.out _ _ _ _ (LikeAt.code (LikeAt.ext (LikeAt.ins hlike 10 (.int .i64 0)) ((Ext.refl _).alloc _)) [2, 2] [⟨2, 0, 0⟩, ⟨1, 1, 2⟩, ⟨5, 3, 2⟩, ⟨3, 0, 0⟩, ⟨9, 0, 0⟩] (wrongV 10) 5 5 rfl rfl rfl rfl (by decide) (by decide) rfl rfl rfl)).mono ?_; rintro e w4 ⟨rfl, hx4⟩; (first | (with_reducible obtain ⟨t4, rfl⟩ := Ext.tok2 hx4) | (obtain ⟨t4, rfl⟩ := Ext.tok hx4))) | (refine region_drew (by kernel_rfl) (by kernel_rfl) ?_; (repeat (go_big_quiet_step (exact in_drew (num19_any _ _)))); refine wpQuiet_nil ?_; rintro _ ⟨nq, rfl⟩))
    go_ret
    exact ⟨rfl, (by repeat first | exact Ext.refl _ | assumption | refine Ext.drew ?_ | refine Ext.drewN ?_ _ | refine Ext.extBy ?_ _ | refine Ext.alloc ?_ _ | refine Ext.setCell ?_ (by simp; try omega) _ | (refine Ext.trans ?_ (by assumption)))⟩
end Go.Proofs.Ytipfcfaigbeakaa

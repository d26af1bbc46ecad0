/-
  The law on what can be wrong with code: its walk, some of its cases.
  No condition.
-/
import Derived.Test.YtipfcfaigbeakaaCodeWrongB
import Derived.Test.YtipfcfaigbeakaaMCodeRefB
import Derived.Deep.RegionLaw
namespace Go.Proofs.Ytipfcfaigbeakaa
open Go.RowKit
set_option maxRecDepth 100000


theorem own_block {w : World} {g base : Nat} {arr : Array Value} {e : TypeId} {size : Nat} (hg : w.heap[g]? = some (.cells arr e (0, 0))) (hb : base ≤ g) (n : Nat) (hs : arr.size = n * size) (hm : n ≤ maxLen) (xs : List Value) (hx : arr.toList = xs) : w.ownsRow base e size (.slice (some ⟨g, 0, none⟩) n n) n xs := by
  subst hx
  refine ⟨by simp [hs], .inr ⟨g, n, arr, rfl, hb, hg, Nat.le_refl _, hm, hs, ?_⟩⟩
  rw [List.take_of_length_le (by simp [hs])]
theorem insBody_one : ∀ u ∈ insCells smallBody, u.oneCell' = true := by
  intro u hu
  unfold insCells at hu
  obtain ⟨q, _, hq⟩ := List.mem_flatMap.1 hu
  simp only [List.mem_cons, List.not_mem_nil, or_false] at hq
  rcases hq with rfl | rfl | rfl <;> rfl

set_option maxHeartbeats 4000000 in
theorem codeWrong_g (K : Nat) (hK : K = 18) (w : World) : Calls Try.prog 5 #[.int .i64 (K : Int)] w fun e w' => e = .returned (.bool true) ∧ Ext w w' := by
  have h0 : K < 22 := by omega
  obtain ⟨x, hx⟩ : ∃ x, x = wantV.getD K 0 := ⟨_, rfl⟩
  have HA : Hid (Ask K x) := Lib.hid (by rw [hx]; exact ask_all ⟨K, h0⟩)
  go_enter Try.func5, Try.ntmps5
  go_upto_region 6 with (first | (go_at_call 15; refine (alive_any _).mono ?_; rintro e w1 ⟨rfl, hx1⟩; (first | (with_reducible obtain ⟨t1, rfl⟩ := Ext.tok2 hx1) | (obtain ⟨t1, rfl⟩ := Ext.tok hx1))) | (go_at_call 20; refine (small_any _).mono ?_; rintro e w2 ⟨rfl, hx2, hs2, ha2⟩))
  all_goals try omega
  have ht := wantTab ((Below.block hx2 (w.heap.size + t1.n) (by simp)).trans (heap_alloc_at _ _ _ (by simp))) ⟨K, h0⟩
  rw [← hx] at ht
  have hlike : LikeAt (w.heap.size + t1.n + 1 + 1) smallK smallB w2 := by simpa using (show LikeAt _ smallK smallB w2 from ⟨ha2.1, ha2.2⟩)
  have hE2 : Ext w w2 := ((Ext.by w t1).alloc _).trans hx2
  have hs3 : w2.heap.size = w.heap.size + t1.n + 4 := by rw [hs2]; simp <;> omega
  have kc0 := hlike.kindAt 0 (.int .i64 2) rfl
  have b0 := hlike.insAt 0 (.int .i64 2) rfl
  have b1 := hlike.insAt 1 (.int .i64 0) rfl
  have b2 := hlike.insAt 2 (.int .i64 0) rfl
  have b3 := hlike.insAt 3 (.int .i64 1) rfl
  have b4 := hlike.insAt 4 (.int .i64 1) rfl
  have b5 := hlike.insAt 5 (.int .i64 2) rfl
  have b6 := hlike.insAt 6 (.int .i64 5) rfl
  have b7 := hlike.insAt 7 (.int .i64 3) rfl
  have b8 := hlike.insAt 8 (.int .i64 2) rfl
  have b9 := hlike.insAt 9 (.int .i64 3) rfl
  have b10 := hlike.insAt 10 (.int .i64 1) rfl
  have b11 := hlike.insAt 11 (.int .i64 0) rfl
  have b12 := hlike.insAt 12 (.int .i64 9) rfl
  have b13 := hlike.insAt 13 (.int .i64 0) rfl
  have b14 := hlike.insAt 14 (.int .i64 0) rfl
  have fk : ∀ j, w2.frozen? ⟨w.heap.size + t1.n + 1 + 1, j, none⟩ = false := fun j => frozen_of_row w2 _ j _ _ hlike.1
  have fb : ∀ j, w2.frozen? ⟨w.heap.size + t1.n + 1 + 1 + 1, j, none⟩ = false := fun j => frozen_of_row w2 _ j _ _ hlike.2
  clear hx1 hx2 hs2 ha2 hx

  obtain rfl := hK
  obtain ⟨wo, hwo⟩ : ∃ wo, wo = (w2.alloc (.cells #[.slice (some ⟨w.heap.size + t1.n + 1 + 1, 0, none⟩) 2 2, .int .i64 1, .int .i64 1, .int .i64 0, .int .i64 2, .slice none 0 0, .slice (some ⟨w.heap.size + t1.n + 1 + 1 + 1, 0, none⟩) 5 5] 25)) := ⟨_, rfl⟩
  have hws : wo.heap.size = w.heap.size + t1.n + 5 := by rw [hwo]; simp [hs3]
  have hb : BoxC (w.heap.size + t1.n + 4) (.slice (some ⟨w.heap.size + t1.n + 1 + 1, 0, none⟩) 2 2) 1 1 0 2 (.slice none 0 0) (.slice (some ⟨w.heap.size + t1.n + 1 + 1 + 1, 0, none⟩) 5 5) wo := by
    rw [hwo, ← hs3]; exact ⟨by go_simp, by go_simp, by go_simp, by go_simp, by go_simp, by go_simp, by go_simp, by go_simp⟩
  have hl2 : LikeAt (w.heap.size + t1.n + 1 + 1) smallK smallB wo := by rw [hwo]; exact hlike.ext ((Ext.refl w2).alloc _)
  have ht2 : wo.cell? ⟨w.heap.size + t1.n, 18, none⟩ = some (.int .i64 x) := by rw [hwo]; exact ((Ext.refl w2).alloc _).cell ht
  have hEo : Ext w wo := by rw [hwo]; exact hE2.alloc _
  have HBODY : Hid (SlC wo (.slice (some ⟨w.heap.size + t1.n + 1 + 1 + 1, 0, none⟩) 5 5) 5 (insCells smallBody)) := Lib.hid (SlC.of_block hl2.2 5 5 _ (by decide) (by decide) rfl)
  go_upto_region 42 with fail
  rw [← hwo]
  clear ht hlike hE2 kc0 b0 b1 b2 b3 b4 b5 b6 b7 b8 b9 b10 b11 b12 b13 b14 fk fb
  obtain ⟨q0, q1, q2, q3, q4, q5, q6, q7⟩ := id hb
  have hXl : w.heap.size + t1.n + 4 < wo.heap.size := by omega
  have HQ6 := Lib.hid q6
  clear hwo hs3
  go_region_law (first
      | (refine step_append_slc _ rfl (.tmp 120) (.tmp 122) 23 rfl wo.heap.size 33 (.agg #[.int .i64 0, .int .i64 0, .int .i64 0]) 3 24 Try.underlying23 infoIns rfl (by decide) _ 1 [.int .i64 7, .int .i64 1, .int .i64 0] rfl (own_block (size := 3) (arr := #[.int .i64 7, .int .i64 1, .int .i64 0]) (by first | exact heap_alloc_at _ _ _ (by simp [hws]) | exact (Below.heap_alloc _ _ _ (by simp [hws])).trans (heap_alloc_at _ _ _ (by simp [hws]))) (by first | omega | (simp; omega)) 1 rfl (by decide) _ rfl) _ 1 [.int .i64 5, .int .i64 99, .int .i64 99] rfl (SlC.of_block (arr := #[.int .i64 5, .int .i64 99, .int .i64 99]) (by first | exact heap_alloc_at _ _ _ (by simp [hws]) | exact (Below.heap_alloc _ _ _ (by simp [hws])).trans (heap_alloc_at _ _ _ (by simp [hws]))) 1 1 _ (by decide) (by decide) rfl) (by simp) (by simp [Value.oneCell']) (by unfold maxLen; omega) (by omega) (by first | omega | (simp; omega)) ?_; intro v1 wA hownA hgA hatA; have hEA : Ext wo wA := below_grown (base := wo.heap.size) (show Below wo.heap.size wo _ from (by repeat first | exact Ext.refl _ | assumption | refine Ext.drew ?_ | refine Ext.drewN ?_ _ | refine Ext.extBy ?_ _ | refine Ext.alloc ?_ _ | refine Ext.setCell ?_ (by simp; try omega) _ | (refine Ext.trans ?_ (by assumption)))) (Nat.le_refl _) (by first | omega | (simp; omega) | simp) (own_block (size := 3) (arr := #[.int .i64 7, .int .i64 1, .int .i64 0]) (by first | exact heap_alloc_at _ _ _ (by simp [hws]) | exact (Below.heap_alloc _ _ _ (by simp [hws])).trans (heap_alloc_at _ _ _ (by simp [hws]))) (by first | omega | (simp; omega)) 1 rfl (by decide) _ rfl) hgA; have hA6 := hEA.cell HQ6.out; have hAs : w.heap.size + t1.n + 4 < wA.heap.size := by have := hEA.size; omega)
      | (refine step_append_slc _ rfl (.tmp 123) (.tmp 125) 23 rfl wo.heap.size 33 (.agg #[.int .i64 0, .int .i64 0, .int .i64 0]) 3 24 Try.underlying23 infoIns rfl (by decide) v1 (1 + 1) _ rfl hownA _ 5 (insCells smallBody) rfl (HBODY.out.ext hEA) rfl insBody_one (by unfold maxLen; omega) (by omega) hEA.size ?_; intro v2 wB hownB hgB hatB; obtain ⟨a3, m3, c3, rfl⟩ := own_slice3 hownB; have hEB : Ext wo wB := below_grown (base := wo.heap.size) hEA (Nat.le_refl _) hEA.size hownA hgB; have hbB := hb.below hEB hXl; obtain ⟨r0, r1, r2, r3, r4, r5, r6, r7⟩ := id hbB))
  all_goals
    go_upto_region 49 with fail
    have hb3 := hbB.body (.slice a3 m3 c3)
    have hown3 := ownsRow_setCell_below hownB (a := ⟨w.heap.size + t1.n + 4, 6, none⟩) hXl (.slice a3 m3 c3)
    have hE3 := ext_set (hEo.trans hEB) (show w.heap.size ≤ w.heap.size + t1.n + 4 by omega) 6 (.slice a3 m3 c3)
    have hl3 := (hl2.ext hEB).other (X := w.heap.size + t1.n + 4) (by omega) (by omega) 6 (.slice a3 m3 c3)
    have ht3 : (wB.setCell ⟨w.heap.size + t1.n + 4, 6, none⟩ (.slice a3 m3 c3)).cell? ⟨w.heap.size + t1.n, 18, none⟩ = some (.int .i64 x) := by
      rw [World.cell?_setCell_other _ _ _ _ (by intro e; simp only [Addr.mk.injEq] at e; omega)]; exact hEB.cell ht2
    have hT3 : w.heap.size + t1.n < (wB.setCell ⟨w.heap.size + t1.n + 4, 6, none⟩ (.slice a3 m3 c3)).heap.size := by have := hEB.size; simp; omega
    generalize wB.setCell ⟨w.heap.size + t1.n + 4, 6, none⟩ (.slice a3 m3 c3) = wc at hb3 hown3 hE3 hl3 ht3 hT3 ⊢
    have hin : CodeIn wc (.slice (some ⟨w.heap.size + t1.n + 1 + 1, 0, none⟩) 2 2) (.slice none 0 0) (.slice a3 m3 c3) (wrongV 18) :=
      ⟨(LikeAt.code hl3 [2, 2] smallBody smallV 5 5 rfl rfl rfl rfl (by decide) (by decide) rfl rfl rfl).kinds, SlC.nil _, SlC.of_owns hown3⟩
    obtain ⟨p0, p1, p2, p3, p4, p5, p6, p7⟩ := hb3
    clear hb hl2 HBODY hEo q0 q1 q2 q3 q4 q5 q6 q7 hown3 hl3 ht2 hEA hEB hownA hownB hgA hgB hatA hatB hbB r0 r1 r2 r3 r4 r5 r6 r7 hA6
    go_wp2_with (first | (go_at_call 17; refine (HA.out _ _ _ _ hin).mono ?_; rintro e w4 ⟨rfl, hx4⟩; (first | (with_reducible obtain ⟨t4, rfl⟩ := Ext.tok2 hx4) | (obtain ⟨t4, rfl⟩ := Ext.tok hx4))) | (refine region_drew (by kernel_rfl) (by kernel_rfl) ?_; (repeat (go_big_quiet_step (exact in_drew (num19_any _ _)))); refine wpQuiet_nil ?_; rintro _ ⟨nq, rfl⟩))
    go_ret
    exact ⟨rfl, (by repeat first | exact Ext.refl _ | assumption | refine Ext.drew ?_ | refine Ext.drewN ?_ _ | refine Ext.extBy ?_ _ | refine Ext.alloc ?_ _ | refine Ext.setCell ?_ (by simp; try omega) _ | (refine Ext.trans ?_ (by assumption)))⟩
end Go.Proofs.Ytipfcfaigbeakaa

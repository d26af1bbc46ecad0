/-
  The law on the numbers of code: its walk.
  No condition.
-/
import Derived.Test.YtipfcfaigbeakaaCodeParseD
import Derived.Test.YtipfcfaigbeakaaJPlainB
import Derived.Test.YtipfcfaigbeakaaMCodeRefN
namespace Go.Proofs.Ytipfcfaigbeakaa
open Go.RowKit
set_option linter.unusedSimpArgs false
set_option linter.unusedVariables false
set_option maxRecDepth 100000

theorem wf_num {n : Int} (h : I64 n) : CodeWf (numV n) := ⟨by simp [I64], by simp [I64], by simp [I64], by simp [I64], by simp [I64], by simp, by simp; exact ⟨⟨by simp [I64], h, by simp [I64]⟩, by simp [I64]⟩⟩
theorem bytes_num (c : CodeV) : ∀ x ∈ codeB c, 0 ≤ x ∧ x < 256 := by
  intro x hx
  unfold codeB at hx
  rcases List.mem_append.1 hx with h | h
  · simp only [List.mem_cons, List.not_mem_nil, or_false] at h
    omega
  · obtain ⟨n, _, hn⟩ := List.mem_flatMap.1 h
    exact digs_byte _ x hn
set_option maxHeartbeats 4000000 in
theorem codeNumbers_any (n : Int) (hn : I64 n) (w : World) : Calls Try.prog 9 #[.int .i64 n] w fun e w' => e = .returned (.bool true) ∧ Ext w w' := by
  have HW : Hid (∀ (w' : World) (kv bv : Value), CodeIn w' kv (.slice none 0 0) bv (numV n) → Calls Try.prog 21 #[codeA (numV n) kv (.slice none 0 0) bv] w' fun e w1 => ∃ a cap, e = .returned (.tuple #[.slice a (19 + (numB n).length) cap, .int .i64 0]) ∧ 19 + (numB n).length ≤ cap ∧ cap ≤ maxLen ∧ SlC w1 (.slice a (19 + (numB n).length) cap) (codeB (numV n)).length (u8s (codeB (numV n))) ∧ Ext w' w1) := Lib.hid fun w' kv bv h => by
    refine (write_any (numV n) _ _ _ w' h (wf_num hn)).mono ?_
    rintro e w1 ⟨v, rfl, ho, hx1⟩
    have e0 : outB (numV n) = codeB (numV n) := by unfold outB; rw [if_pos (chk_num n)]
    rw [e0] at ho
    rw [chk_num n]
    obtain ⟨a, cap, rfl, h1, h2, h3⟩ := SlC.of_owns ho
    rw [len_num] at h1 ⊢
    exact ⟨a, cap, rfl, h1, h2, ⟨a, cap, rfl, h1, h2, h3⟩, hx1⟩
  have HP : Hid (∀ (w' : World) (v : Value), SlC w' v (codeB (numV n)).length (u8s (codeB (numV n))) → Calls Try.prog 23 #[v] w' fun e w1 => ∃ ka kn kc ia im ic b o cap, e = .returned (.tuple #[.agg #[.slice ka kn kc, .int .i64 0, .int .i64 1, .int .i64 0, .int .i64 1, .slice ia im ic, .slice (some ⟨b, o, none⟩) 3 cap], .int .i64 0]) ∧ w1.cell? ⟨b, o + 1, none⟩ = some (.int .i64 n) ∧ 3 ≤ cap ∧ Ext w' w1) := Lib.hid fun w' v h => by
    have hlen : (codeB (numV n)).length ≤ 4000000 := by rw [len_num]; have := numB_len hn; omega
    refine (parse_any (codeB (numV n)) v w' h (bytes_num _)).mono ?_
    intro e w1 hr
    rw [if_neg (by omega), parse_num hn] at hr
    obtain ⟨c, kv, iv, bv, rfl, rfl, hin, _, _, hx⟩ := hr
    obtain ⟨a, cap, rfl, h1, h2, h3⟩ := hin.body
    obtain ⟨b, o, rfl, hc⟩ := h3 1 (.int .i64 n) rfl
    obtain ⟨ka, kc, rfl, _⟩ := hin.kinds
    obtain ⟨ia, ic, rfl, _⟩ := hin.init
    exact ⟨ka, _, kc, ia, _, ic, b, o, cap, rfl, hc, h1, hx⟩
  have hn' := hn
  unfold I64 at hn'
  have HL := Lib.hid (numB_len hn)
  have ha : 0 < (numB n).length := by
    unfold numB
    by_cases h : zig n < 128
    · rw [digs_small h]; simp
    · rw [digs_big h]; simp
  by_cases h0 : n < 0
  case' pos => have HZ := Lib.hid (shl_neg h0 hn'.1)
  case' neg => have HZ := Lib.hid (shl_pos (show 0 ≤ n by omega) hn'.2)
  all_goals
    go_enter Try.func9, Try.ntmps9
    go_upto_region 3 with (first | (go_at_call 15; refine (alive_any _).mono ?_; rintro e w1 ⟨rfl, hx1⟩; (first | (with_reducible obtain ⟨t1, rfl⟩ := Ext.tok2 hx1) | (obtain ⟨t1, rfl⟩ := Ext.tok hx1))))
    obtain ⟨W, hW⟩ : ∃ W, W = (((w.extBy t1).alloc (.cells #[.int .i64 5] 3)).alloc (.cells #[.int .i64 1, .int .i64 n, .int .i64 5, .int .i64 3, .int .i64 0, .int .i64 0, .int .i64 9, .int .i64 0, .int .i64 0] 33)).alloc (.cells #[.slice (some ⟨w.heap.size + t1.n, 0, none⟩) 1 1, .int .i64 0, .int .i64 1, .int .i64 0, .int .i64 1, .slice none 0 0, .slice (some ⟨w.heap.size + t1.n + 1, 0, none⟩) 3 3] 25) := ⟨_, rfl⟩
    have HE : Ext w W := by rw [hW]; exact (by repeat first | exact Ext.refl _ | assumption | refine Ext.drew ?_ | refine Ext.drewN ?_ _ | refine Ext.extBy ?_ _ | refine Ext.alloc ?_ _ | refine Ext.setCell ?_ (by simp; try omega) _ | (refine Ext.trans ?_ (by assumption)))
    have hin : CodeIn W (.slice (some ⟨w.heap.size + t1.n, 0, none⟩) 1 1) (.slice none 0 0) (.slice (some ⟨w.heap.size + t1.n + 1, 0, none⟩) 3 3) (numV n) := by
      rw [hW]
      refine ⟨SlC.of_block (e := 3) (fr := (0, 0)) (arr := #[.int .i64 5]) ?_ 1 1 _ (by decide) (by decide) rfl, SlC.nil _, SlC.of_block (e := 33) (fr := (0, 0)) (arr := #[.int .i64 1, .int .i64 n, .int .i64 5, .int .i64 3, .int .i64 0, .int .i64 0, .int .i64 9, .int .i64 0, .int .i64 0]) ?_ 3 3 _ (by decide) (by decide) rfl⟩
      · exact (Below.block ((((Ext.refl ((w.extBy t1).alloc _)).alloc _).alloc _)) (w.heap.size + t1.n) (by simp)).trans (heap_alloc_at _ _ _ (by simp))
      · exact (Below.block (((Ext.refl (((w.extBy t1).alloc _).alloc _)).alloc _)) (w.heap.size + t1.n + 1) (by simp)).trans (heap_alloc_at _ _ _ (by simp))
    have c0 : W.cell? ⟨w.heap.size + t1.n + 1 + 1, 0, none⟩ = some (.slice (some ⟨w.heap.size + t1.n, 0, none⟩) 1 1) := by rw [hW]; go_simp
    have c1 : W.cell? ⟨w.heap.size + t1.n + 1 + 1, 1, none⟩ = some (.int .i64 0) := by rw [hW]; go_simp
    have c2 : W.cell? ⟨w.heap.size + t1.n + 1 + 1, 2, none⟩ = some (.int .i64 1) := by rw [hW]; go_simp
    have c3 : W.cell? ⟨w.heap.size + t1.n + 1 + 1, 3, none⟩ = some (.int .i64 0) := by rw [hW]; go_simp
    have c4 : W.cell? ⟨w.heap.size + t1.n + 1 + 1, 4, none⟩ = some (.int .i64 1) := by rw [hW]; go_simp
    have c5 : W.cell? ⟨w.heap.size + t1.n + 1 + 1, 5, none⟩ = some (.slice none 0 0) := by rw [hW]; go_simp
    have c6 : W.cell? ⟨w.heap.size + t1.n + 1 + 1, 6, none⟩ = some (.slice (some ⟨w.heap.size + t1.n + 1, 0, none⟩) 3 3) := by rw [hW]; go_simp
    rw [← hW]
    have HHW := Lib.hid hW
    clear hW hx1
    go_upto_region 4 with (first | (go_at_call 21; refine (HW.out _ _ _ hin).mono ?_; rintro e w2 ⟨a2, cap2, rfl, hn2, hm2, hsl, hx2⟩))
    have hw2 := nat64 hn2 hm2
    go_upto_region 5 with (first | (go_at_call 23; refine (HP.out _ _ hsl).mono ?_; rintro e w3 ⟨ka, kn, kc, ia, im, ic, b, o, cap, rfl, hcell, h3c, hx3⟩))
    have hbz : b < w3.heap.size := World.block_lt_of_cell? w3 _ hcell
    have hEE : Ext w w3 := (HE.trans hx2).trans hx3
    clear hin hsl hx2 hx3 c0 c1 c2 c3 c4 c5 c6 HW HP
    go_upto_region 11 with (first | (go_at_call 18; refine (num19_any _ _).mono ?_; rintro e w6 ⟨rfl, rfl⟩))
    go_wp2
    rw [HZ.out]
    go_loop [9, 10] (fun lo z => ∃ Z k : Nat, lo = .int .i64 ((k : Int) + 1) ∧ z = .int .u64 Z ∧ Z < 18446744073709551616 ∧ k ≤ 10 ∧ Hid (k + (digs Z).length = (numB n).length)) (fun _ z => (intOf z).toNat)
    case atStart => exact ⟨zig n, 0, by simp, rfl, zig_lt hn', by omega, Lib.hid (by unfold numB; omega)⟩
    case round =>
      obtain ⟨Z, k, rfl, rfl, hZ, hk, HK⟩ := hrel
      by_cases hlt : Z < 128
      · have hlen : (numB n).length = k + 1 := by rw [← HK.out, digs_small hlt]; rfl
        rw [hlen] at hw2 ⊢
        have hi : ¬ (128 ≤ (Z : Int)) := by omega
        go_wp2
        go_ret
        exact ⟨ret_bool (by rw [beq_iff_eq]; omega), hEE.alloc _⟩
      · have hi : 128 ≤ (Z : Int) := by omega
        have HK' : Hid (k + 1 + (digs (Z / 128)).length = (numB n).length) := Lib.hid (by rw [← HK.out, digs_big hlt]; simp; omega)
        have hk2 : k < 10 := by have h1 := HK.out; have h2 := HL.out; have h3 : 0 < (digs Z).length := (by rw [digs_big hlt]; simp); omega
        go_wp2
        go_round
        case rel => exact ⟨Z / 128, k + 1, by simp, by simp, by omega, by omega, HK'⟩
        case measure => simp [intOf]; omega
end Go.Proofs.Ytipfcfaigbeakaa

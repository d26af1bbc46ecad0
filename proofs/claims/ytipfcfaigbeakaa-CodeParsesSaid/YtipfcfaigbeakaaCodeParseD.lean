/-
  The walks of the program's code: any bytes are read as a program, or refused.
  No condition.
-/
import Derived.Test.YtipfcfaigbeakaaCodeParseC
namespace Go.Proofs.Ytipfcfaigbeakaa
open Go.RowKit
set_option linter.unusedSimpArgs false
set_option linter.unusedVariables false
set_option maxRecDepth 100000

set_option maxHeartbeats 2000000 in
theorem parse_long (l : List Int) (v : Value) (w : World) (hv : SlC w v l.length (u8s l)) (hlen : 4000000 < l.length) : Calls Try.prog 23 #[v] w (ParseR w none 2) := by
  obtain ⟨a, cap, rfl, hn1, hn2, -⟩ := id hv
  have hw := nat64 hn1 hn2
  have hle : 4000000 < (l.length : Int) := by omega
  obtain ⟨Q, hQ⟩ : ∃ Q, Q = ParseR w none 2 := ⟨_, rfl⟩
  rw [← hQ]
  have HQ := Lib.hid hQ
  clear hQ hv hn1 hn2
  go_enter Try.func23, Try.ntmps23
  go_wp2
  refine ret_row2 rfl w.heap.size 25 zeroC.toArray _ rfl (heap_alloc_last w _) Try.underlying25 rfl (by kernel_rfl) rfl ?_
  rw [HQ.out]
  exact ParseR.none 2 ((Ext.refl w).alloc _)
set_option maxHeartbeats 2000000 in
theorem parse_head (l : List Int) (v : Value) (w : World) (hv : SlC w v l.length (u8s l)) (hl : ∀ x ∈ l, 0 ≤ x ∧ x < 256) (hlen : ¬ 4000000 < l.length) (hp : ¬ l.take 4 = [77, 84, 82, 49]) : Calls Try.prog 23 #[v] w (ParseR w none 50) := by
  obtain ⟨a, cap, rfl, hn1, hn2, -⟩ := id hv
  have hw := nat64 hn1 hn2
  have hle : ¬ 4000000 < (l.length : Int) := by omega
  obtain ⟨Q, hQ⟩ : ∃ Q, Q = ParseR w none 50 := ⟨_, rfl⟩
  rw [← hQ]
  have HQ := Lib.hid hQ
  have HPX : Hid (∀ w', Ext w w' → ∀ h0, (∀ (j : Nat) (u : Value), (u8s [77, 84, 82, 49])[j]? = some u → w'.cell? ⟨h0, j, none⟩ = some u) → Calls Try.prog 50 #[.slice a l.length cap, .slice (some ⟨h0, 0, none⟩) 4 4] w' fun e w'' => e = .returned (.bool false) ∧ w' = w'') := Lib.hid fun w' hx h0 hc => by
    have := hasPrefix_any l [77, 84, 82, 49] (.slice a l.length cap) (.slice (some ⟨h0, 0, none⟩) 4 4) w' hl (by decide) (hv.ext hx) ⟨_, 4, rfl, Nat.le_refl _, by decide, fun j u hu => ⟨h0, 0, rfl, by rw [Nat.zero_add]; exact hc j u hu⟩⟩
    refine this.mono ?_
    rintro e w2 ⟨rfl, h⟩
    exact ⟨by simp [hp], h⟩
  have kc : Sem.run Try.prog (convert 38 38 (.slice (some ⟨w.heap.size + 1, 0, none⟩) 4 4)) ((w.alloc (.cells #[.slice none 0 0, .int .i64 0, .int .i64 0, .int .i64 0, .int .i64 0, .slice none 0 0, .slice none 0 0] 25)).alloc (.cells #[.int .u8 77, .int .u8 84, .int .u8 82, .int .u8 49] 5)) = .ok (.slice (some ⟨w.heap.size + 1, 0, none⟩) 4 4) ((w.alloc (.cells #[.slice none 0 0, .int .i64 0, .int .i64 0, .int .i64 0, .int .i64 0, .slice none 0 0, .slice none 0 0] 25)).alloc (.cells #[.int .u8 77, .int .u8 84, .int .u8 82, .int .u8 49] 5 (4, 5))) := by
    have := Lib.run_convert_bytes_const (P := Try.prog) (w.alloc (.cells #[.slice none 0 0, .int .i64 0, .int .i64 0, .int .i64 0, .int .i64 0, .slice none 0 0, .slice none 0 0] 25)) 38 5 #[.int .u8 77, .int .u8 84, .int .u8 82, .int .u8 49] 4 4 Try.underlying38 Try.underlying5
    have hs : (w.alloc (.cells #[.slice none 0 0, .int .i64 0, .int .i64 0, .int .i64 0, .int .i64 0, .slice none 0 0, .slice none 0 0] 25)).heap.size = w.heap.size + 1 := by simp
    rw [hs] at this
    exact this
  clear hQ hv hn1 hn2 hl hp
  go_enter Try.func23, Try.ntmps23
  go_wp2_with (first | (go_at_call 50; go_must (refine (HPX.out _ (by repeat first | exact Ext.refl _ | assumption | refine Ext.drew ?_ | refine Ext.drewN ?_ _ | refine Ext.extBy ?_ _ | refine Ext.alloc ?_ _ | refine Ext.setCell ?_ (by simp; try omega) _ | (refine Ext.trans ?_ (by assumption))) _ (fun j u hu => by rw [marked_cell _ _ _ _ _ _ (by simp)]; simpa using hu)).mono ?_; rintro e w1 ⟨rfl, rfl⟩)))
  refine ret_row2 rfl w.heap.size 25 zeroC.toArray _ rfl ((Below.block ((Ext.refl (w.alloc _)).alloc _) w.heap.size (by simp)).trans (heap_alloc_last w _)) Try.underlying25 rfl (by kernel_rfl) rfl ?_
  rw [HQ.out]
  exact ParseR.none 50 (((Ext.refl w).alloc _).alloc _)
theorem parse_any (l : List Int) (v : Value) (w : World) (hv : SlC w v l.length (u8s l)) (hl : ∀ x ∈ l, 0 ≤ x ∧ x < 256) : Calls Try.prog 23 #[v] w (fun e w' => if 4000000 < l.length then ParseR w none 2 e w' else ParseR w (parseV l) 50 e w') := by
  by_cases h : 4000000 < l.length
  · exact (parse_long l v w hv h).mono fun e w' hr => by rw [if_pos h]; exact hr
  · by_cases hp : l.take 4 = [77, 84, 82, 49]
    · exact (parse_go l v w hv hl (by omega) hp).mono fun e w' hr => by rw [if_neg h]; exact hr
    · have e : parseV l = none := by unfold parseV; rw [if_neg hp]
      exact (parse_head l v w hv hl h hp).mono fun _ w' hr => by rw [if_neg h, e]; exact hr
end Go.Proofs.Ytipfcfaigbeakaa

/-
  The walk of the law CnfHolds.
  Conditions: the formula and the model lie in memory, the library's table of powers is laid.
-/
import Derived.Test.YtlikmdeplpldlaaDoorCnfV
namespace Go.Proofs.YtlikmdeplpldlaaDoor
open Go.RowKit
set_option linter.unusedSimpArgs false
set_option linter.unusedVariables false
set_option maxRecDepth 100000

set_option maxHeartbeats 4000000 in
theorem cnfHolds_any (x : Int) (cv : Value) (vs : List Value) (rs : List (List Int)) (m : List Bool) (mv : Value) (w : World) (hI : I64 x) (h : RowsIn w cv vs rs) (hs : ∀ r ∈ rs, r.length ≤ 1000000000000000) (hm : SlC w mv m.length (bools m)) (htab : Lib.TabIs Tryd.prog w "internal/strconv.uint64pow10" .u64 Lib.pow10Tab) :
    Calls Tryd.prog 3 #[.agg #[.int .i64 x, cv], mv] w fun e w' => e = .returned (.bool true) ∧ Ext w w' := by
  obtain ⟨n, hn⟩ : ∃ n, n = rs.length := ⟨_, rfl⟩
  have HR := Lib.hid (And.intro h (And.intro hs (And.intro hm (And.intro htab (And.intro hn hI)))))
  obtain ⟨a, cap, rfl, -, -, -⟩ := id h.top
  obtain ⟨am, capm, rfl, hm1, hm2, -⟩ := id hm
  obtain ⟨M, hM⟩ : ∃ M, M = m.length := ⟨_, rfl⟩
  have HM := Lib.hid hM
  have hMb : M ≤ 9223372036854775807 := by have := hm2; unfold maxLen at this; omega
  rw [← hn, ← hM]
  have HRn : Hid (RowsIn w (.slice a n cap) vs rs) := Lib.hid (hn ▸ h)
  have HMn : Hid (SlC w (.slice am M capm) m.length (bools m)) := Lib.hid (by rw [hM]; exact hm)
  clear h hs hm htab hn hM hm1 hm2 hI
  go_enter Tryd.func3, Tryd.ntmps3
  go_upto_region 1 with fail
  have hbX := BoxV.of_row (heap_alloc_last w (.cells #[.int .i64 x, .slice a n cap] 24))
  have hE : Ext w (w.alloc (.cells #[.int .i64 x, .slice a n cap] 24)) := (Ext.refl w).alloc _
  have HE := Lib.hid hE
  generalize w.alloc (.cells #[.int .i64 x, .slice a n cap] 24) = w1 at hbX hE HE ⊢
  generalize w.heap.size = X at hbX ⊢
  have p0 := hbX.cells 0 _ rfl
  have p1 := hbX.cells 1 _ rfl
  have hl := hbX.lt
  have HR1 := Lib.hid (HRn.out.ext hE)
  have HM1 := Lib.hid (HMn.out.ext hE)
  have HT1 := Lib.hid (tab_ext HR.out.2.2.2.1 hE)
  clear hbX hE
  obtain ⟨bg, hbg⟩ : ∃ b, b = bigF x rs := ⟨_, rfl⟩
  have HB := Lib.hid hbg
  clear hbg
  cases bg
  · by_cases hML : (5000 : Int) < (M : Int)
    · go_wp2_with (first | (go_at_call 8; refine (alive_any _ (tab_ext HT1.out (by repeat first | exact Ext.refl _ | assumption | refine Ext.drew ?_ | refine Ext.drewN ?_ _ | refine Ext.extBy ?_ _ | refine Ext.alloc ?_ _ | refine Ext.setCell ?_ (by simp; try omega) _ | (refine Ext.trans ?_ (by assumption))))).mono ?_; rintro e w' ⟨rfl, hE'⟩; (first | (with_reducible obtain ⟨t2, rfl⟩ := Ext.tok2 hE') | (obtain ⟨t2, rfl⟩ := Ext.tok hE'))) | (go_at_call 9; refine (big23_any x _ vs rs _ (HR1.out.ext (by repeat first | exact Ext.refl _ | assumption | refine Ext.drew ?_ | refine Ext.drewN ?_ _ | refine Ext.extBy ?_ _ | refine Ext.alloc ?_ _ | refine Ext.setCell ?_ (by simp; try omega) _ | (refine Ext.trans ?_ (by assumption)))) HR.out.2.1).mono ?_; rintro e w' ⟨rfl, hE'⟩; rw [← HB.out]; (first | (with_reducible obtain ⟨t2, rfl⟩ := Ext.tok2 hE') | (obtain ⟨t2, rfl⟩ := Ext.tok hE'))))
      go_ret
      exact ⟨rfl, HE.out.trans (Ext.by w1 _)⟩
    · have hsm := bigG_small rs 0 (by have := HB.out; unfold bigF at this; simp at this; exact this.1)
      have hxx : x ≤ 200000 := by have := HB.out; unfold bigF at this; simp at this; omega
      have hx2 : -9223372036854775808 ≤ x := HR.out.2.2.2.2.2.1
      have HSM := Lib.hid (show szF rs ≤ 200000 by omega)
      have HML2 : Hid (m.length ≤ 1000000) := Lib.hid (by rw [← HM.out]; omega)
      obtain ⟨cc, hcc⟩ : ∃ c, c = chkF x rs := ⟨_, rfl⟩
      obtain ⟨hh, hhh⟩ : ∃ b, b = holdsF x rs m := ⟨_, rfl⟩
      have HCC := Lib.hid hcc
      have HHH := Lib.hid hhh
      clear hsm hcc hhh
      go_upto_region 6 with (first | (go_at_call 8; refine (alive_any _ (tab_ext HT1.out (by repeat first | exact Ext.refl _ | assumption | refine Ext.drew ?_ | refine Ext.drewN ?_ _ | refine Ext.extBy ?_ _ | refine Ext.alloc ?_ _ | refine Ext.setCell ?_ (by simp; try omega) _ | (refine Ext.trans ?_ (by assumption))))).mono ?_; rintro e w' ⟨rfl, hE'⟩; (first | (with_reducible obtain ⟨t2, rfl⟩ := Ext.tok2 hE') | (obtain ⟨t2, rfl⟩ := Ext.tok hE'))) | (go_at_call 9; refine (big23_any x _ vs rs _ (HR1.out.ext (by repeat first | exact Ext.refl _ | assumption | refine Ext.drew ?_ | refine Ext.drewN ?_ _ | refine Ext.extBy ?_ _ | refine Ext.alloc ?_ _ | refine Ext.setCell ?_ (by simp; try omega) _ | (refine Ext.trans ?_ (by assumption)))) HR.out.2.1).mono ?_; rintro e w' ⟨rfl, hE'⟩; rw [← HB.out]; (first | (with_reducible obtain ⟨t2, rfl⟩ := Ext.tok2 hE') | (obtain ⟨t2, rfl⟩ := Ext.tok hE'))) | (go_at_call 10; refine (checkC_any x _ vs rs _ hxx hx2 (HR1.out.ext (by repeat first | exact Ext.refl _ | assumption | refine Ext.drew ?_ | refine Ext.drewN ?_ _ | refine Ext.extBy ?_ _ | refine Ext.alloc ?_ _ | refine Ext.setCell ?_ (by simp; try omega) _ | (refine Ext.trans ?_ (by assumption)))) HSM.out).mono ?_; rintro e w' ⟨rfl, hE'⟩; rw [← HCC.out]; (first | (with_reducible obtain ⟨t2, rfl⟩ := Ext.tok2 hE') | (obtain ⟨t2, rfl⟩ := Ext.tok hE'))))
      have HF1 : Hid (∀ t, Calls Tryd.prog 12 #[.agg #[.int .i64 x, .slice a n cap]] (w1.extBy t) fun e w' => e = .returned (.int .i64 cc) ∧ Ext (w1.extBy t) w') := Lib.hid fun t => by rw [HCC.out]; exact checkFR_any x _ vs rs _ hxx hx2 (HR1.out.ext (Ext.by w1 t)) HSM.out
      have HF2 : Hid (∀ t, Calls Tryd.prog 13 #[.agg #[.int .i64 x, .slice a n cap], .slice am M capm] (w1.extBy t) fun e w' => e = .returned (.bool hh) ∧ Ext (w1.extBy t) w') := Lib.hid fun t => by rw [HHH.out]; exact holdsC_any x _ vs rs m _ _ hxx hx2 (HR1.out.ext (Ext.by w1 t)) HSM.out (HM1.out.ext (Ext.by w1 t)) HML2.out
      have HF3 : Hid (∀ t, Calls Tryd.prog 14 #[.agg #[.int .i64 x, .slice a n cap], .slice am M capm] (w1.extBy t) fun e w' => e = .returned (.bool hh) ∧ Ext (w1.extBy t) w') := Lib.hid fun t => by rw [HHH.out]; exact holdsR_any x _ _ vs rs m _ hxx hx2 (HR1.out.ext (Ext.by w1 t)) HSM.out (HM1.out.ext (Ext.by w1 t)) HML2.out
      ((first | (with_reducible refine region_ext2 (by kernel_rfl) (by kernel_rfl) ?_) | refine region_ext (by kernel_rfl) (by kernel_rfl) ?_); (repeat (go_big_quiet_step (first | (with_reducible exact in_same (num23_any _ _)) | (with_reducible exact in_ext (HF1.out _)) | (with_reducible exact in_ext (HF2.out _)) | (with_reducible exact in_ext (HF3.out _))))); refine wpQuiet_nil ?_; rintro _ ⟨t1, rfl⟩)
      go_wp2
      go_ret
      exact ⟨rfl, HE.out.trans (Ext.by w1 _)⟩
  · go_wp2_with (first | (go_at_call 8; refine (alive_any _ (tab_ext HT1.out (by repeat first | exact Ext.refl _ | assumption | refine Ext.drew ?_ | refine Ext.drewN ?_ _ | refine Ext.extBy ?_ _ | refine Ext.alloc ?_ _ | refine Ext.setCell ?_ (by simp; try omega) _ | (refine Ext.trans ?_ (by assumption))))).mono ?_; rintro e w' ⟨rfl, hE'⟩; (first | (with_reducible obtain ⟨t2, rfl⟩ := Ext.tok2 hE') | (obtain ⟨t2, rfl⟩ := Ext.tok hE'))) | (go_at_call 9; refine (big23_any x _ vs rs _ (HR1.out.ext (by repeat first | exact Ext.refl _ | assumption | refine Ext.drew ?_ | refine Ext.drewN ?_ _ | refine Ext.extBy ?_ _ | refine Ext.alloc ?_ _ | refine Ext.setCell ?_ (by simp; try omega) _ | (refine Ext.trans ?_ (by assumption)))) HR.out.2.1).mono ?_; rintro e w' ⟨rfl, hE'⟩; rw [← HB.out]; (first | (with_reducible obtain ⟨t2, rfl⟩ := Ext.tok2 hE') | (obtain ⟨t2, rfl⟩ := Ext.tok hE'))))
    go_ret
    exact ⟨rfl, HE.out.trans (Ext.by w1 _)⟩
end Go.Proofs.YtlikmdeplpldlaaDoor

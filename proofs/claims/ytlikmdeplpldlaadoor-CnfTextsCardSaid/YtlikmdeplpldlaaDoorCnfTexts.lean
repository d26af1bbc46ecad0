/-
  The walk of the law CnfTexts.
  Conditions: the formula lies in memory, the library's table of powers is laid.
-/
import Derived.Test.YtlikmdeplpldlaaDoorCnfPr
import Derived.Test.YtlikmdeplpldlaaDoorCnfS
import Derived.Test.YtlikmdeplpldlaaDoorCnfC
namespace Go.Proofs.YtlikmdeplpldlaaDoor
open Go.RowKit
set_option linter.unusedSimpArgs false
set_option linter.unusedVariables false
set_option maxRecDepth 100000

set_option maxHeartbeats 8000000 in
theorem cnfTexts_any (x : Int) (cv : Value) (vs : List Value) (rs : List (List Int)) (w : World) (hI : I64 x) (h : RowsIn w cv vs rs) (hs : ∀ r ∈ rs, r.length ≤ 1000000000000000) (htab : Lib.TabIs Tryd.prog w "internal/strconv.uint64pow10" .u64 Lib.pow10Tab) :
    Calls Tryd.prog 6 #[.agg #[.int .i64 x, cv]] w fun e w' => e = .returned (.bool true) ∧ Ext w w' := by
  obtain ⟨n, hn⟩ : ∃ n, n = rs.length := ⟨_, rfl⟩
  have HR := Lib.hid (And.intro h (And.intro hs (And.intro htab (And.intro hn hI))))
  obtain ⟨a, cap, rfl, -, -, -⟩ := id h.top
  rw [← hn]
  have HRn : Hid (RowsIn w (.slice a n cap) vs rs) := Lib.hid (hn ▸ h)
  clear h hs htab hn hI
  go_enter Tryd.func6, Tryd.ntmps6
  go_upto_region 1 with fail
  have hbX := BoxV.of_row (heap_alloc_last w (.cells #[.int .i64 x, .slice a n cap] 24))
  have hE : Ext w (w.alloc (.cells #[.int .i64 x, .slice a n cap] 24)) := (Ext.refl w).alloc _
  have HE := Lib.hid hE
  generalize w.alloc (.cells #[.int .i64 x, .slice a n cap] 24) = w1 at hbX hE HE ⊢
  generalize w.heap.size = X at hbX ⊢
  have p0 := hbX.cells 0 _ rfl
  have p1 := hbX.cells 1 _ rfl
  have hl := hbX.lt
  have HR1 := Lib.hid (HRn.out.ext hE)
  have HT1 := Lib.hid (tab_ext HR.out.2.2.1 hE)
  clear hbX hE
  obtain ⟨bg, hbg⟩ : ∃ b, b = bigF x rs := ⟨_, rfl⟩
  have HB := Lib.hid hbg
  clear hbg
  cases bg
  · have hsm := bigG_small rs 0 (by have := HB.out; unfold bigF at this; simp at this; exact this.1)
    have hxx : x ≤ 200000 := by have := HB.out; unfold bigF at this; simp at this; omega
    have hx2 : -9223372036854775808 ≤ x := HR.out.2.2.2.2.1
    have HSM := Lib.hid (show szF rs ≤ 200000 by omega)
    clear hsm
    rcases chkF_or x rs with hc | ⟨hc, hx0, hok⟩
    · have HC := Lib.hid hc
      have HTXC : Hid (∀ t, Calls Tryd.prog 21 #[.agg #[.int .i64 x, .slice a n cap]] (w1.extBy t) fun e w' => e = .returned (.string ⟨#[]⟩) ∧ Ext (w1.extBy t) w') := Lib.hid fun t => by
        have h0 := textT_any x _ vs rs (w1.extBy t) hxx hx2 (HR1.out.ext (Ext.by w1 t)) HSM.out (tab_ext HT1.out (Ext.by w1 t))
        rw [if_neg (by rw [HC.out]; decide)] at h0
        exact h0
      have HTXR : Hid (∀ t, Calls Tryd.prog 22 #[.agg #[.int .i64 x, .slice a n cap]] (w1.extBy t) fun e w' => e = .returned (.string ⟨#[]⟩) ∧ Ext (w1.extBy t) w') := Lib.hid fun t => by
        have h0 := textR_any x _ vs rs (w1.extBy t) hxx hx2 (HR1.out.ext (Ext.by w1 t)) HSM.out
        rw [if_neg (by rw [HC.out]; decide)] at h0
        exact h0
      clear hc
      go_wp2_with (first | (go_at_call 8; refine (alive_any _ (tab_ext HT1.out (by repeat first | exact Ext.refl _ | assumption | refine Ext.drew ?_ | refine Ext.drewN ?_ _ | refine Ext.extBy ?_ _ | refine Ext.alloc ?_ _ | refine Ext.setCell ?_ (by simp; try omega) _ | (refine Ext.trans ?_ (by assumption))))).mono ?_; rintro e w' ⟨rfl, hE'⟩; (first | (with_reducible obtain ⟨t2, rfl⟩ := Ext.tok2 hE') | (obtain ⟨t2, rfl⟩ := Ext.tok hE'))) | (go_at_call 9; refine (big23_any x _ vs rs _ (HR1.out.ext (by repeat first | exact Ext.refl _ | assumption | refine Ext.drew ?_ | refine Ext.drewN ?_ _ | refine Ext.extBy ?_ _ | refine Ext.alloc ?_ _ | refine Ext.setCell ?_ (by simp; try omega) _ | (refine Ext.trans ?_ (by assumption)))) HR.out.2.1).mono ?_; rintro e w' ⟨rfl, hE'⟩; rw [← HB.out]; (first | (with_reducible obtain ⟨t2, rfl⟩ := Ext.tok2 hE') | (obtain ⟨t2, rfl⟩ := Ext.tok hE'))) | (go_at_call 21; refine (HTXC.out _).mono ?_; rintro e w' ⟨rfl, hE'⟩; (first | (with_reducible obtain ⟨t2, rfl⟩ := Ext.tok2 hE') | (obtain ⟨t2, rfl⟩ := Ext.tok hE'))) | (go_at_call 22; refine (HTXR.out _).mono ?_; rintro e w' ⟨rfl, hE'⟩; (first | (with_reducible obtain ⟨t2, rfl⟩ := Ext.tok2 hE') | (obtain ⟨t2, rfl⟩ := Ext.tok hE'))) | (go_at_call 12; refine (checkFR_any x _ vs rs _ hxx hx2 (HR1.out.ext (by repeat first | exact Ext.refl _ | assumption | refine Ext.drew ?_ | refine Ext.drewN ?_ _ | refine Ext.extBy ?_ _ | refine Ext.alloc ?_ _ | refine Ext.setCell ?_ (by simp; try omega) _ | (refine Ext.trans ?_ (by assumption)))) HSM.out).mono ?_; rintro e w' ⟨rfl, hE'⟩; rw [HC.out]; (first | (with_reducible obtain ⟨t2, rfl⟩ := Ext.tok2 hE') | (obtain ⟨t2, rfl⟩ := Ext.tok hE'))))
      go_ret
      exact ⟨rfl, HE.out.trans (Ext.by w1 _)⟩
    · have HC := Lib.hid hc
      obtain ⟨tx, htx⟩ : ∃ t : ByteArray, t = ⟨(textF x rs).toArray⟩ := ⟨_, rfl⟩
      have hemp : tx.toList.isEmpty = false := by
        rw [Lib.toList_data, htx, textF_eq]; rfl
      have HTXC : Hid (∀ t, Calls Tryd.prog 21 #[.agg #[.int .i64 x, .slice a n cap]] (w1.extBy t) fun e w' => e = .returned (.string tx) ∧ Ext (w1.extBy t) w') := Lib.hid fun t => by
        have h0 := textT_any x _ vs rs (w1.extBy t) hxx hx2 (HR1.out.ext (Ext.by w1 t)) HSM.out (tab_ext HT1.out (Ext.by w1 t))
        rw [if_pos hc, ← htx] at h0
        exact h0
      have HTXR : Hid (∀ t, Calls Tryd.prog 22 #[.agg #[.int .i64 x, .slice a n cap]] (w1.extBy t) fun e w' => e = .returned (.string tx) ∧ Ext (w1.extBy t) w') := Lib.hid fun t => by
        have h0 := textR_any x _ vs rs (w1.extBy t) hxx hx2 (HR1.out.ext (Ext.by w1 t)) HSM.out
        rw [if_pos hc, ← htx] at h0
        exact h0
      have HPA : Hid (∀ t, Calls Tryd.prog 23 #[.string tx] (w1.extBy t) (ParseP (w1.extBy t) x rs)) := Lib.hid fun t => by
        rw [htx]
        exact parse_text x rs _ hc hxx HSM.out (tab_ext HT1.out (Ext.by w1 t))
      clear hc hok htx
      go_upto_region 10 with (first | (go_at_call 8; refine (alive_any _ (tab_ext HT1.out (by repeat first | exact Ext.refl _ | assumption | refine Ext.drew ?_ | refine Ext.drewN ?_ _ | refine Ext.extBy ?_ _ | refine Ext.alloc ?_ _ | refine Ext.setCell ?_ (by simp; try omega) _ | (refine Ext.trans ?_ (by assumption))))).mono ?_; rintro e w' ⟨rfl, hE'⟩; (first | (with_reducible obtain ⟨t2, rfl⟩ := Ext.tok2 hE') | (obtain ⟨t2, rfl⟩ := Ext.tok hE'))) | (go_at_call 9; refine (big23_any x _ vs rs _ (HR1.out.ext (by repeat first | exact Ext.refl _ | assumption | refine Ext.drew ?_ | refine Ext.drewN ?_ _ | refine Ext.extBy ?_ _ | refine Ext.alloc ?_ _ | refine Ext.setCell ?_ (by simp; try omega) _ | (refine Ext.trans ?_ (by assumption)))) HR.out.2.1).mono ?_; rintro e w' ⟨rfl, hE'⟩; rw [← HB.out]; (first | (with_reducible obtain ⟨t2, rfl⟩ := Ext.tok2 hE') | (obtain ⟨t2, rfl⟩ := Ext.tok hE'))) | (go_at_call 21; refine (HTXC.out _).mono ?_; rintro e w' ⟨rfl, hE'⟩; (first | (with_reducible obtain ⟨t2, rfl⟩ := Ext.tok2 hE') | (obtain ⟨t2, rfl⟩ := Ext.tok hE'))) | (go_at_call 22; refine (HTXR.out _).mono ?_; rintro e w' ⟨rfl, hE'⟩; (first | (with_reducible obtain ⟨t2, rfl⟩ := Ext.tok2 hE') | (obtain ⟨t2, rfl⟩ := Ext.tok hE'))))
      go_upto_region 11 with (first | (go_at_call 23; refine (HPA.out _).mono ?_; rintro e w5 ⟨gv, us, rfl, hR5, hE5⟩; obtain ⟨ga, gcap, rfl, -, -, -⟩ := id hR5.top; have HP5 := Lib.hid (And.intro hR5 hE5); have q0 := hE5.cell ((Ext.by w1 _).cell p0); have q1 := hE5.cell ((Ext.by w1 _).cell p1); have q2 := hE5.size; clear hR5 hE5) | (refine wpList_store_last rfl 24 (.tmp 6) (.tmp 32) rfl _ _ _ _ rfl rfl (by simp) (by kernel_rfl) (by kernel_rfl) (by kernel_rfl) ?_))
      have hE6 : Ext w5 (w5.alloc (.cells #[.int .i64 x, .slice ga rs.length gcap] 24)) := (Ext.refl w5).alloc _
      have hG6 := BoxV.of_row (heap_alloc_last w5 (.cells #[.int .i64 x, .slice ga rs.length gcap] 24))
      have g0 := hG6.cells 0 _ rfl
      have g1 := hG6.cells 1 _ rfl
      have hlG := hG6.lt
      have r0 := hE6.cell q0
      have r1 := hE6.cell q1
      have hlX : X < (w5.alloc (.cells #[.int .i64 x, .slice ga rs.length gcap] 24)).heap.size := World.block_lt_of_cell? _ _ r0
      have HA := Lib.hid (RowsIn.ext (HP5.out.1) hE6)
      have HA2 := Lib.hid ((HR1.out.ext (Ext.by w1 _)).ext (HP5.out.2.trans hE6))
      have HEE := Lib.hid (HE.out.trans ((Ext.by w1 _).trans (HP5.out.2.trans hE6)))
      clear hE6 hG6 q0 q1 q2 HP5
      obtain ⟨G, hG⟩ : ∃ G, G = w5.heap.size := ⟨_, rfl⟩
      rw [← hG] at g0 g1 hlG ⊢
      generalize w5.alloc (.cells #[.int .i64 x, .slice ga rs.length gcap] 24) = w6 at g0 g1 hlG r0 r1 hlX HA HA2 HEE ⊢
      clear hG
      go_wp2_with (first | (go_at_call 11; refine (num23_any _ _).mono ?_; rintro e w' ⟨rfl, rfl⟩) | (go_at_call 18; refine (sameF_any x _ _ vs us rs _ HA2.out HA.out (by have := HSM.out; omega)).mono ?_; rintro e w' ⟨rfl, hE'⟩; have HE7 := Lib.hid hE'))
      go_ret
      exact ⟨rfl, HEE.out.trans HE7.out⟩
  · go_wp2_with (first | (go_at_call 8; refine (alive_any _ (tab_ext HT1.out (by repeat first | exact Ext.refl _ | assumption | refine Ext.drew ?_ | refine Ext.drewN ?_ _ | refine Ext.extBy ?_ _ | refine Ext.alloc ?_ _ | refine Ext.setCell ?_ (by simp; try omega) _ | (refine Ext.trans ?_ (by assumption))))).mono ?_; rintro e w' ⟨rfl, hE'⟩; (first | (with_reducible obtain ⟨t2, rfl⟩ := Ext.tok2 hE') | (obtain ⟨t2, rfl⟩ := Ext.tok hE'))) | (go_at_call 9; refine (big23_any x _ vs rs _ (HR1.out.ext (by repeat first | exact Ext.refl _ | assumption | refine Ext.drew ?_ | refine Ext.drewN ?_ _ | refine Ext.extBy ?_ _ | refine Ext.alloc ?_ _ | refine Ext.setCell ?_ (by simp; try omega) _ | (refine Ext.trans ?_ (by assumption)))) HR.out.2.1).mono ?_; rintro e w' ⟨rfl, hE'⟩; rw [← HB.out]; (first | (with_reducible obtain ⟨t2, rfl⟩ := Ext.tok2 hE') | (obtain ⟨t2, rfl⟩ := Ext.tok hE'))))
    go_ret
    exact ⟨rfl, HE.out.trans (Ext.by w1 _)⟩
end Go.Proofs.YtlikmdeplpldlaaDoor

/-
  What Op of one value and Cast tell, beside the reference.
  No condition.
  The walk of the law GatesUn.
  Condition: what Kind tells.
-/
import Derived.Test.YtdjnekcpeaadhaaJtO
import Derived.Test.YtdjnekcpeaadhaaJtK
namespace Go.Proofs.Ytdjnekcpeaadhaa
open Go.RowKit
set_option linter.unusedSimpArgs false
set_option linter.unusedVariables false
set_option maxRecDepth 100000

theorem runv_eq (op k a : Int) : runv op k a = unv op k a := by
  cases hi : isk k a
  · simp [runv, unv, hi]
  · by_cases h1 : op = 1
    · subst h1
      by_cases hk : k = 1
      · subst hk; simp [runv, unv, hi, law_not, law_not1 hi]
      · simp [runv, unv, hi, hk, law_not]
    · by_cases h2 : op = 2
      · subst h2
        by_cases hk : k = 1 <;> simp [runv, unv, hi, hk]
      · simp [runv, unv, hi, h1, h2]
theorem refCast_any (f t a : Int) (w : World) :
    Calls Try.prog 10 #[.int .i64 f, .int .i64 t, .int .i64 a] w fun e w' => e = .returned (.tuple #[.int .i64 (castv f t a).1, .bool (castv f t a).2]) ∧ w = w' := by
  cases hi : isk f a
  all_goals
    go_enter Try.func10, Try.ntmps10
    go_wp2_with (first | (go_at_call 34; refine (refTruth_any _ _).mono ?_; rintro e w1 ⟨rfl, rfl⟩) | (go_at_call 31; refine (refIs_any _ _ _).mono ?_; rintro e w1 ⟨rfl, rfl⟩) | (go_at_call 15; refine (refWidth_any _ _).mono ?_; rintro e w1 ⟨rfl, rfl⟩) | (go_at_call 8; refine (refWrap_any _ _ _).mono ?_; rintro e w1 ⟨rfl, rfl⟩))
  all_goals go_ret2
  all_goals refine ⟨?_, rfl⟩
  all_goals simp_all [castv]
/-- A net that tells a value of a kind; or none. -/
def TellsV (ins : List Bool) (R : BL) (ok : Bool) (k V : Int) : Prop := ok = true → NetTells ins R ins.length (wid k) V ∧ isk k V = true ∧ I64 V
theorem unv_I64 {op k A : Int} (h : I64 A) : I64 (unv op k A).1 := by
  have h0 : I64 0 := by unfold I64; omega
  unfold unv
  split
  · exact h0
  · split
    · split
      · exact wrap64_I64 _
      · exact wkr_I64 (bitsI64 _ _ _ (by simp))
    · split
      · split
        · exact h0
        · exact wkr_I64 (wrap64_I64 _)
      · exact h0
theorem unv_isk {op k A : Int} (h : (unv op k A).2 = true) : isk k (unv op k A).1 = true := by
  obtain ⟨n, rfl, hn, hp, hi⟩ := un_known h
  unfold unv
  rw [if_neg (by rw [hi]; simp)]
  rcases hn with rfl | ⟨rfl, hk⟩
  · rw [if_pos (show ((1 : Nat) : Int) = 1 from rfl)]
    split
    · rename_i hk
      subst hk
      show isk 1 (wrap64 (1 - A)) = true
      rw [← law_not1 hi]
      exact isk_wkr _ hp
    · exact isk_wkr _ hp
  · rw [if_neg (show ¬ ((2 : Nat) : Int) = 1 by decide), if_pos (show ((2 : Nat) : Int) = 2 from rfl), if_neg hk]
    exact isk_wkr _ hp
theorem isk_zero0 {k : Int} (h : 0 < wid k) : isk k 0 = true := by
  rw [isk_iff]
  refine ⟨h, ?_⟩
  have := isk_wkr (k := k) 0 h
  rcases kinds k with rfl | rfl | rfl | rfl | rfl | rfl | rfl | rfl | rfl | hk
  · rw [wkr_1]; rfl
  · rw [wkr_2]; rfl
  · rw [wkr_3]; rfl
  · rw [wkr_4]; rfl
  · rw [wkr_5]
  · rw [wkr_6]; rfl
  · rw [wkr_7]; rfl
  · rw [wkr_8]; rfl
  · rw [wkr_9]
  · exact wkr_none _ hk
/-- Whether there is an operation on one value does not hang on the value. -/
theorem unv_known (op k a : Int) : (unv op k (wkr k a)).2 = (unv op k 0).2 := by
  by_cases hp : 0 < wid k
  · have h1 := isk_wkr (k := k) a hp
    have h2 := isk_zero0 hp
    by_cases e1 : op = 1
    · subst e1
      by_cases ek : k = 1
      · subst ek; simp [unv, h1, h2]
      · simp [unv, h1, h2, ek]
    · by_cases e2 : op = 2
      · subst e2
        by_cases ek : k = 1
        · subst ek; simp [unv, h1, h2]
        · simp [unv, h1, h2, ek]
      · simp [unv, h1, h2, e1, e2]
  · unfold unv
    rw [if_pos (isk_none _ hp), if_pos (isk_none _ hp)]
theorem opUn (op k a : Int) (ia : I64 a) : ∃ R ok, (unv op k (wkr k a)).2 = ok ∧ TellsV (bitsB k (wkr k a)) R ok k (unv op k (wkr k a)).1 ∧ ∀ w, Calls Try.prog 7 #[.int .i64 op, .int .i64 k, .bool false] w (NetU R ok w) := by
  have hk := unv_known op k a
  by_cases h : (unv op k 0).2 = true
  · rw [h] at hk
    obtain ⟨n, e, hn, hp, hi⟩ := un_known hk
    subst e
    refine ⟨opNet n k false, true, hk, fun _ => ⟨?_, unv_isk hk, unv_I64 (wkr_I64 ia)⟩, fun w => (op_yes1 n k w h (by omega) hp).mono fun _ _ h => h.u⟩
    rw [bitsB_len]
    exact un_net hi (wkr_I64 ia) hn
  · have h2 : (unv op k 0).2 = false := by simpa using h
    exact ⟨noBL, false, hk.trans h2, (fun e => by cases e), fun w => (op_no1 op k w h2).mono fun _ _ h => h.u⟩
theorem castv_isk {f t A : Int} (ht : 0 < wid t) (h : (castv f t A).2 = true) : isk t (castv f t A).1 = true := by
  unfold castv at *
  split
  · rename_i e; rw [if_pos e] at h; cases h
  · split
    · rename_i e1 e2; subst e2; exact isk_tru _
    · exact isk_wkr _ ht
theorem opCast (f t a : Int) (ia : I64 a) : ∃ R ok, (castv f t (wkr f a)).2 = ok ∧ TellsV (bitsB f (wkr f a)) R ok t (castv f t (wkr f a)).1 ∧ ∀ w, Calls Try.prog 11 #[.int .i64 f, .int .i64 t] w (NetU R ok w) := by
  have wf := width_wid f
  have wt := width_wid t
  by_cases hf : 0 < wid f
  · have hi := isk_wkr (k := f) a hf
    by_cases ht : 0 < wid t
    · have hk : (castv f t (wkr f a)).2 = true := by
        unfold castv
        rw [if_neg (by rintro (e | e); · rw [hi] at e; cases e
                       · omega)]
        split <;> rfl
      refine ⟨castNet f t, true, hk, fun _ => ⟨?_, castv_isk ht hk, ?_⟩, fun w => (cast_yes f t w hf ht).mono fun _ _ h => h.u⟩
      · rw [bitsB_len]
        exact cast_net hi (wkr_I64 ia) ht
      · unfold castv
        split
        · unfold I64; omega
        · split
          · exact tru_I64 _
          · exact wkr_I64 (wkr_I64 ia)
    · refine ⟨noBL, false, ?_, (fun e => by cases e), fun w => (cast_noT f t w (wid f) wf hf (by omega)).mono fun _ _ h => h.u⟩
      unfold castv
      rw [if_pos (.inr (by omega))]
  · refine ⟨noBL, false, ?_, (fun e => by cases e), fun w => (cast_noF f t w (by omega)).mono fun _ _ h => h.u⟩
    unfold castv
    rw [if_pos (.inl (isk_none _ hf))]
end Go.Proofs.Ytdjnekcpeaadhaa
namespace Go.Proofs.Ytdjnekcpeaadhaa
open Go.RowKit
set_option linter.unusedSimpArgs false
set_option linter.unusedVariables false
set_option maxRecDepth 100000

/-- A net's variable and the readers of the net. -/
structure NV (W : World) (X : Nat) (gv q : Value) (R : BL) (w : World) : Prop where
  ext : Ext W w
  box : BoxV X [gv] w
  net : GatesIn w gv (R.1.gs.map gvOf)
  ws : SlC w q R.2.length (wvs R.2)
theorem NV.next {W w w' : World} {X : Nat} {gv q : Value} {R : BL} (h : NV W X gv q R w) (hx : Ext w w') : NV W X gv q R w' := ⟨h.ext.trans hx, h.box.ext hx, SlC.ext h.net hx, h.ws.ext hx⟩
theorem NetU.nv {R : BL} {ok : Bool} {w : World} {e : Ending} {w' : World} (h : NetU R ok w e w') : ∃ ga gc q c, e = .returned (.tuple #[.agg #[.slice ga R.1.gs.length gc], .slice q R.2.length c, .bool ok]) ∧ Hid (Ext w w' ∧ NV w w'.heap.size (.slice ga R.1.gs.length gc) (.slice q R.2.length c) R (w'.alloc (.cells #[.slice ga R.1.gs.length gc] 25))) := by
  obtain ⟨ga, gc, q, c, rfl, H⟩ := h
  have hE : Ext w' (w'.alloc (.cells #[.slice ga R.1.gs.length gc] 25)) := (Ext.refl w').alloc _
  refine ⟨ga, gc, q, c, rfl, Lib.hid ⟨H.out.1, H.out.1.trans hE, BoxV.of_row (heap_alloc_last w' _), ?_, (SlC.of_owns H.out.2.2.1).ext hE⟩⟩
  unfold GatesIn
  rw [gcells_of, List.length_map]
  exact (SlC.of_owns H.out.2.1).ext hE
set_option maxHeartbeats 8000000 in
theorem gatesUn_any (hK : KindC) (op k t a : Int) (ia : I64 a) (w : World) :
    Calls Try.prog 4 #[.int .i64 op, .int .i64 k, .int .i64 t, .int .i64 a] w fun e w' => e = .returned (.bool true) ∧ Ext w w' := by
  have HAL := Lib.hid (alive22_any hK)
  obtain ⟨R1, ok1, hk1, hT1, hU1⟩ := opUn op k a ia
  obtain ⟨R2, ok2, hk2, hT2, hU2⟩ := opCast k t a ia
  have HRU : Hid (∀ w, Calls Try.prog 9 #[.int .i64 op, .int .i64 k, .int .i64 (wkr k a)] w fun e w' => e = .returned (.tuple #[.int .i64 (unv op k (wkr k a)).1, .bool ok1]) ∧ Ext w w') := Lib.hid (fun w => by
    have h := refUn_any op k (wkr k a) w
    rw [runv_eq, hk1] at h
    exact h)
  have HRC : Hid (∀ w, Calls Try.prog 10 #[.int .i64 k, .int .i64 t, .int .i64 (wkr k a)] w fun e w' => e = .returned (.tuple #[.int .i64 (castv k t (wkr k a)).1, .bool ok2]) ∧ w = w') := Lib.hid (fun w => by
    have h := refCast_any k t (wkr k a) w
    rw [hk2] at h
    exact h)
  obtain ⟨V1, hV1⟩ : ∃ v, v = (unv op k (wkr k a)).1 := ⟨_, rfl⟩
  obtain ⟨V2, hV2⟩ : ∃ v, v = (castv k t (wkr k a)).1 := ⟨_, rfl⟩
  rw [← hV1] at HRU hT1
  rw [← hV2] at HRC hT2
  obtain ⟨A, hA⟩ : ∃ v, v = wkr k a := ⟨_, rfl⟩
  rw [← hA] at HRU HRC hT1 hT2
  have HWR : Hid (∀ w, Calls Try.prog 8 #[.int .i64 k, .int .i64 a] w fun e w' => e = .returned (.int .i64 A) ∧ w = w') := Lib.hid (fun w => by rw [hA]; exact refWrap_any k a w)
  have HU1 := Lib.hid hU1
  have HU2 := Lib.hid hU2
  have HT1 := Lib.hid hT1
  have HT2 := Lib.hid hT2
  have hwk := width_wid k
  obtain ⟨n1, hn1⟩ : ∃ n, n = R1.1.gs.length := ⟨_, rfl⟩
  obtain ⟨n2, hn2⟩ : ∃ n, n = R2.1.gs.length := ⟨_, rfl⟩
  obtain ⟨m1, hm1⟩ : ∃ n, n = R1.2.length := ⟨_, rfl⟩
  obtain ⟨m2, hm2⟩ : ∃ n, n = R2.2.length := ⟨_, rfl⟩
  have HNN := Lib.hid (And.intro hn1 (And.intro hn2 (And.intro hm1 hm2)))
  have HN1 : Hid (∀ w, Calls Try.prog 7 #[.int .i64 op, .int .i64 k, .bool false] w fun e w' => ∃ ga gc q c, e = .returned (.tuple #[.agg #[.slice ga n1 gc], .slice q m1 c, .bool ok1]) ∧ Hid (Ext w w' ∧ NV w w'.heap.size (.slice ga n1 gc) (.slice q m1 c) R1 (w'.alloc (.cells #[.slice ga n1 gc] 25)))) := Lib.hid (fun w => by rw [hn1, hm1]; exact (hU1 w).mono fun _ _ h => h.nv)
  have HN2 : Hid (∀ w, Calls Try.prog 11 #[.int .i64 k, .int .i64 t] w fun e w' => ∃ ga gc q c, e = .returned (.tuple #[.agg #[.slice ga n2 gc], .slice q m2 c, .bool ok2]) ∧ Hid (Ext w w' ∧ NV w w'.heap.size (.slice ga n2 gc) (.slice q m2 c) R2 (w'.alloc (.cells #[.slice ga n2 gc] 25)))) := Lib.hid (fun w => by rw [hn2, hm2]; exact (hU2 w).mono fun _ _ h => h.nv)
  clear hK hk1 hk2 hT1 hT2 hU1 hU2 hV1 hV2 hA HU1 HU2 hn1 hn2 hm1 hm2
  go_enter Try.func4, Try.ntmps4
  go_upto_region 7 with (first | (go_at_call 6; refine (HAL.out _).mono ?_; rintro e w0 ⟨rfl, hx0⟩; have HX0 := Lib.hid hx0; clear hx0) | (go_at_call 8; refine (HWR.out _).mono ?_; rintro e w' ⟨rfl, rfl⟩) | (go_at_call 9; refine (HRU.out _).mono ?_; rintro e w1 ⟨rfl, hx1⟩; have HX1 := Lib.hid (HX0.out.trans hx1); clear hx1) | (go_at_call 7; refine (HN1.out _).mono ?_; rintro e w2 ⟨g2, c2, q2, d2, rfl, H2⟩) | (go_at_call 10; refine (HRC.out _).mono ?_; rintro e w' ⟨rfl, rfl⟩) | (go_at_call 11; refine (HN2.out _).mono ?_; rintro e w3 ⟨g3, c3, q3, d3, rfl, H3⟩))
  have hE4 : Ext w3 (w3.alloc (.cells #[.slice g3 n2 c3] 25)) := (Ext.refl w3).alloc _
  have HA : Hid (NV w1 w2.heap.size (.slice g2 n1 c2) (.slice q2 m1 d2) R1 (w3.alloc (.cells #[.slice g3 n2 c3] 25))) := Lib.hid (H2.out.2.next (H3.out.1.trans hE4))
  have HB : Hid (NV (w2.alloc (.cells #[.slice g2 n1 c2] 25)) w3.heap.size (.slice g3 n2 c3) (.slice q3 m2 d3) R2 (w3.alloc (.cells #[.slice g3 n2 c3] 25))) := Lib.hid H3.out.2
  have HX4 : Hid (Ext w (w3.alloc (.cells #[.slice g3 n2 c3] 25))) := Lib.hid (HX1.out.trans HA.out.ext)
  generalize w3.alloc (.cells #[.slice g3 n2 c3] 25) = w4 at hE4 HA HB HX4 ⊢
  generalize w2.heap.size = X1 at HA ⊢
  generalize w3.heap.size = X2 at HB ⊢
  obtain ⟨e1, e2, e3, e4⟩ := HNN.out
  rw [e3] at HA ⊢
  rw [e4] at HB ⊢
  clear hE4 H2 H3 HX0 HX1
  have hb1 : (ok1 != ok1) = false := by cases ok1 <;> rfl
  have hb2 : (ok2 != ok2) = false := by cases ok2 <;> rfl
  obtain ⟨w5, h5⟩ : ∃ x, x = w4 := ⟨_, rfl⟩
  have HX5 : Hid (Ext w4 w5) := Lib.hid (by rw [h5]; exact Ext.refl _)
  rw [← h5]
  clear h5 HRU HRC HWR HAL HN1 HN2 HNN e1 e2 e3 e4
  cases ok1
  · go_upto_region 13 with fail
    obtain ⟨w7, h7⟩ : ∃ x, x = w5 := ⟨_, rfl⟩
    have HX7 : Hid (Ext w4 w7) := Lib.hid (by rw [h7]; exact HX5.out)
    rw [← h7]
    clear h7
    cases ok2
    · go_wp2
      go_ret
      exact ⟨rfl, HX4.out.trans HX7.out⟩
    · skip
      have HVAL2 : Hid (∀ wx iv, Ext w4 wx → SlC wx iv (wid k) (bools (bitsB k A)) → Calls Try.prog 12 #[.int .i64 t, .agg #[.slice g3 n2 c3], .slice q3 R2.2.length d3, iv] wx fun e w' => e = .returned (.tuple #[.int .i64 V2, .bool true]) ∧ Ext wx w') := Lib.hid (fun wx iv hx hi => value22_any t R2 (bitsB k A) V2 (HT2.out rfl).1 (HT2.out rfl).2.1 (HT2.out rfl).2.2 _ _ iv wx (HB.out.next hx).net (HB.out.next hx).ws (by rw [bitsB_len]; exact hi))
      have HGI2 : Hid (∀ wx, Ext w4 wx → Calls Try.prog 14 #[.agg #[.slice g3 n2 c3]] wx fun e w' => e = .returned (.int .i64 ((wid k : Nat) : Int)) ∧ Ext wx w') := Lib.hid (fun wx hx => by
        have h1 := (HT2.out rfl).1
        have h2 := h1.first
        have h3 := gatesInputs_any (R2.1.gs.map gvOf) (.slice g3 n2 c3) wx (HB.out.next hx).net (by rw [List.length_map]; exact h1.len) _ h2.1 h2.2
        rw [bitsB_len] at h3
        exact h3)
      have x2 := (HB.out.next HX7.out).box.cells 0 _ rfl
      have xl2 := (HB.out.next HX7.out).box.lt
      go_upto_region 14 with fail
      go_region_held3 (fun w' => w'.cell? ⟨X2, 0, none⟩ = some (.slice g3 n2 c3))
        (first | exact x2 | exact (HX8a.out.cell x2) | exact (HX8b.out.cell x2))
        (first | (go_at_call 13; refine (bits22_any k A _).mono ?_; rintro e w8a ⟨ba, bc, rfl, HB2⟩; have HX8a := Lib.hid (show Ext w7 w8a from Ext.trans (Ext.refl w7).drew HB2.out.1)) | (go_at_call 12; refine (HVAL2.out _ _ (HX7.out.trans HX8a.out) (SlC.of_owns HB2.out.2)).mono ?_; rintro e w8b ⟨rfl, hv⟩; have HX8b := Lib.hid (show Ext w7 w8b from HX8a.out.trans hv); clear hv))
      have HX8 := Lib.hid (HX7.out.trans HX8b.out)
      have y2 := (HB.out.next HX8.out).box.cells 0 _ rfl
      have yl2 := (HB.out.next HX8.out).box.lt
      clear x2 xl2
      go_wp2_with (first | (go_at_call 14; refine (HGI2.out _ HX8.out).mono ?_; rintro e w9 ⟨rfl, hv⟩; have HX9 := Lib.hid (HX8.out.trans hv); clear hv) | (go_at_call 15; refine (refWidth_any _ _).mono ?_; rintro e w' ⟨rfl, rfl⟩))
      go_ret
      exact ⟨rfl, HX4.out.trans HX9.out⟩
  · skip
    have HVAL1 : Hid (∀ wx iv, Ext w4 wx → SlC wx iv (wid k) (bools (bitsB k A)) → Calls Try.prog 12 #[.int .i64 k, .agg #[.slice g2 n1 c2], .slice q2 R1.2.length d2, iv] wx fun e w' => e = .returned (.tuple #[.int .i64 V1, .bool true]) ∧ Ext wx w') := Lib.hid (fun wx iv hx hi => value22_any k R1 (bitsB k A) V1 (HT1.out rfl).1 (HT1.out rfl).2.1 (HT1.out rfl).2.2 _ _ iv wx (HA.out.next hx).net (HA.out.next hx).ws (by rw [bitsB_len]; exact hi))
    have HGI1 : Hid (∀ wx, Ext w4 wx → Calls Try.prog 14 #[.agg #[.slice g2 n1 c2]] wx fun e w' => e = .returned (.int .i64 ((wid k : Nat) : Int)) ∧ Ext wx w') := Lib.hid (fun wx hx => by
      have h1 := (HT1.out rfl).1
      have h2 := h1.first
      have h3 := gatesInputs_any (R1.1.gs.map gvOf) (.slice g2 n1 c2) wx (HA.out.next hx).net (by rw [List.length_map]; exact h1.len) _ h2.1 h2.2
      rw [bitsB_len] at h3
      exact h3)
    have x1 := (HA.out.next HX5.out).box.cells 0 _ rfl
    have xl1 := (HA.out.next HX5.out).box.lt
    go_upto_region 10 with fail
    go_region_held3 (fun w' => w'.cell? ⟨X1, 0, none⟩ = some (.slice g2 n1 c2))
      (first | exact x1 | exact (HX6a.out.cell x1) | exact (HX6b.out.cell x1))
      (first | (go_at_call 13; refine (bits22_any k A _).mono ?_; rintro e w6a ⟨ba, bc, rfl, HB1⟩; have HX6a := Lib.hid (show Ext w5 w6a from Ext.trans (Ext.refl w5).drew HB1.out.1)) | (go_at_call 12; refine (HVAL1.out _ _ (HX5.out.trans HX6a.out) (SlC.of_owns HB1.out.2)).mono ?_; rintro e w6b ⟨rfl, hv⟩; have HX6b := Lib.hid (show Ext w5 w6b from HX6a.out.trans hv); clear hv))
    have HX6 := Lib.hid (HX5.out.trans HX6b.out)
    have y1 := (HA.out.next HX6.out).box.cells 0 _ rfl
    have yl1 := (HA.out.next HX6.out).box.lt
    clear x1 xl1
    go_upto_region 13 with (first | (go_at_call 14; refine (HGI1.out _ HX6.out).mono ?_; rintro e w7 ⟨rfl, hv⟩; have HX7 := Lib.hid (HX6.out.trans hv); clear hv) | (go_at_call 15; refine (refWidth_any _ _).mono ?_; rintro e w' ⟨rfl, rfl⟩))
    cases ok2
    · go_wp2
      go_ret
      exact ⟨rfl, HX4.out.trans HX7.out⟩
    · skip
      have HVAL2 : Hid (∀ wx iv, Ext w4 wx → SlC wx iv (wid k) (bools (bitsB k A)) → Calls Try.prog 12 #[.int .i64 t, .agg #[.slice g3 n2 c3], .slice q3 R2.2.length d3, iv] wx fun e w' => e = .returned (.tuple #[.int .i64 V2, .bool true]) ∧ Ext wx w') := Lib.hid (fun wx iv hx hi => value22_any t R2 (bitsB k A) V2 (HT2.out rfl).1 (HT2.out rfl).2.1 (HT2.out rfl).2.2 _ _ iv wx (HB.out.next hx).net (HB.out.next hx).ws (by rw [bitsB_len]; exact hi))
      have HGI2 : Hid (∀ wx, Ext w4 wx → Calls Try.prog 14 #[.agg #[.slice g3 n2 c3]] wx fun e w' => e = .returned (.int .i64 ((wid k : Nat) : Int)) ∧ Ext wx w') := Lib.hid (fun wx hx => by
        have h1 := (HT2.out rfl).1
        have h2 := h1.first
        have h3 := gatesInputs_any (R2.1.gs.map gvOf) (.slice g3 n2 c3) wx (HB.out.next hx).net (by rw [List.length_map]; exact h1.len) _ h2.1 h2.2
        rw [bitsB_len] at h3
        exact h3)
      have x2 := (HB.out.next HX7.out).box.cells 0 _ rfl
      have xl2 := (HB.out.next HX7.out).box.lt
      go_upto_region 14 with fail
      go_region_held3 (fun w' => w'.cell? ⟨X2, 0, none⟩ = some (.slice g3 n2 c3))
        (first | exact x2 | exact (HX8a.out.cell x2) | exact (HX8b.out.cell x2))
        (first | (go_at_call 13; refine (bits22_any k A _).mono ?_; rintro e w8a ⟨ba, bc, rfl, HB2⟩; have HX8a := Lib.hid (show Ext w7 w8a from Ext.trans (Ext.refl w7).drew HB2.out.1)) | (go_at_call 12; refine (HVAL2.out _ _ (HX7.out.trans HX8a.out) (SlC.of_owns HB2.out.2)).mono ?_; rintro e w8b ⟨rfl, hv⟩; have HX8b := Lib.hid (show Ext w7 w8b from HX8a.out.trans hv); clear hv))
      have HX8 := Lib.hid (HX7.out.trans HX8b.out)
      have y2 := (HB.out.next HX8.out).box.cells 0 _ rfl
      have yl2 := (HB.out.next HX8.out).box.lt
      clear x2 xl2
      go_wp2_with (first | (go_at_call 14; refine (HGI2.out _ HX8.out).mono ?_; rintro e w9 ⟨rfl, hv⟩; have HX9 := Lib.hid (HX8.out.trans hv); clear hv) | (go_at_call 15; refine (refWidth_any _ _).mono ?_; rintro e w' ⟨rfl, rfl⟩))
      go_ret
      exact ⟨rfl, HX4.out.trans HX9.out⟩
end Go.Proofs.Ytdjnekcpeaadhaa

/-
  What Op of two values tells, beside the reference.
  Condition: what Kind tells.
  The walk of the law GatesBin.
  Condition: what Kind tells.
-/
import Derived.Test.YtdjnekcpeaadhaaGreatJtO
import Derived.Test.YtdjnekcpeaadhaaGreatJtK
import Derived.Test.YtdjnekcpeaadhaaGreatJtP
namespace Go.Proofs.YtdjnekcpeaadhaaGreat
open Go.RowKit
set_option linter.unusedSimpArgs false
set_option linter.unusedVariables false
set_option maxRecDepth 100000

/-- A net that tells a value of a kind; or none. -/
def TellsV (ins : List Bool) (R : BL) (ok : Bool) (k V : Int) : Prop := ok = true → NetTells ins R ins.length (wid k) V ∧ isk k V = true ∧ I64 V
theorem isk_zero0 {k : Int} (h : 0 < wid k) : isk k 0 = true := by
  rw [isk_iff]
  refine ⟨h, ?_⟩
  rcases kinds k with rfl | rfl | rfl | rfl | rfl | rfl | rfl | rfl | rfl | hk
  · rw [wkr_1]; rfl
  · rw [wkr_2]; rfl
  · rw [wkr_3]; rfl
  · rw [wkr_4]; rfl
  · rw [wkr_5]
  · rw [wkr_6]; rfl
  · rw [wkr_7]; rfl
  · rw [wkr_8]; rfl
  · rw [wkr_9]
  · exact wkr_none _ hk
/-- Whether there is an operation on two values does not hang on the values. -/
theorem binv_known (op k a b : Int) : (binv op k (wkr k a) (wkr k b)).2.2 = (binv op k 0 0).2.2 := by
  have e : binOk op k (wkr k a) (wkr k b) = binOk op k 0 0 := by
    unfold binOk
    by_cases hp : 0 < wid k
    · rw [isk_wkr a hp, isk_wkr b hp, isk_zero0 hp]
    · rw [isk_none (wkr k a) hp, isk_none (wkr k b) hp, isk_none 0 hp]
  unfold binv
  rw [e]
  split <;> rfl
theorem opBin (hK : KindC) (op k a b : Int) (ia : I64 a) (ib : I64 b) : ∃ R ok, (binv op k (wkr k a) (wkr k b)).2.2 = ok ∧ (ok = false → R = noBL) ∧ TellsV (bitsB k (wkr k a) ++ bitsB k (wkr k b)) R ok (binv op k (wkr k a) (wkr k b)).2.1 (binv op k (wkr k a) (wkr k b)).1 ∧ ∀ w, Calls Tryz.prog 7 #[.int .i64 op, .int .i64 k, .bool true] w (NetU R ok w) := by
  have hk := binv_known op k a b
  by_cases h : (binv op k 0 0).2.2 = true
  · rw [h] at hk
    obtain ⟨n, e, h3, h19, hf, hp, hi, hj⟩ := bin_known hk
    subst e
    have hok : binOk (n : Int) k (wkr k a) (wkr k b) = true := by
      unfold binv at hk
      split at hk
      · assumption
      · cases hk
    have hn0 : opOf n ≠ 0 := fun e => by rw [e, fits0] at hf; cases hf
    have e2 : binv (n : Int) k (wkr k a) (wkr k b) = ((binr n k (wkr k a) (wkr k b)).1, (binr n k (wkr k a) (wkr k b)).2, true) := binv_yes hok
    refine ⟨opNet n k true, true, hk, (fun e => by cases e), fun _ => ?_, fun w => (op_yes2 hK n k w h (by omega) hp).mono fun _ _ h => h.u⟩
    rw [e2, List.length_append, bitsB_len, bitsB_len]
    exact ⟨bin_net hi hj (wkr_I64 ia) (wkr_I64 ib) hf ⟨h3, h19⟩, binr_is n _ _ hp hn0, binr_I64 n (wkr_I64 ia) (wkr_I64 ib)⟩
  · have h2 : (binv op k 0 0).2.2 = false := by simpa using h
    exact ⟨noBL, false, hk.trans h2, (fun _ => rfl), (fun e => by cases e), fun w => (op_no2 hK op k w h2).mono fun _ _ h => h.u⟩
end Go.Proofs.YtdjnekcpeaadhaaGreat
namespace Go.Proofs.YtdjnekcpeaadhaaGreat
open Go.RowKit
set_option linter.unusedSimpArgs false
set_option linter.unusedVariables false
set_option maxRecDepth 100000

/-- A net's variable and the readers of the net. -/
structure NV (W : World) (X : Nat) (gv q : Value) (R : BL) (w : World) : Prop where
  ext : Ext W w
  box : BoxV X [gv] w
  net : GatesIn w gv (R.1.gs.map gvOf)
  ws : SlC w q R.2.length (wvs R.2)
theorem NV.next {W w w' : World} {X : Nat} {gv q : Value} {R : BL} (h : NV W X gv q R w) (hx : Ext w w') : NV W X gv q R w' := ⟨h.ext.trans hx, h.box.ext hx, SlC.ext h.net hx, h.ws.ext hx⟩
theorem NetU.nv {R : BL} {ok : Bool} {w : World} {e : Ending} {w' : World} (h : NetU R ok w e w') : ∃ ga gc q c, e = .returned (.tuple #[.agg #[.slice ga R.1.gs.length gc], .slice q R.2.length c, .bool ok]) ∧ Hid (Ext w w' ∧ NV w w'.heap.size (.slice ga R.1.gs.length gc) (.slice q R.2.length c) R (w'.alloc (.cells #[.slice ga R.1.gs.length gc] 28))) := by
  obtain ⟨ga, gc, q, c, rfl, H⟩ := h
  have hE : Ext w' (w'.alloc (.cells #[.slice ga R.1.gs.length gc] 28)) := (Ext.refl w').alloc _
  refine ⟨ga, gc, q, c, rfl, Lib.hid ⟨H.out.1, H.out.1.trans hE, BoxV.of_row (heap_alloc_last w' _), ?_, (SlC.of_owns H.out.2.2.1).ext hE⟩⟩
  unfold GatesIn
  rw [gcells_of, List.length_map]
  exact (SlC.of_owns H.out.2.1).ext hE
set_option maxHeartbeats 8000000 in
theorem gatesBin_any (hK : KindC) (op k a b : Int) (ia : I64 a) (ib : I64 b) (w : World) :
    Calls Tryz.prog 3 #[.int .i64 op, .int .i64 k, .int .i64 a, .int .i64 b] w fun e w' => e = .returned (.bool true) ∧ Ext w w' := by
  have HAL := Lib.hid (alive22_any hK)
  obtain ⟨R1, ok1, hk1, hR0, hT1, hU1⟩ := opBin hK op k a b ia ib
  have hRB := fun w => refBin_any op k (wkr k a) (wkr k b) (wkr_I64 ia) (wkr_I64 ib) w
  rw [hk1] at hRB
  obtain ⟨V1, hV1⟩ : ∃ v, v = (binv op k (wkr k a) (wkr k b)).1 := ⟨_, rfl⟩
  obtain ⟨k2, hk2⟩ : ∃ v, v = (binv op k (wkr k a) (wkr k b)).2.1 := ⟨_, rfl⟩
  rw [← hV1, ← hk2] at hRB hT1
  obtain ⟨A, hA⟩ : ∃ v, v = wkr k a := ⟨_, rfl⟩
  obtain ⟨B, hB⟩ : ∃ v, v = wkr k b := ⟨_, rfl⟩
  rw [← hA, ← hB] at hRB hT1
  have HRB := Lib.hid hRB
  have HWA : Hid (∀ w, Calls Tryz.prog 5 #[.int .i64 k, .int .i64 a] w fun e w' => e = .returned (.int .i64 A) ∧ w = w') := Lib.hid (fun w => by rw [hA]; exact refWrap_any k a w)
  have HWB : Hid (∀ w, Calls Tryz.prog 5 #[.int .i64 k, .int .i64 b] w fun e w' => e = .returned (.int .i64 B) ∧ w = w') := Lib.hid (fun w => by rw [hB]; exact refWrap_any k b w)
  have HT1 := Lib.hid hT1
  have hwk := width_wid k
  have hk64 := wid_le k
  obtain ⟨n1, hn1⟩ : ∃ n, n = R1.1.gs.length := ⟨_, rfl⟩
  obtain ⟨m1, hm1⟩ : ∃ n, n = R1.2.length := ⟨_, rfl⟩
  have HZ : Hid (ok1 = false → n1 = 0 ∧ m1 = 0) := Lib.hid (fun e => by rw [hn1, hm1, hR0 e]; exact ⟨rfl, rfl⟩)
  have HN1 : Hid (∀ w, Calls Tryz.prog 7 #[.int .i64 op, .int .i64 k, .bool true] w fun e w' => ∃ ga gc q c, e = .returned (.tuple #[.agg #[.slice ga n1 gc], .slice q m1 c, .bool ok1]) ∧ Hid (Ext w w' ∧ NV w w'.heap.size (.slice ga n1 gc) (.slice q m1 c) R1 (w'.alloc (.cells #[.slice ga n1 gc] 28)))) := Lib.hid (fun w => by rw [hn1, hm1]; exact (hU1 w).mono fun _ _ h => h.nv)
  have HM1 := Lib.hid hm1
  clear hK hk1 hT1 hU1 hV1 hk2 hA hB hRB hR0 hn1 hm1
  go_enter Tryz.func3, Tryz.ntmps3
  go_upto_region 6 with (first | (go_at_call 4; refine (HAL.out _).mono ?_; rintro e w0 ⟨rfl, hx0⟩; have HX0 := Lib.hid hx0; clear hx0) | (go_at_call 5; first | (with_reducible refine (HWA.out _).mono ?_; rintro e w' ⟨rfl, rfl⟩) | (with_reducible refine (HWB.out _).mono ?_; rintro e w' ⟨rfl, rfl⟩)) | (go_at_call 6; refine (HRB.out _).mono ?_; rintro e w1 ⟨rfl, hx1⟩; have HX1 := Lib.hid (HX0.out.trans hx1); clear hx1) | (go_at_call 7; refine (HN1.out _).mono ?_; rintro e w2 ⟨g2, c2, q2, d2, rfl, H2⟩))
  have HA : Hid (NV w1 w2.heap.size (.slice g2 n1 c2) (.slice q2 m1 d2) R1 (w2.alloc (.cells #[.slice g2 n1 c2] 28))) := Lib.hid H2.out.2
  have HX4 : Hid (Ext w (w2.alloc (.cells #[.slice g2 n1 c2] 28))) := Lib.hid (HX1.out.trans HA.out.ext)
  generalize w2.alloc (.cells #[.slice g2 n1 c2] 28) = w4 at HA HX4 ⊢
  generalize w2.heap.size = X1 at HA ⊢
  have x1 := HA.out.box.cells 0 _ rfl
  have xl1 := HA.out.box.lt
  clear H2 HX0 HX1
  cases ok1
  · obtain ⟨rfl, rfl⟩ := HZ.out rfl
    go_wp2
    go_ret
    exact ⟨rfl, HX4.out⟩
  · have e3 := HM1.out
    rw [e3] at HA ⊢
    have hT := HT1.out rfl
    have HVAL : Hid (∀ wx iv, Ext w4 wx → SlC wx iv (wid k + wid k) (bools (bitsB k A ++ bitsB k B)) → Calls Tryz.prog 10 #[.int .i64 k2, .agg #[.slice g2 n1 c2], .slice q2 R1.2.length d2, iv] wx fun e w' => e = .returned (.tuple #[.int .i64 V1, .bool true]) ∧ Ext wx w') := Lib.hid (fun wx iv hx hi => value22_any k2 R1 (bitsB k A ++ bitsB k B) V1 (HT1.out rfl).1 (HT1.out rfl).2.1 (HT1.out rfl).2.2 _ _ iv wx (HA.out.next hx).net (HA.out.next hx).ws (by rw [List.length_append, bitsB_len, bitsB_len]; exact hi))
    have HGI : Hid (∀ wx, Ext w4 wx → Calls Tryz.prog 8 #[.agg #[.slice g2 n1 c2]] wx fun e w' => e = .returned (.int .i64 ((wid k + wid k : Nat) : Int)) ∧ Ext wx w') := Lib.hid (fun wx hx => by
      have h1 := (HT1.out rfl).1
      have h2 := h1.first
      have h3 := gatesInputs_any (R1.1.gs.map gvOf) (.slice g2 n1 c2) wx (HA.out.next hx).net (by rw [List.length_map]; exact h1.len) _ h2.1 h2.2
      rw [List.length_append, bitsB_len, bitsB_len] at h3
      exact h3)
    have hw2 : IntKind.i64.wrap (2 * ((wid k : Nat) : Int)) = ((wid k + wid k : Nat) : Int) := by rw [IntWalk.i64_in _ (by omega)]; omega
    clear hT HZ HM1 e3
    go_upto_region 10 with (first | (go_at_call 8; refine (HGI.out _ (Ext.refl _)).mono ?_; rintro e w5 ⟨rfl, hv⟩; have HX5 := Lib.hid hv; clear hv) | (go_at_call 9; refine (refWidth_any _ _).mono ?_; rintro e w' ⟨rfl, rfl⟩))
    have x5 := HX5.out.cell x1
    have xl5 := Nat.lt_of_lt_of_le xl1 HX5.out.size
    have HBL : Hid ((bools (bitsB k A)).length = wid k ∧ (bools (bitsB k B)).length = wid k ∧ wid k ≤ 64) := Lib.hid ⟨by unfold bools; rw [List.length_map, bitsB_len], by unfold bools; rw [List.length_map, bitsB_len], hk64⟩
    have HB1C : Hid (∀ u ∈ bools (bitsB k B), u.oneCell' = true) := Lib.hid (fun u hu => by obtain ⟨z, -, rfl⟩ := List.mem_map.1 hu; rfl)
    clear x1 xl1
    go_region_held3 (fun w' => w'.cell? ⟨X1, 0, none⟩ = some (.slice g2 n1 c2))
      (first | exact x5 | exact HX6.out.cell x5 | exact HX7.out.cell x5 | exact HX8.out.1.cell x5 | exact HX9.out.cell x5)
      (first | (go_at_call 11; first | (have h9 := HB1.out; clear h9; refine (bits22_any k _ _).mono ?_; rintro e w7 ⟨bb, bd, rfl, HB2⟩; have HX7 := Lib.hid (show Ext w5 w7 from HX6.out.trans HB2.out.1)) | (refine (bits22_any k _ _).mono ?_; rintro e w6 ⟨ba, bc, rfl, HB1⟩; have HX6 := Lib.hid (show Ext w5 w6 from Ext.trans (Ext.refl w5).drew HB1.out.1))) | (go_at_call 10; refine (HVAL.out _ _ (HX5.out.trans HX8.out.1) HX8.out.2).mono ?_; rintro e w9 ⟨rfl, hv⟩; have HX9 := Lib.hid (show Ext w5 w9 from HX8.out.1.trans hv); clear hv) | (refine step_append_slc _ rfl (.tmp 80) (.tmp 83) 36 rfl w5.drew.heap.size 4 (.bool false) 1 1 Tryz.underlying36 infoBool rfl (by decide) (.slice ba (wid k) bc) (wid k) (bools (bitsB k A)) rfl (ownsRow_ext HB1.out.2 HB2.out.1) _ (wid k) (bools (bitsB k B)) rfl (SlC.of_owns HB2.out.2) (by rw [HBL.out.2.1, Nat.mul_one]) HB1C.out (by have := HBL.out.2.2; unfold maxLen; omega) (by have := HBL.out.2.2; omega) (Nat.le_trans HB1.out.1.size HB2.out.1.size) ?_; intro v8 w8 hown8 hg8 hat8; obtain ⟨a8, n8, c8, rfl⟩ := own_slice3 hown8; have HX8 := Lib.hid (And.intro (show Ext w5 w8 from below_grown (B := w5.heap.size) (base := w5.drew.heap.size) HX7.out (Nat.le_refl _) (Nat.le_trans HB1.out.1.size HB2.out.1.size) (ownsRow_ext HB1.out.2 HB2.out.1) hg8) (show SlC w8 (.slice a8 n8 c8) (wid k + wid k) (bools (bitsB k A ++ bitsB k B)) from by rw [show bools (bitsB k A ++ bitsB k B) = bools (bitsB k A) ++ bools (bitsB k B) from List.map_append]; exact SlC.of_owns hown8)); clear hown8 hg8 hat8))
    go_wp2
    go_ret
    exact ⟨rfl, HX4.out.trans (HX5.out.trans HX9.out)⟩
end Go.Proofs.YtdjnekcpeaadhaaGreat

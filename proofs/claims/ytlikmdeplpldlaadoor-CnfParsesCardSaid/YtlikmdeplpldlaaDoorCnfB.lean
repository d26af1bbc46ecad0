/-
  The walks that ask a formula: of the document; whether it is too much.
  Conditions: the formula lies in memory, and is small.
-/
import Derived.Test.YtlikmdeplpldlaaDoorCnfA
namespace Go.Proofs.YtlikmdeplpldlaaDoor
open Go.RowKit
set_option linter.unusedSimpArgs false
set_option linter.unusedVariables false
set_option maxRecDepth 100000

theorem clOk_step {x y : Int} {l : List Int} {j : Nat} (h : l[j]? = some y) : clOk x (l.drop j) = (litOk x y && clOk x (l.drop (j + 1))) := by
  obtain ⟨hl, e⟩ := List.getElem?_eq_some_iff.1 h
  rw [List.drop_eq_getElem_cons hl, e]
  simp [clOk]
theorem frmOk_step {x : Int} {r : List Int} {l : List (List Int)} {j : Nat} (h : l[j]? = some r) : frmOk x (l.drop j) = (clOk x r && frmOk x (l.drop (j + 1))) := by
  obtain ⟨hl, e⟩ := List.getElem?_eq_some_iff.1 h
  rw [List.drop_eq_getElem_cons hl, e]
  simp [frmOk]
set_option maxHeartbeats 1000000 in
theorem fair_any (l : List Int) (v : Value) (x : Int) (hx0 : 0 ≤ x) (hx1 : x ≤ 1000000) (w : World) (h : SlC w v l.length (i64s l)) (hl : l.length ≤ 1000000) :
    Calls Tryd.prog 27 #[v, .int .i64 x] w fun e w' => e = .returned (.bool (clOk x l)) ∧ w = w' := by
  obtain ⟨R, hR⟩ : ∃ R, R = clOk x l := ⟨_, rfl⟩
  rw [← hR]
  have HRR : Hid (clOk x (l.drop 0) = R) := Lib.hid (by rw [List.drop_zero]; exact hR.symm)
  obtain ⟨a, cap, rfl, -, -, hc⟩ := h
  have HC := Lib.hid hc
  obtain ⟨n, hn⟩ : ∃ n, n = l.length := ⟨_, rfl⟩
  rw [← hn] at hl ⊢
  have HN := Lib.hid hn
  clear hn hc hR
  go_enter Tryd.func27, Tryd.ntmps27
  go_wp2
  go_loopw [5] (fun i wr => ∃ j : Nat, j ≤ n ∧ i = .int .i64 j ∧ wr = w ∧ Hid (clOk x (l.drop j) = R)) (fun i _ => n - (intOf i).toNat)
  case atStart => exact ⟨0, Nat.zero_le _, rfl, rfl, HRR⟩
  case round =>
    obtain ⟨j, hj, rfl, rfl, HK⟩ := hrel
    clear HRR
    by_cases hlt : j < n
    · obtain ⟨y, hy⟩ : ∃ y, l[j]? = some y := ⟨_, List.getElem?_eq_getElem (by have := HN.out; omega)⟩
      obtain ⟨b, o, rfl, f0⟩ := HC.out j (.int .i64 y) (by simp [hy])
      have HS := Lib.hid (HK.out.symm.trans (clOk_step hy))
      clear hy HK
      by_cases h0 : y = 0
      · have HF : Hid (R = false) := Lib.hid (by rw [HS.out]; simp [litOk, h0])
        have e0 : (y == 0) = true := by simpa using h0
        go_wp2
        go_ret
        exact ⟨by rw [HF.out]; rfl, rfl⟩
      · have e0 : (y == 0) = false := by simpa using h0
        by_cases h1 : y ≤ x
        · by_cases h2 : -x ≤ y
          · have HF : Hid (clOk x (l.drop (j + 1)) = R) := Lib.hid (by rw [HS.out]; simp [litOk, h0, h1, h2])
            go_wp2
            go_roundw
            case rel => exact ⟨j + 1, by omega, by go_num, (by first | rfl | trivial), HF⟩
            case measure => simp [intOf]; omega
          · have HF : Hid (R = false) := Lib.hid (by rw [HS.out]; simp [litOk, h2])
            go_wp2
            go_ret
            exact ⟨by rw [HF.out]; rfl, rfl⟩
        · have HF : Hid (R = false) := Lib.hid (by rw [HS.out]; simp [litOk, h1])
          go_wp2
          go_ret
          exact ⟨by rw [HF.out]; rfl, rfl⟩
    · have HF : Hid (R = true) := Lib.hid (by have := HK.out; rw [List.drop_of_length_le (by have := HN.out; omega)] at this; exact this.symm)
      go_wp2
      go_ret
      exact ⟨by rw [HF.out]; rfl, rfl⟩
set_option maxHeartbeats 2000000 in
theorem checkFR_any (x : Int) (cv : Value) (vs : List Value) (rs : List (List Int)) (w : World) (hx : x ≤ 200000) (hx2 : -9223372036854775808 ≤ x) (h : RowsIn w cv vs rs) (hs : szF rs ≤ 200000) :
    Calls Tryd.prog 12 #[.agg #[.int .i64 x, cv]] w fun e w' => e = .returned (.int .i64 (chkF x rs)) ∧ Ext w w' := by
  obtain ⟨R, hR⟩ : ∃ R, R = chkF x rs := ⟨_, rfl⟩
  rw [← hR]
  have HRR := Lib.hid hR
  have hlen := szF_len rs
  obtain ⟨n, hn⟩ : ∃ n, n = rs.length := ⟨_, rfl⟩
  have HN := Lib.hid hn
  obtain ⟨a, cap, rfl, -, -, -⟩ := id h.top
  have hn2 : n ≤ 200000 := by omega
  have HS := Lib.hid hs
  rw [← hn]
  have HR := Lib.hid h
  rw [← hn] at HR
  clear hR h hlen hs hn
  go_enter Tryd.func12, Tryd.ntmps12
  go_upto_region 1 with fail
  have hbX := BoxV.of_row (heap_alloc_last w (.cells #[.int .i64 x, .slice a n cap] 24))
  have hE : Ext w (w.alloc (.cells #[.int .i64 x, .slice a n cap] 24)) := (Ext.refl w).alloc _
  have HE := Lib.hid hE
  have HR1 := Lib.hid (HR.out.ext hE)
  generalize w.alloc (.cells #[.int .i64 x, .slice a n cap] 24) = w1 at hbX hE HE HR1 ⊢
  generalize w.heap.size = X at hbX ⊢
  have p0 := hbX.cells 0 _ rfl
  have p1 := hbX.cells 1 _ rfl
  have hXl := hbX.lt
  obtain ⟨a', cap', ea, -, -, htc⟩ := id HR1.out.top
  have HT : Hid (∀ (j : Nat) (u : Value), vs[j]? = some u → ∃ b o, a = some ⟨b, o, none⟩ ∧ w1.cell? ⟨b, o + j, none⟩ = some u) := Lib.hid (by
    simp only [Value.slice.injEq] at ea
    rw [ea.1]; exact htc)
  clear htc ea hbX hE HR
  go_wp2
  go_loopw [3, 4] (fun k i wr => ∃ j m : Nat, j ≤ n ∧ k = .int .i64 m ∧ i = .int .i64 j ∧ Ext w1 wr ∧ m ≤ 200000 ∧ Hid (m = szF (rs.take j))) (fun _ i _ => n - (intOf i).toNat)
  case atStart => exact ⟨0, 0, Nat.zero_le _, rfl, rfl, Ext.refl _, by omega, Lib.hid rfl⟩
  case round =>
    obtain ⟨j, m, hj, rfl, rfl, hxr, hm, HM⟩ := hrel
    obtain ⟨t1, rfl⟩ := hxr.tok
    clear hxr
    by_cases hlt : j < n
    · obtain ⟨y, r, hy, hr, hs⟩ := HR1.out.at (j := j) (by have := HN.out; omega)
      obtain ⟨b, o, rfl, g1⟩ := HT.out j y hy
      have z1 : b < w1.heap.size := World.block_lt_of_cell? w1 _ g1
      obtain ⟨ya, ycap, rfl, -⟩ := hs
      obtain ⟨L, hL⟩ : ∃ L, L = r.length := ⟨_, rfl⟩
      rw [← hL] at g1
      have hsum : m + (L + 1) ≤ 200000 := by
        have h1 := szF_take hr
        have h2 := szF_le rs (j + 1)
        have := HM.out
        have := HS.out
        omega
      have HM2 : Hid (m + (L + 1) = szF (rs.take (j + 1))) := Lib.hid (by rw [szF_take hr, ← HM.out, hL])
      have hji : (j : Int) < (n : Int) := Int.ofNat_lt.2 hlt
      clear hy hr hL
      go_wp2
      go_roundw
      case rel => exact ⟨j + 1, m + (L + 1), by omega, by go_num, by go_num, (by repeat first | exact Ext.refl _ | assumption | refine Ext.drew ?_ | refine Ext.drewN ?_ _ | refine Ext.extBy ?_ _ | refine Ext.alloc ?_ _ | refine Ext.setCell ?_ (by simp; try omega) _ | (refine Ext.trans ?_ (by assumption))), hsum, HM2⟩
      case measure => simp [intOf]; omega
    · have hji : ¬ (j : Int) < (n : Int) := fun e => hlt (Int.ofNat_lt.1 e)
      by_cases hneg : x < 0
      · have HF : Hid (R = 40) := Lib.hid (by rw [HRR.out]; unfold chkF; rw [if_pos hneg])
        have hxx : ¬ 200000 < x := by omega
        go_wp2
        go_ret
        exact ⟨by rw [HF.out]; rfl, HE.out.trans (by repeat first | exact Ext.refl _ | assumption | refine Ext.drew ?_ | refine Ext.drewN ?_ _ | refine Ext.extBy ?_ _ | refine Ext.alloc ?_ _ | refine Ext.setCell ?_ (by simp; try omega) _ | (refine Ext.trans ?_ (by assumption)))⟩
      · have HF : Hid (R = if frmOk x (rs.drop 0) then 0 else 40) := Lib.hid (by rw [HRR.out, List.drop_zero]; unfold chkF; rw [if_neg hneg])
        have hxx : ¬ 200000 < x := by omega
        have hx0 : 0 ≤ x := by omega
        have hEt : Ext w1 (w1.extBy t1) := (by repeat first | exact Ext.refl _ | assumption | refine Ext.drew ?_ | refine Ext.drewN ?_ _ | refine Ext.extBy ?_ _ | refine Ext.alloc ?_ _ | refine Ext.setCell ?_ (by simp; try omega) _ | (refine Ext.trans ?_ (by assumption)))
        go_wp2
        go_loopw [5] (fun i wr => ∃ j : Nat, j ≤ n ∧ i = .int .i64 j ∧ Ext w1 wr ∧ Hid (R = if frmOk x (rs.drop j) then 0 else 40)) (fun i _ => n - (intOf i).toNat)
        case atStart => exact ⟨0, Nat.zero_le _, rfl, hEt, HF⟩
        case round =>
          obtain ⟨j, hj, rfl, hxr, HK⟩ := hrel
          obtain ⟨t1, rfl⟩ := hxr.tok
          clear hxr HF hEt
          by_cases hlt : j < n
          · obtain ⟨y, r, hy, hr, hs⟩ := HR1.out.at (j := j) (by have := HN.out; omega)
            obtain ⟨b, o, rfl, g1⟩ := HT.out j y hy
            have z1 : b < w1.heap.size := World.block_lt_of_cell? w1 _ g1
            have HSX := Lib.hid hs
            obtain ⟨B, hB⟩ : ∃ B, B = clOk x r := ⟨_, rfl⟩
            have HFA : Hid (∀ w', Ext w1 w' → Calls Tryd.prog 27 #[y, .int .i64 x] w' fun e w'' => e = .returned (.bool B) ∧ w' = w'') := Lib.hid fun w' hx => by
              rw [hB]
              exact fair_any r y x hx0 (by omega) w' (HSX.out.ext hx) (by have := szF_mem (List.mem_of_getElem? hr); have := HS.out; omega)
            have HFB : Hid (∀ m, Calls Tryd.prog 27 #[y, .int .i64 x] ((w1.extBy t1).drewN m) fun e w'' => e = .returned (.bool B) ∧ (w1.extBy t1).drewN m = w'') := Lib.hid fun m => HFA.out _ (((Ext.refl w1).extBy t1).drewN m)
            have HST := Lib.hid (frmOk_step (x := x) hr)
            have HB := Lib.hid hB
            obtain ⟨ya, ycap, rfl, -⟩ := hs
            have hji : (j : Int) < (n : Int) := Int.ofNat_lt.2 hlt
            clear hy hr hB
            cases B with
            | true =>
              have HK2 : Hid (R = if frmOk x (rs.drop (j + 1)) then 0 else 40) := Lib.hid (by rw [HK.out, HST.out, ← HB.out, Bool.true_and])
              go_wp2
              (refine region_drew (by kernel_rfl) (by kernel_rfl) ?_; (repeat (go_big_quiet_step (exact in_drew (HFB.out _)))); refine wpQuiet_nil ?_; rintro _ ⟨nq, rfl⟩)
              go_wp2
              go_roundw
              case rel => exact ⟨j + 1, by omega, by go_num, (by repeat first | exact Ext.refl _ | assumption | refine Ext.drew ?_ | refine Ext.drewN ?_ _ | refine Ext.extBy ?_ _ | refine Ext.alloc ?_ _ | refine Ext.setCell ?_ (by simp; try omega) _ | (refine Ext.trans ?_ (by assumption))), HK2⟩
              case measure => simp [intOf]; omega
            | false =>
              have HK2 : Hid (R = 40) := Lib.hid (by rw [HK.out, HST.out, ← HB.out]; simp)
              go_wp2
              (refine region_drew (by kernel_rfl) (by kernel_rfl) ?_; (repeat (go_big_quiet_step (exact in_drew (HFB.out _)))); refine wpQuiet_nil ?_; rintro _ ⟨nq, rfl⟩)
              go_wp2
              go_ret
              exact ⟨by rw [HK2.out]; rfl, HE.out.trans (by repeat first | exact Ext.refl _ | assumption | refine Ext.drew ?_ | refine Ext.drewN ?_ _ | refine Ext.extBy ?_ _ | refine Ext.alloc ?_ _ | refine Ext.setCell ?_ (by simp; try omega) _ | (refine Ext.trans ?_ (by assumption)))⟩
          · have hji : ¬ (j : Int) < (n : Int) := fun e => hlt (Int.ofNat_lt.1 e)
            have HK2 : Hid (R = 0) := Lib.hid (by rw [HK.out, List.drop_of_length_le (by have := HN.out; omega)]; rfl)
            go_wp2
            go_ret
            exact ⟨by rw [HK2.out]; rfl, HE.out.trans (by repeat first | exact Ext.refl _ | assumption | refine Ext.drew ?_ | refine Ext.drewN ?_ _ | refine Ext.extBy ?_ _ | refine Ext.alloc ?_ _ | refine Ext.setCell ?_ (by simp; try omega) _ | (refine Ext.trans ?_ (by assumption)))⟩
end Go.Proofs.YtlikmdeplpldlaaDoor

/-
  The walks of the document's own checker: whether two rows of numbers are one.
  No condition.
-/
import Derived.Test.YtipfcfaigbeakaaMCodeWalkN
import Derived.Test.YtipfcfaigbeakaaJKit
namespace Go.Proofs.Ytipfcfaigbeakaa
open Go.RowKit
set_option maxRecDepth 100000

set_option maxHeartbeats 1000000 in
theorem refSame_any (l m : List Int) (v1 v2 : Value) (w : World) (h1 : SlC w v1 l.length (i64s l)) (h2 : SlC w v2 m.length (i64s m)) :
    Calls Try.prog 47 #[v1, v2] w fun e w' => e = .returned (.bool (decide (l = m))) ∧ Ext w w' := by
  obtain ⟨r, hr⟩ : ∃ r, r = decide (l = m) := ⟨_, rfl⟩
  rw [← hr]
  obtain ⟨a1, c1, rfl, hn1, hm1, hc1⟩ := h1
  obtain ⟨a2, c2, rfl, hn2, hm2, hc2⟩ := h2
  have H1 := Lib.hid hc1
  have H2 := Lib.hid hc2
  have HR := Lib.hid hr
  clear hc1 hc2 hr
  have hw1 := nat64 hn1 hm1
  have hw2 := nat64 hn2 hm2
  unfold maxLen at hm1 hm2
  by_cases hl : l.length = m.length
  · obtain ⟨n, hn⟩ : ∃ n, n = l.length := ⟨_, rfl⟩
    rw [← hl, ← hn]
    rw [← hn] at hn1 hw1
    rw [← hl, ← hn] at hn2 hw2
    have HN := Lib.hid hn
    have HL := Lib.hid hl
    clear hn hl
    go_enter Try.func47, Try.ntmps47
    go_wp2
    go_loopw [5] (fun i wr => ∃ j : Nat, j ≤ n ∧ i = .int .i64 j ∧ Ext w wr ∧ Hid (∀ k x y : _, k < j → l[k]? = some x → m[k]? = some y → x = y)) (fun i _ => n - (intOf i).toNat)
    case atStart => exact ⟨0, Nat.zero_le _, rfl, Ext.refl _, Lib.hid fun k x y hk => by omega⟩
    case round =>
      obtain ⟨j, hj, rfl, hxr, HA⟩ := hrel
      obtain ⟨t1, rfl⟩ := hxr.tok
      clear hxr
      by_cases hlt : j < n
      · obtain ⟨x, hx⟩ : ∃ x, l[j]? = some x := ⟨_, List.getElem?_eq_getElem (by have := HN.out; omega)⟩
        obtain ⟨y, hy⟩ : ∃ y, m[j]? = some y := ⟨_, List.getElem?_eq_getElem (by have := HN.out; have := HL.out; omega)⟩
        obtain ⟨b, o, rfl, g1⟩ := H1.out j (.int .i64 x) (by simp [hx])
        obtain ⟨b2, o2, rfl, g2⟩ := H2.out j (.int .i64 y) (by simp [hy])
        have z1 : b < w.heap.size := World.block_lt_of_cell? w _ g1
        have z2 : b2 < w.heap.size := World.block_lt_of_cell? w _ g2
        have HX := Lib.hid hx
        have HY := Lib.hid hy
        clear hx hy
        by_cases hxy : x = y
        · have HA' : Hid (∀ k x y : _, k < j + 1 → l[k]? = some x → m[k]? = some y → x = y) := Lib.hid fun k x' y' hk hx' hy' => by
            by_cases hkj : k = j
            · subst hkj; rw [HX.out] at hx'; rw [HY.out] at hy'; rw [← Option.some.inj hx', ← Option.some.inj hy']; exact hxy
            · exact HA.out k x' y' (by omega) hx' hy'
          subst hxy
          go_wp2
          (refine region_drew (by kernel_rfl) (by kernel_rfl) ?_; (repeat (go_big_quiet_step (fail))); refine wpQuiet_nil ?_; rintro _ ⟨nq, rfl⟩)
          go_wp2
          go_roundw
          case rel => exact ⟨j + 1, by omega, by go_num, (by repeat first | exact Ext.refl _ | assumption | refine Ext.drew ?_ | refine Ext.drewN ?_ _ | refine Ext.extBy ?_ _ | refine Ext.alloc ?_ _ | refine Ext.setCell ?_ (by simp; try omega) _ | (refine Ext.trans ?_ (by assumption))), HA'⟩
          case measure => simp [intOf]; omega
        · have hd : (x != y) = true := by simpa using hxy
          have HF : Hid (r = false) := Lib.hid (by rw [HR.out]; exact decide_eq_false fun e => hxy (by have := HX.out; rw [e, HY.out] at this; exact (Option.some.inj this).symm))
          clear hxy
          go_wp2
          (refine region_drew (by kernel_rfl) (by kernel_rfl) ?_; (repeat (go_big_quiet_step (fail))); refine wpQuiet_nil ?_; rintro _ ⟨nq, rfl⟩)
          go_wp2
          go_ret
          exact ⟨ret_bool HF.out.symm, (by repeat first | exact Ext.refl _ | assumption | refine Ext.drew ?_ | refine Ext.drewN ?_ _ | refine Ext.extBy ?_ _ | refine Ext.alloc ?_ _ | refine Ext.setCell ?_ (by simp; try omega) _ | (refine Ext.trans ?_ (by assumption)))⟩
      · have HT : Hid (r = true) := Lib.hid (by
          rw [HR.out]
          refine decide_eq_true (List.ext_getElem? fun k => ?_)
          by_cases hk : k < l.length
          · have hk2 : k < m.length := by rw [← HL.out]; exact hk
            rw [List.getElem?_eq_getElem hk, List.getElem?_eq_getElem hk2, HA.out k _ _ (by have := HN.out; omega) (List.getElem?_eq_getElem hk) (List.getElem?_eq_getElem hk2)]
          · rw [List.getElem?_eq_none (by omega), List.getElem?_eq_none (by have := HL.out; omega)])
        go_wp2
        go_ret
        exact ⟨ret_bool HT.out.symm, (by repeat first | exact Ext.refl _ | assumption | refine Ext.drew ?_ | refine Ext.drewN ?_ _ | refine Ext.extBy ?_ _ | refine Ext.alloc ?_ _ | refine Ext.setCell ?_ (by simp; try omega) _ | (refine Ext.trans ?_ (by assumption)))⟩
  · have HF : Hid (r = false) := Lib.hid (by rw [HR.out]; exact decide_eq_false fun e => hl (by rw [e]))
    have hd : ((l.length : Int) != (m.length : Int)) = true := by simpa using (fun e => hl (by omega))
    clear hl
    go_enter Try.func47, Try.ntmps47
    go_wp2
    go_ret
    exact ⟨ret_bool HF.out.symm, (by repeat first | exact Ext.refl _ | assumption | refine Ext.drew ?_ | refine Ext.drewN ?_ _ | refine Ext.extBy ?_ _ | refine Ext.alloc ?_ _ | refine Ext.setCell ?_ (by simp; try omega) _ | (refine Ext.trans ?_ (by assumption)))⟩
end Go.Proofs.Ytipfcfaigbeakaa

/-
  Rows compared; do ticks fit: the walks.
  Conditions: the rows lie in memory.
-/
import Derived.Test.YtipfcfaigbeakaaJExecU
namespace Go.Proofs.Ytipfcfaigbeakaa
open Go.RowKit
set_option linter.unusedSimpArgs false
set_option linter.unusedVariables false
set_option maxRecDepth 100000

set_option maxHeartbeats 2000000 in
theorem sameRows_any {v v2 : Value} {vs vs2 : List Value} {rs : List (List Int)} {w : World} (h : RowsIn w v vs rs) (h2 : RowsIn w v2 vs2 rs) :
    Calls Try.prog 40 #[v, v2] w fun e w' => e = .returned (.bool true) ∧ Ext w w' := by
  have HR := Lib.hid h
  have HR2 := Lib.hid h2
  obtain ⟨a, cap, rfl, hn1, hn2, hc⟩ := id h.top
  obtain ⟨a2, cap2, rfl, hm1, hm2, hc2⟩ := id h2.top
  have HT := Lib.hid hc
  have HT2 := Lib.hid hc2
  have hw := nat64 hn1 hn2
  have hw2 := nat64 hm1 hm2
  obtain ⟨n, hn⟩ : ∃ n, n = rs.length := ⟨_, rfl⟩
  rw [← hn] at hn1 hw hm1 hw2 ⊢
  have HN := Lib.hid hn
  have hnm : n ≤ 9223372036854775807 := Nat.le_trans hn1 hn2
  clear hn hc hc2 h h2 hn1 hn2 hm1 hm2
  go_enter Try.func40, Try.ntmps40
  go_wp2
  go_loopw [5] (fun i wr => ∃ j : Nat, j ≤ n ∧ i = .int .i64 j ∧ Ext w wr) (fun i _ => n - (intOf i).toNat)
  case atStart => exact ⟨0, Nat.zero_le _, rfl, Ext.refl _⟩
  case round =>
    obtain ⟨j, hj, rfl, hxr⟩ := hrel
    obtain ⟨t1, rfl⟩ := hxr.tok
    clear hxr
    by_cases hlt : j < n
    · obtain ⟨x, r, hx, hr, hs⟩ := HR.out.at (j := j) (by have := HN.out; omega)
      obtain ⟨x2, r2, hx2, hr2, hs2⟩ := HR2.out.at (j := j) (by have := HN.out; omega)
      obtain rfl : r2 = r := Option.some.inj (hr2.symm.trans hr)
      obtain ⟨b, o, rfl, f1⟩ := HT.out j x hx
      obtain ⟨b2, o2, rfl, f2⟩ := HT2.out j x2 hx2
      have z1 : b < w.heap.size := World.block_lt_of_cell? w _ f1
      have z2 : b2 < w.heap.size := World.block_lt_of_cell? w _ f2
      obtain ⟨xa, xcap, rfl, l1, l2, lc⟩ := hs
      obtain ⟨ya, ycap, rfl, l3, l4, lc2⟩ := hs2
      have HX := Lib.hid lc
      have HY := Lib.hid lc2
      obtain ⟨L, hL⟩ : ∃ L, L = r2.length := ⟨_, rfl⟩
      have hwl := nat64 l1 l2
      have hwl2 := nat64 l3 l4
      rw [← hL] at f1 f2 l1 l3 hwl hwl2
      have HL := Lib.hid hL
      have hLm : L ≤ 9223372036854775807 := Nat.le_trans l1 l2
      clear hx hx2 hr hr2 lc lc2 hL l1 l2 l3 l4
      go_wp2
      (refine region_drew (by kernel_rfl) (by kernel_rfl) ?_; (repeat (go_big_quiet_step (fail))); refine wpQuiet_nil ?_; rintro _ ⟨nq, rfl⟩)
      go_wp2
      go_loopw [6] (fun i wr => ∃ k : Nat, k ≤ L ∧ i = .int .i64 k ∧ Ext w wr) (fun i _ => L - (intOf i).toNat)
      case atStart => exact ⟨0, Nat.zero_le _, rfl, (by repeat first | exact Ext.refl _ | assumption | refine Ext.drew ?_ | refine Ext.drewN ?_ _ | refine Ext.extBy ?_ _ | refine Ext.alloc ?_ _ | refine Ext.setCell ?_ (by simp; try omega) _ | (refine Ext.trans ?_ (by assumption)))⟩
      case round =>
        obtain ⟨k, hk, rfl, hxr⟩ := hrel
        obtain ⟨t2, rfl⟩ := hxr.tok
        clear hxr
        by_cases hkt : k < L
        · obtain ⟨y, hy⟩ : ∃ y, r2[k]? = some y := ⟨_, List.getElem?_eq_getElem (by have := HL.out; omega)⟩
          obtain ⟨c1, o3, rfl, e1⟩ := HX.out k (.int .i64 y) (by simp [hy])
          obtain ⟨c2, o4, rfl, e2⟩ := HY.out k (.int .i64 y) (by simp [hy])
          have z3 : c1 < w.heap.size := World.block_lt_of_cell? w _ e1
          have z4 : c2 < w.heap.size := World.block_lt_of_cell? w _ e2
          clear hy
          go_wp2
          (refine region_drew (by kernel_rfl) (by kernel_rfl) ?_; (repeat (go_big_quiet_step (fail))); refine wpQuiet_nil ?_; rintro _ ⟨nq, rfl⟩)
          go_wp2
          go_roundw
          case rel => exact ⟨k + 1, by omega, by go_num, (by repeat first | exact Ext.refl _ | assumption | refine Ext.drew ?_ | refine Ext.drewN ?_ _ | refine Ext.extBy ?_ _ | refine Ext.alloc ?_ _ | refine Ext.setCell ?_ (by simp; try omega) _ | (refine Ext.trans ?_ (by assumption)))⟩
          case measure => simp [intOf]; omega
        · go_wp2
          go_roundw
          case rel => exact ⟨j + 1, by omega, by go_num, (by repeat first | exact Ext.refl _ | assumption | refine Ext.drew ?_ | refine Ext.drewN ?_ _ | refine Ext.extBy ?_ _ | refine Ext.alloc ?_ _ | refine Ext.setCell ?_ (by simp; try omega) _ | (refine Ext.trans ?_ (by assumption)))⟩
          case measure => simp [intOf]; omega
    · go_wp2
      go_ret
      exact ⟨rfl, (by repeat first | exact Ext.refl _ | assumption | refine Ext.drew ?_ | refine Ext.drewN ?_ _ | refine Ext.extBy ?_ _ | refine Ext.alloc ?_ _ | refine Ext.setCell ?_ (by simp; try omega) _ | (refine Ext.trans ?_ (by assumption)))⟩
/-- Do ticks fit? Only whether they are too many. -/
def FitsP (n : Nat) (w : World) (e : Ending) (w' : World) : Prop := ∃ x : Int, e = .returned (.int .i64 x) ∧ (x = 2 ↔ 1000 < n) ∧ Ext w w'
set_option maxHeartbeats 2000000 in
theorem fits_any {v : Value} {vs : List Value} {rs : List (List Int)} {w : World} (h : RowsIn w v vs rs) :
    Calls Try.prog 64 #[.slice none 0 0, v] w (FitsP rs.length w) := by
  have HR := Lib.hid h
  obtain ⟨a, cap, rfl, hn1, hn2, hc⟩ := id h.top
  have HT := Lib.hid hc
  have hw := nat64 hn1 hn2
  obtain ⟨n, hn⟩ : ∃ n, n = rs.length := ⟨_, rfl⟩
  rw [← hn] at hn1 hw ⊢
  have HN := Lib.hid hn
  have hnm : n ≤ 9223372036854775807 := Nat.le_trans hn1 hn2
  clear hn hc h hn1 hn2
  obtain ⟨Q, hQ⟩ : ∃ Q, Q = FitsP n w := ⟨_, rfl⟩
  rw [← hQ]
  have HQ := Lib.hid hQ
  clear hQ
  go_enter Try.func64, Try.ntmps64
  by_cases hbig : 1000 < n
  · go_wp2
    (try go_ret)
    rw [HQ.out]
    exact ⟨2, rfl, ⟨fun _ => hbig, fun _ => rfl⟩, (by repeat first | exact Ext.refl _ | assumption | refine Ext.drew ?_ | refine Ext.drewN ?_ _ | refine Ext.extBy ?_ _ | refine Ext.alloc ?_ _ | refine Ext.setCell ?_ (by simp; try omega) _ | (refine Ext.trans ?_ (by assumption)))⟩
  · go_wp2
    go_loopw [5] (fun i wr => ∃ j : Nat, j ≤ n ∧ i = .int .i64 j ∧ Ext w wr) (fun i _ => n - (intOf i).toNat)
    case atStart => exact ⟨0, Nat.zero_le _, rfl, Ext.refl _⟩
    case round =>
      obtain ⟨j, hj, rfl, hxr⟩ := hrel
      obtain ⟨t1, rfl⟩ := hxr.tok
      clear hxr
      by_cases hlt : j < n
      · obtain ⟨x, r, hx, hr, hs⟩ := HR.out.at (j := j) (by have := HN.out; omega)
        obtain ⟨b, o, rfl, f1⟩ := HT.out j x hx
        have z1 : b < w.heap.size := World.block_lt_of_cell? w _ f1
        obtain ⟨xa, xcap, rfl, l1, l2, lc⟩ := hs
        obtain ⟨L, hL⟩ : ∃ L, L = r.length := ⟨_, rfl⟩
        have hwl := nat64 l1 l2
        rw [← hL] at f1 l1 hwl
        have hLm : L ≤ 9223372036854775807 := Nat.le_trans l1 l2
        clear hx hr lc hL l1 l2
        by_cases h0 : L = 0
        · subst h0
          go_wp2
          go_loopw [6] (fun i wr => i = .int .i64 0 ∧ Ext w wr) (fun _ _ => 0)
          case atStart => exact ⟨rfl, (by repeat first | exact Ext.refl _ | assumption | refine Ext.drew ?_ | refine Ext.drewN ?_ _ | refine Ext.extBy ?_ _ | refine Ext.alloc ?_ _ | refine Ext.setCell ?_ (by simp; try omega) _ | (refine Ext.trans ?_ (by assumption)))⟩
          case round =>
            obtain ⟨rfl, hxr⟩ := hrel
            obtain ⟨t2, rfl⟩ := hxr.tok
            clear hxr
            go_wp2
            go_roundw
            case rel => exact ⟨j + 1, by omega, by go_num, (by repeat first | exact Ext.refl _ | assumption | refine Ext.drew ?_ | refine Ext.drewN ?_ _ | refine Ext.extBy ?_ _ | refine Ext.alloc ?_ _ | refine Ext.setCell ?_ (by simp; try omega) _ | (refine Ext.trans ?_ (by assumption)))⟩
            case measure => simp [intOf]; omega
        · have h0' : ((L : Int) != 0) = true := by simpa using h0
          go_wp2
          (try go_ret)
          rw [HQ.out]
          exact ⟨23, rfl, ⟨fun e => absurd e (by decide), fun e => absurd e hbig⟩, (by repeat first | exact Ext.refl _ | assumption | refine Ext.drew ?_ | refine Ext.drewN ?_ _ | refine Ext.extBy ?_ _ | refine Ext.alloc ?_ _ | refine Ext.setCell ?_ (by simp; try omega) _ | (refine Ext.trans ?_ (by assumption)))⟩
      · go_wp2
        (try go_ret)
        rw [HQ.out]
        exact ⟨0, rfl, ⟨fun e => absurd e (by decide), fun e => absurd e hbig⟩, (by repeat first | exact Ext.refl _ | assumption | refine Ext.drew ?_ | refine Ext.drewN ?_ _ | refine Ext.extBy ?_ _ | refine Ext.alloc ?_ _ | refine Ext.setCell ?_ (by simp; try omega) _ | (refine Ext.trans ?_ (by assumption)))⟩
end Go.Proofs.Ytipfcfaigbeakaa

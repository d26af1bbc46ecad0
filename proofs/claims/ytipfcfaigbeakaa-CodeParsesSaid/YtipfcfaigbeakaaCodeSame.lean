/-
  The walks of the document's own comparison of two programs that are one.
  No condition.
-/
import Derived.Test.YtipfcfaigbeakaaMCodeRefH
import Derived.Test.YtipfcfaigbeakaaJLaw
namespace Go.Proofs.Ytipfcfaigbeakaa
open Go.RowKit
set_option linter.unusedSimpArgs false
set_option linter.unusedVariables false
set_option maxRecDepth 100000

set_option maxHeartbeats 2000000 in
theorem refSameC_any (c : CodeV) (kv iv bv kv' iv' bv' : Value) (w : World) (h : CodeIn w kv iv bv c) (h' : CodeIn w kv' iv' bv' c) :
    Calls Try.prog 24 #[codeA c kv iv bv, codeA c kv' iv' bv'] w fun e w' => e = .returned (.bool true) ∧ Ext w w' := by
  have HI := Lib.hid h
  have HI' := Lib.hid h'
  obtain ⟨⟨ak, ck, rfl, hk1, hk2, -⟩, ⟨ai, ci, rfl, hi1, hi2, -⟩, ⟨ab, cb, rfl, hb1, hb2, -⟩⟩ := h
  obtain ⟨⟨ak', ck', rfl, hk1', hk2', -⟩, ⟨ai', ci', rfl, hi1', hi2', -⟩, ⟨ab', cb', rfl, hb1', hb2', -⟩⟩ := h'
  have hln := nat64 hk1 hk2
  have hin := nat64 hi1 hi2
  have hbn := nat64 hb1 hb2
  have hbm : c.body.length ≤ 9223372036854775807 := Nat.le_trans hb1 (Nat.le_trans hb2 (by decide))
  clear hk1 hk2 hi1 hi2 hb1 hb2 hk1' hk2' hi1' hi2' hb1' hb2'
  have HK : Hid (∀ w', Ext w w' → Calls Try.prog 47 #[.slice ak c.kinds.length ck, .slice ak' c.kinds.length ck'] w' fun e w1 => e = .returned (.bool true) ∧ Ext w' w1) := Lib.hid fun w' hx => by
    have := refSame_any c.kinds c.kinds _ _ w' (HI.out.kinds.ext hx) (HI'.out.kinds.ext hx)
    rw [decide_eq_true rfl] at this
    exact this
  have HN : Hid (∀ w', Ext w w' → Calls Try.prog 47 #[.slice ai c.init.length ci, .slice ai' c.init.length ci'] w' fun e w1 => e = .returned (.bool true) ∧ Ext w' w1) := Lib.hid fun w' hx => by
    have := refSame_any c.init c.init _ _ w' (HI.out.init.ext hx) (HI'.out.init.ext hx)
    rw [decide_eq_true rfl] at this
    exact this
  simp only [codeA]
  go_enter Try.func24, Try.ntmps24
  go_upto_region 1 with fail
  have HB : Hid (∀ w', Ext ((w.alloc (.cells #[.slice ak c.kinds.length ck, .int .i64 c.ins, .int .i64 c.outs, .int .i64 c.cells, .int .i64 c.stack, .slice ai c.init.length ci, .slice ab c.body.length cb] 25)).alloc (.cells #[.slice ak' c.kinds.length ck', .int .i64 c.ins, .int .i64 c.outs, .int .i64 c.cells, .int .i64 c.stack, .slice ai' c.init.length ci', .slice ab' c.body.length cb'] 25)) w' → w'.cell? ⟨w.heap.size, 6, none⟩ = some (.slice ab c.body.length cb) ∧ w'.cell? ⟨w.heap.size + 1, 6, none⟩ = some (.slice ab' c.body.length cb')) := Lib.hid fun w' hx => ⟨hx.cell (by go_simp), hx.cell (by go_simp)⟩
  have hWW : Ext w ((w.alloc (.cells #[.slice ak c.kinds.length ck, .int .i64 c.ins, .int .i64 c.outs, .int .i64 c.cells, .int .i64 c.stack, .slice ai c.init.length ci, .slice ab c.body.length cb] 25)).alloc (.cells #[.slice ak' c.kinds.length ck', .int .i64 c.ins, .int .i64 c.outs, .int .i64 c.cells, .int .i64 c.stack, .slice ai' c.init.length ci', .slice ab' c.body.length cb'] 25)) := ((Ext.refl w).alloc _).alloc _
  go_upto_region 6 with (first | (go_at_call 47; (with_reducible refine (HK.out _ (by repeat first | exact Ext.refl _ | assumption | refine Ext.drew ?_ | refine Ext.drewN ?_ _ | refine Ext.extBy ?_ _ | refine Ext.alloc ?_ _ | refine Ext.setCell ?_ (by simp; try omega) _ | (refine Ext.trans ?_ (by assumption)))).mono ?_); rintro e w1 ⟨rfl, hx1⟩; (first | (with_reducible obtain ⟨t1, rfl⟩ := Ext.tok2 hx1) | (obtain ⟨t1, rfl⟩ := Ext.tok hx1))) | (go_at_call 47; (with_reducible refine (HN.out _ (by repeat first | exact Ext.refl _ | assumption | refine Ext.drew ?_ | refine Ext.drewN ?_ _ | refine Ext.extBy ?_ _ | refine Ext.alloc ?_ _ | refine Ext.setCell ?_ (by simp; try omega) _ | (refine Ext.trans ?_ (by assumption)))).mono ?_); rintro e w2 ⟨rfl, hx2⟩; (first | (with_reducible obtain ⟨t2, rfl⟩ := Ext.tok2 hx2) | (obtain ⟨t2, rfl⟩ := Ext.tok hx2))))
  have hEx : Ext ((w.alloc (.cells #[.slice ak c.kinds.length ck, .int .i64 c.ins, .int .i64 c.outs, .int .i64 c.cells, .int .i64 c.stack, .slice ai c.init.length ci, .slice ab c.body.length cb] 25)).alloc (.cells #[.slice ak' c.kinds.length ck', .int .i64 c.ins, .int .i64 c.outs, .int .i64 c.cells, .int .i64 c.stack, .slice ai' c.init.length ci', .slice ab' c.body.length cb'] 25)) _ := Ext.by _ t2
  generalize ((w.alloc (.cells #[.slice ak c.kinds.length ck, .int .i64 c.ins, .int .i64 c.outs, .int .i64 c.cells, .int .i64 c.stack, .slice ai c.init.length ci, .slice ab c.body.length cb] 25)).alloc (.cells #[.slice ak' c.kinds.length ck', .int .i64 c.ins, .int .i64 c.outs, .int .i64 c.cells, .int .i64 c.stack, .slice ai' c.init.length ci', .slice ab' c.body.length cb'] 25)).extBy t2 = wz at hEx ⊢
  generalize ((w.alloc (.cells #[.slice ak c.kinds.length ck, .int .i64 c.ins, .int .i64 c.outs, .int .i64 c.cells, .int .i64 c.stack, .slice ai c.init.length ci, .slice ab c.body.length cb] 25)).alloc (.cells #[.slice ak' c.kinds.length ck', .int .i64 c.ins, .int .i64 c.outs, .int .i64 c.cells, .int .i64 c.stack, .slice ai' c.init.length ci', .slice ab' c.body.length cb'] 25)) = wy at HB hWW hEx
  go_loopw [7] (fun i wr => ∃ j : Nat, j ≤ c.body.length ∧ i = .int .i64 j ∧ Ext wy wr) (fun i _ => c.body.length - (intOf i).toNat)
  case atStart => exact ⟨0, Nat.zero_le _, rfl, hEx⟩
  case round =>
    obtain ⟨j, hj, rfl, hxr⟩ := hrel
    obtain ⟨q6, r6⟩ := HB.out _ hxr
    by_cases hlt : j < c.body.length
    · obtain ⟨q, hq⟩ : ∃ q, c.body[j]? = some q := ⟨_, List.getElem?_eq_getElem hlt⟩
      have hcs := insCells_at c.body j q hq
      obtain ⟨a1, c1, e1, -, -, hbc⟩ := id (HI.out.body.ext (hWW.trans hxr))
      simp only [Value.slice.injEq] at e1
      obtain ⟨rfl, -, rfl⟩ := e1
      obtain ⟨gb, go, rfl, g0⟩ := hbc (j * 3) _ hcs.1
      obtain ⟨b', o', e0, g1⟩ := hbc (j * 3 + 1) _ hcs.2.1
      simp only [Option.some.injEq, Addr.mk.injEq] at e0
      obtain ⟨rfl, rfl, -⟩ := e0
      obtain ⟨b', o', e0, g2⟩ := hbc (j * 3 + 2) _ hcs.2.2
      simp only [Option.some.injEq, Addr.mk.injEq] at e0
      obtain ⟨rfl, rfl, -⟩ := e0
      rw [← Nat.add_assoc] at g1 g2
      clear hbc
      obtain ⟨a1, c1, e1, -, -, hbc⟩ := id (HI'.out.body.ext (hWW.trans hxr))
      simp only [Value.slice.injEq] at e1
      obtain ⟨rfl, -, rfl⟩ := e1
      obtain ⟨kb, ko, rfl, k0⟩ := hbc (j * 3) _ hcs.1
      obtain ⟨b', o', e0, k1⟩ := hbc (j * 3 + 1) _ hcs.2.1
      simp only [Option.some.injEq, Addr.mk.injEq] at e0
      obtain ⟨rfl, rfl, -⟩ := e0
      obtain ⟨b', o', e0, k2⟩ := hbc (j * 3 + 2) _ hcs.2.2
      simp only [Option.some.injEq, Addr.mk.injEq] at e0
      obtain ⟨rfl, rfl, -⟩ := e0
      rw [← Nat.add_assoc] at k1 k2
      clear hbc
      clear hq hcs
      go_wp2
      (refine region_drew (by kernel_rfl) (by kernel_rfl) ?_; (repeat (go_big_quiet_step (fail))); refine wpQuiet_nil ?_; rintro _ ⟨nq, rfl⟩)
      go_wp2
      go_roundw
      case rel => exact ⟨j + 1, by omega, by go_num, hxr.drewN _⟩
      case measure => simp [intOf]; omega
    · obtain rfl : j = c.body.length := by omega
      go_wp2
      go_ret
      exact ⟨rfl, hWW.trans hxr⟩
end Go.Proofs.Ytipfcfaigbeakaa

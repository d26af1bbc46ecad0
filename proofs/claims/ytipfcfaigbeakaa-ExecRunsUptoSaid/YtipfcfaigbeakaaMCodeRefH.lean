/-
  The walks of the document's own checker: a program whose parts are not as they must be is refused; the answer to all programs.
  Conditions: none.
-/
import Derived.Test.YtipfcfaigbeakaaMCodeRefG
namespace Go.Proofs.Ytipfcfaigbeakaa
open Go.RowKit
set_option maxRecDepth 100000

set_option maxHeartbeats 4000000 in
theorem refCheck_bad (c : CodeV) (kv iv bv : Value) (w : World) (h : CodeIn w kv iv bv c) (hbl : c.body.length ≤ 60000) (hkl : c.kinds.length ≤ 8000) (hst : c.stack ≤ 64) (f1 : 0 ≤ c.ins) (f2 : 0 ≤ c.outs) (f3 : 0 ≤ c.cells) (f4 : 0 ≤ c.stack) (f5 : c.ins + c.outs + c.cells ≤ c.kinds.length) (hfv : formedV c = false) :
    Calls Try.prog 19 #[codeA c kv iv bv] w fun e w' => e = .returned (.int .i64 40) ∧ Ext w w' := by
  obtain ⟨⟨ak, ck, rfl, hk1, hk2, hkc⟩, ⟨ai, ci, rfl, hi1, hi2, hic⟩, ⟨ab, cb, rfl, hb1, hb2, hbc⟩⟩ := id h
  have HK := Lib.hid hkc
  have HI := Lib.hid hic
  have HB := Lib.hid hbc
  have HFV := Lib.hid hfv
  clear hkc hic hbc hfv
  have hln := nat64 hk1 hk2
  have hin := nat64 hi1 hi2
  have hbn := nat64 hb1 hb2
  clear hk1 hk2 hi1 hi2 hb1 hb2
  simp only [codeA]
  go_enter Try.func19, Try.ntmps19
  go_wp2
  go_loop [4] (fun i => ∃ j : Nat, j ≤ c.kinds.length ∧ i = .int .i64 j ∧ Hid (∀ (k : Nat) (x : Int), k < j → c.kinds[k]? = some x → width x ≠ 0)) (fun i => c.kinds.length - (intOf i).toNat)
  case atStart => exact ⟨0, Nat.zero_le _, rfl, Lib.hid fun k x hk => by omega⟩
  case round =>
    obtain ⟨j, hj, rfl, HA⟩ := hrel
    by_cases hlt : j < c.kinds.length
    · obtain ⟨x, hx⟩ : ∃ x, c.kinds[j]? = some x := ⟨_, List.getElem?_eq_getElem hlt⟩
      obtain ⟨b, o, rfl, hcell⟩ := HK.out j (.int .i64 x) (by simp [hx])
      have hbz2 : b < w.heap.size := World.block_lt_of_cell? w _ hcell
      have HX := Lib.hid hx
      clear hx
      by_cases hw0 : width x = 0
      · have hw : (width x == 0) = true := by simpa using hw0
        clear hw0
        go_wp2_with (first | (go_at_call 44; refine (refWidth_any _ _).mono ?_; rintro e w1 ⟨rfl, rfl⟩))
        go_ret
        exact ⟨rfl, (by repeat first | exact Ext.refl _ | assumption | refine Ext.drew ?_ | refine Ext.drewN ?_ _ | refine Ext.extBy ?_ _ | refine Ext.alloc ?_ _ | refine Ext.setCell ?_ (by simp; try omega) _ | (refine Ext.trans ?_ (by assumption)))⟩
      · have hw : (width x == 0) = false := by simpa using hw0
        have HA' : Hid (∀ (k : Nat) (y : Int), k < j + 1 → c.kinds[k]? = some y → width y ≠ 0) := Lib.hid fun k y hk hy => by
          by_cases hkj : k = j
          · subst hkj; rw [HX.out] at hy; obtain rfl := Option.some.inj hy; exact hw0
          · exact HA.out k y (by omega) hy
        clear hw0
        go_wp2_with (first | (go_at_call 44; refine (refWidth_any _ _).mono ?_; rintro e w1 ⟨rfl, rfl⟩))
        go_round
        case rel => exact ⟨j + 1, by omega, by go_num, HA'⟩
        case measure => simp [intOf]; omega
    · obtain rfl : j = c.kinds.length := by omega
      clear hlt hj
      by_cases f6 : (c.init.length : Int) = c.cells
      · have HF6 := Lib.hid f6
        have hd4 : ((c.init.length : Int) != c.cells) = false := by simp [f6]
        have hfi : c.cells ≤ (c.init.length : Int) := by omega
        have hfi2 : (c.init.length : Int) ≤ c.cells := by omega
        clear f6
        go_wp2
        go_loopw [5] (fun i wr => ∃ j : Nat, j ≤ c.init.length ∧ i = .int .i64 j ∧ Ext (cbox w c (.slice ak c.kinds.length ck) (.slice ai c.init.length ci) (.slice ab c.body.length cb)) wr ∧ Hid (∀ (k : Nat) (x y : Int), k < j → c.kinds[c.ins.toNat + c.outs.toNat + k]? = some x → c.init[k]? = some y → isk x y = true)) (fun i _ => c.init.length - (intOf i).toNat)
        case atStart => exact ⟨0, Nat.zero_le _, rfl, Ext.refl _, Lib.hid fun k x y hk => by omega⟩
        case round =>
          obtain ⟨j, hj, rfl, hxr, HV⟩ := hrel
          have hbx := BoxIs.of hxr
          obtain ⟨q0, q1, q2, q3, q4, q5, q6⟩ := id hbx
          have hwr : Ext w wr := ((Ext.refl w).alloc _).trans hxr
          by_cases hlt : j < c.init.length
          · obtain ⟨y, hy⟩ : ∃ y, c.init[j]? = some y := ⟨_, List.getElem?_eq_getElem hlt⟩
            have hlk : c.ins.toNat + c.outs.toNat + j < c.kinds.length := by omega
            obtain ⟨x, hx⟩ : ∃ x, c.kinds[c.ins.toNat + c.outs.toNat + j]? = some x := ⟨_, List.getElem?_eq_getElem hlk⟩
            obtain ⟨b, o, rfl, hcell⟩ := HK.out (c.ins.toNat + c.outs.toNat + j) (.int .i64 x) (by simp [hx])
            obtain ⟨b2, o2, rfl, hcell2⟩ := HI.out j (.int .i64 y) (by simp [hy])
            rw [show c.ins.toNat + c.outs.toNat + j = (c.ins + c.outs + (j : Int)).toNat by omega] at hcell
            have g1 := hwr.cell hcell
            have g2 := hwr.cell hcell2
            have hp1 : IntKind.i64.wrap (c.ins + c.outs) = c.ins + c.outs := IntWalk.i64_in _ (by omega)
            have hp2 : IntKind.i64.wrap (c.ins + c.outs + (j : Int)) = c.ins + c.outs + (j : Int) := IntWalk.i64_in _ (by omega)
            have hp3 : (0 : Int) ≤ c.ins + c.outs + (j : Int) := by omega
            have hp4 : c.ins + c.outs + (j : Int) < (c.kinds.length : Int) := by omega
            have hjc : (j : Int) < c.cells := by omega
            have HX := Lib.hid hx
            have HY := Lib.hid hy
            clear hx hy hbx
            cases hw : isk x y
            · go_wp2
              (refine region_drew (by kernel_rfl) (by kernel_rfl) ?_; (repeat (go_big_quiet_step (exact in_drew (refIs_any _ _ _)))); refine wpQuiet_nil ?_; rintro _ ⟨nq, rfl⟩)
              go_wp2
              go_ret
              exact ⟨rfl, hwr.trans (by repeat first | exact Ext.refl _ | assumption | refine Ext.drew ?_ | refine Ext.drewN ?_ _ | refine Ext.extBy ?_ _ | refine Ext.alloc ?_ _ | refine Ext.setCell ?_ (by simp; try omega) _ | (refine Ext.trans ?_ (by assumption)))⟩
            · have HV' : Hid (∀ (k : Nat) (x y : Int), k < j + 1 → c.kinds[c.ins.toNat + c.outs.toNat + k]? = some x → c.init[k]? = some y → isk x y = true) := Lib.hid fun k x' y' hk hx' hy' => by
                by_cases hkj : k = j
                · subst hkj; rw [HX.out] at hx'; rw [HY.out] at hy'; obtain rfl := Option.some.inj hx'; obtain rfl := Option.some.inj hy'; exact hw
                · exact HV.out k x' y' (by omega) hx' hy'
              go_wp2
              (refine region_drew (by kernel_rfl) (by kernel_rfl) ?_; (repeat (go_big_quiet_step (exact in_drew (refIs_any _ _ _)))); refine wpQuiet_nil ?_; rintro _ ⟨nq, rfl⟩)
              go_wp2
              go_roundw
              case rel => exact ⟨j + 1, by omega, by go_num, (by repeat first | exact Ext.refl _ | assumption | refine Ext.drew ?_ | refine Ext.drewN ?_ _ | refine Ext.extBy ?_ _ | refine Ext.alloc ?_ _ | refine Ext.setCell ?_ (by simp; try omega) _ | (refine Ext.trans ?_ (by assumption))), HV'⟩
              case measure => simp [intOf]; omega
          · obtain rfl : j = c.init.length := by omega
            clear hlt hj
            by_cases hb0 : c.body.length = 0
            · have hd5 : ((c.body.length : Int) == 0) = true := by simp [hb0]
              clear hb0
              go_wp2
              go_ret
              exact ⟨rfl, hwr⟩
            · have hd5 : ((c.body.length : Int) == 0) = false := by rw [beq_eq_false_iff_ne]; omega
              obtain ⟨ql, hql⟩ : ∃ q, c.body[c.body.length - 1]? = some q := ⟨_, List.getElem?_eq_getElem (by omega)⟩
              obtain ⟨bb, ob, rfl, hlast⟩ := HB.out ((c.body.length - 1) * 3) _ (insCells_at c.body _ ql hql).1
              have hl1 := hwr.cell hlast
              have hb1' : 1 ≤ c.body.length := by omega
              have HQL := Lib.hid hql
              clear hql hb0 hlast
              by_cases h9 : ql.op = 9
              · have H9 := Lib.hid h9
                rw [h9] at hl1
                clear h9
                go_wp2
                go_loop [7] (fun i => ∃ j : Nat, j ≤ c.body.length ∧ i = .int .i64 j ∧ Hid (∀ (k : Nat) (q : InsV), k < j → c.body[k]? = some q → 1 ≤ q.op ∧ q.op ≤ 9)) (fun i => c.body.length - (intOf i).toNat)
                case atStart => exact ⟨0, Nat.zero_le _, rfl, Lib.hid fun k x hk => by omega⟩
                case round =>
                  obtain ⟨j, hj, rfl, HO⟩ := hrel
                  by_cases hlt : j < c.body.length
                  · obtain ⟨q, hq⟩ : ∃ q, c.body[j]? = some q := ⟨_, List.getElem?_eq_getElem hlt⟩
                    obtain ⟨b, o, e0, g0⟩ := HB.out (j * 3) _ (insCells_at c.body j q hq).1
                    simp only [Option.some.injEq, Addr.mk.injEq] at e0
                    obtain ⟨rfl, rfl, -⟩ := e0
                    have g1 := hwr.cell g0
                    have HQ := Lib.hid hq
                    clear hq g0
                    by_cases ho1 : q.op < 1
                    · go_wp2
                      go_ret
                      exact ⟨rfl, hwr⟩
                    · by_cases ho2 : 9 < q.op
                      · go_wp2
                        go_ret
                        exact ⟨rfl, hwr⟩
                      · have HO' : Hid (∀ (k : Nat) (q : InsV), k < j + 1 → c.body[k]? = some q → 1 ≤ q.op ∧ q.op ≤ 9) := Lib.hid fun k y hk hy => by
                          by_cases hkj : k = j
                          · subst hkj; rw [HQ.out] at hy; obtain rfl := Option.some.inj hy; omega
                          · exact HO.out k y (by omega) hy
                        go_wp2
                        go_round
                        case rel => exact ⟨j + 1, by omega, by go_num, HO'⟩
                        case measure => simp [intOf]; omega
                  · exfalso
                    have hT := of_formed (c := c) ⟨f1, f2, f3, f4, f5, fun k x hk => HA.out k x (List.getElem?_eq_some_iff.1 hk).1 hk, HF6.out, fun k x y hx hy => HV.out k x y (List.getElem?_eq_some_iff.1 hy).1 hx hy, by rw [List.getLast?_eq_getElem?, HQL.out]; simp [H9.out], fun k q hq => HO.out k q (by have := (List.getElem?_eq_some_iff.1 hq).1; omega) hq⟩
                    rw [HFV.out] at hT
                    cases hT
              · have hd6 : (ql.op != 9) = true := by simpa using h9
                clear h9
                go_wp2
                go_ret
                exact ⟨rfl, hwr⟩
      · have hd4 : ((c.init.length : Int) != c.cells) = true := by simpa using f6
        clear f6
        go_wp2
        go_ret
        exact ⟨rfl, (by repeat first | exact Ext.refl _ | assumption | refine Ext.drew ?_ | refine Ext.drewN ?_ _ | refine Ext.extBy ?_ _ | refine Ext.alloc ?_ _ | refine Ext.setCell ?_ (by simp; try omega) _ | (refine Ext.trans ?_ (by assumption)))⟩

theorem refCheck_any (c : CodeV) (kv iv bv : Value) (w : World) (h : CodeIn w kv iv bv c) :
    Calls Try.prog 19 #[codeA c kv iv bv] w fun e w' => e = .returned (.int .i64 (chk c)) ∧ Ext w w' := by
  unfold chk
  by_cases hz : 60000 < c.body.length ∨ 8000 < c.kinds.length ∨ 64 < c.stack
  · rw [if_pos hz]; exact refCheck_long c kv iv bv w h hz
  · rw [if_neg hz]
    cases hfv : formedV c
    · rw [if_pos rfl]
      by_cases hn : c.ins < 0 ∨ c.outs < 0 ∨ c.cells < 0 ∨ c.stack < 0 ∨ (c.kinds.length : Int) < c.ins + c.outs + c.cells
      · exact refCheck_neg c kv iv bv w h (by omega) (by omega) (by omega) hn
      · exact refCheck_bad c kv iv bv w h (by omega) (by omega) (by omega) (by omega) (by omega) (by omega) (by omega) (by omega) hfv
    · rw [if_neg (by decide)]
      exact refCheck_run c kv iv bv w h (by omega) (by omega) (by omega) (formed_of hfv)
end Go.Proofs.Ytipfcfaigbeakaa

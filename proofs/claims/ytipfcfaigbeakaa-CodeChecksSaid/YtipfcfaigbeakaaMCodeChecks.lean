/-
  The law on code that is checked: its walk.
  No condition.
-/
import Derived.Test.YtipfcfaigbeakaaJLaw
import Derived.Test.YtipfcfaigbeakaaMCodeRefH
namespace Go.Proofs.Ytipfcfaigbeakaa
open Go.RowKit
set_option maxRecDepth 100000

set_option maxHeartbeats 1000000 in
theorem codeChecks_any (c : CodeV) (kv iv bv : Value) (w : World) (h : CodeIn w kv iv bv c) :
    Calls Try.prog 3 #[codeA c kv iv bv] w fun e w' => e = .returned (.bool true) ∧ Ext w w' := by
  have HC : Hid (∀ w', Ext w w' → Calls Try.prog 17 #[codeA c kv iv bv] w' fun e w1 => e = .returned (.int .i64 (chk c)) ∧ Ext w' w1) := Lib.hid fun w' hx => check_any c kv iv bv w' (h.ext hx)
  have HR : Hid (∀ w', Ext w w' → Calls Try.prog 19 #[codeA c kv iv bv] w' fun e w1 => e = .returned (.int .i64 (chk c)) ∧ Ext w' w1) := Lib.hid fun w' hx => refCheck_any c kv iv bv w' (h.ext hx)
  have HB : Hid (∀ w', Ext w w' → Calls Try.prog 16 #[codeA c kv iv bv] w' fun e w1 => e = .returned (.bool (bigV c)) ∧ Ext w' w1) := Lib.hid fun w' hx => big_any c kv iv bv w' (h.ext hx)
  obtain ⟨x, hx⟩ : ∃ x, x = chk c := ⟨_, rfl⟩
  obtain ⟨b, hb⟩ : ∃ b, b = bigV c := ⟨_, rfl⟩
  rw [← hx] at HC
  rw [← hx] at HR
  rw [← hb] at HB
  clear hx hb
  simp only [codeA] at HC HR HB ⊢
  cases b
  all_goals
    go_enter Try.func3, Try.ntmps3
    go_wp2_with (first | (go_at_call 15; refine (alive_any _).mono ?_; rintro e w1 ⟨rfl, hx1⟩; (first | (with_reducible obtain ⟨t1, rfl⟩ := Ext.tok2 hx1) | (obtain ⟨t1, rfl⟩ := Ext.tok hx1))) | (go_at_call 16; refine (HB.out _ (by repeat first | exact Ext.refl _ | assumption | refine Ext.drew ?_ | refine Ext.drewN ?_ _ | refine Ext.extBy ?_ _ | refine Ext.alloc ?_ _ | refine Ext.setCell ?_ (by simp; try omega) _ | (refine Ext.trans ?_ (by assumption)))).mono ?_; rintro e w2 ⟨rfl, hx2⟩; (first | (with_reducible obtain ⟨t2, rfl⟩ := Ext.tok2 hx2) | (obtain ⟨t2, rfl⟩ := Ext.tok hx2))) | (go_at_call 17; refine (HC.out _ (by repeat first | exact Ext.refl _ | assumption | refine Ext.drew ?_ | refine Ext.drewN ?_ _ | refine Ext.extBy ?_ _ | refine Ext.alloc ?_ _ | refine Ext.setCell ?_ (by simp; try omega) _ | (refine Ext.trans ?_ (by assumption)))).mono ?_; rintro e w3 ⟨rfl, hx3⟩; (first | (with_reducible obtain ⟨t3, rfl⟩ := Ext.tok2 hx3) | (obtain ⟨t3, rfl⟩ := Ext.tok hx3))) | ((first | (with_reducible refine region_ext2 (by kernel_rfl) (by kernel_rfl) ?_) | refine region_ext (by kernel_rfl) (by kernel_rfl) ?_); (repeat (go_big_quiet_step (first | exact ext_of_same (num19_any _ _) | exact in_same (num19_any _ _) | exact in_ext (HR.out _ (((Ext.refl _).alloc _).trans (Ext.by _ _)))))); refine wpQuiet_nil ?_; rintro _ ⟨t1, rfl⟩))
    go_ret
    exact ⟨rfl, (by repeat first | exact Ext.refl _ | assumption | refine Ext.drew ?_ | refine Ext.drewN ?_ _ | refine Ext.extBy ?_ _ | refine Ext.alloc ?_ _ | refine Ext.setCell ?_ (by simp; try omega) _ | (refine Ext.trans ?_ (by assumption)))⟩
end Go.Proofs.Ytipfcfaigbeakaa

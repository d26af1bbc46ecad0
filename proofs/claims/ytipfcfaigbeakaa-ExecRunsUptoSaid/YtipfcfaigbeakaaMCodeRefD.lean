/-
  The walks of the document's own checker: what an instruction does to the kinds on the stack (4, 7, 8, 9).
  Conditions: the stack is no higher than 64.
-/
import Derived.Test.YtipfcfaigbeakaaMCodeRefC
namespace Go.Proofs.Ytipfcfaigbeakaa
open Go.RowKit
set_option maxRecDepth 100000

theorem runv_snd (op k a : Int) : (runv op k a).2 = (unv op k a).2 := by
  unfold runv unv
  split
  · rfl
  · by_cases h1 : op = 1
    · rw [if_pos h1, if_pos h1]; split <;> rfl
    · rw [if_neg h1, if_neg h1]
      by_cases h2 : op = 2
      · by_cases hk : k = 1
        · rw [if_neg (by simp [hk]), if_pos h2, if_pos hk]
        · rw [if_pos ⟨h2, hk⟩, if_pos h2, if_neg hk]
      · rw [if_neg (fun h => h2 h.1), if_neg h2]

set_option maxHeartbeats 1000000 in
theorem refStep_un_nil (A I : Nat) (c : CodeV) (kv iv bv v : Value) (n k : Int) (w : World) (hv : Stk .i64 A I w v []) :
    Calls Try.prog 46 #[codeA c kv iv bv, .agg #[.int .i64 4, .int .i64 n, .int .i64 k], v] w (StepR A I w none) := by
  obtain ⟨a, cap, rfl⟩ := hv.nil
  clear hv
  simp only [codeA]
  go_enter Try.func46, Try.ntmps46
  go_wp2
  (refine region_drew (by kernel_rfl) (by kernel_rfl) ?_; (repeat (go_big_quiet_step (fail))); refine wpQuiet_nil ?_; rintro _ ⟨nq, rfl⟩)
  go_wp2
  go_ret2
  exact StepR.no (by repeat first | exact Ext.refl _ | assumption | refine Ext.drew ?_ | refine Ext.drewN ?_ _ | refine Ext.extBy ?_ _ | refine Ext.alloc ?_ _ | refine Ext.setCell ?_ (by simp; try omega) _ | (refine Ext.trans ?_ (by assumption))) rfl
set_option maxHeartbeats 1000000 in
theorem refStep_un (A I : Nat) (c : CodeV) (kv iv bv v : Value) (n k x : Int) (r : List Int) (w : World) (hl : r.length ≤ 64) (hv : Stk .i64 A I w v (r ++ [x])) :
    Calls Try.prog 46 #[codeA c kv iv bv, .agg #[.int .i64 4, .int .i64 n, .int .i64 k], v] w (StepR A I w (if x = k ∧ (unv n k 0).2 = true then some (r ++ [x]) else none)) := by
  have HV := Lib.hid hv
  obtain ⟨b, o, cap, rfl, hbz, hcell, hwn, hcap, hst⟩ := hv.top
  clear hv hst
  generalize hm : r.length = m at *
  have HM := Lib.hid hm
  clear hm
  simp only [codeA]
  have hd5 : decide ((m : Int) < 0) = false := decide_eq_false (by omega)
  have hd6 : (0 : Int) ≤ (m : Int) := by omega
  have hd7 : (m : Int) < (m : Int) + 1 := by omega
  by_cases hx : x = k
  · obtain ⟨b2, hb2⟩ : ∃ b2, b2 = (unv n k 0).2 := ⟨_, rfl⟩
    obtain ⟨rr, hr⟩ : ∃ rr, rr = (if x = k ∧ (unv n k 0).2 = true then some (r ++ [x]) else none) := ⟨_, rfl⟩
    rw [← hr]
    have HR := Lib.hid hr
    have HB := Lib.hid hb2
    have hd4 : (x != k) = false := by simp [hx]
    have HX := Lib.hid hx
    clear hx hr hb2
    have hrs := Lib.hid (runv_snd n k 0)
    go_enter Try.func46, Try.ntmps46
    go_wp2
    (refine region_drew (by kernel_rfl) (by kernel_rfl) ?_; (repeat (go_big_quiet_step (fail))); refine wpQuiet_nil ?_; rintro _ ⟨nq, rfl⟩)
    go_wp2_with (first | (go_at_call 60; refine (refUn_any _ _ _ _).mono ?_; rintro e w1 ⟨he, hx1⟩; rw [hrs.out, ← HB.out] at he; subst he; (first | (with_reducible obtain ⟨t1, rfl⟩ := Ext.tok2 hx1) | (obtain ⟨t1, rfl⟩ := Ext.tok hx1))))
    go_ret2
    exact StepR.yes (m := r ++ [x]) (by repeat first | exact Ext.refl _ | assumption | refine Ext.drew ?_ | refine Ext.drewN ?_ _ | refine Ext.extBy ?_ _ | refine Ext.alloc ?_ _ | refine Ext.setCell ?_ (by simp; try omega) _ | (refine Ext.trans ?_ (by assumption))) (by rw [HR.out, ← HB.out]; cases b2 <;> simp [HX.out]) (fun m' hm => by rw [HR.out] at hm; split at hm <;> simp_all) ⟨_, _, _, rfl⟩ (fun m' hm => HV.out.ext (by repeat first | exact Ext.refl _ | assumption | refine Ext.drew ?_ | refine Ext.drewN ?_ _ | refine Ext.extBy ?_ _ | refine Ext.alloc ?_ _ | refine Ext.setCell ?_ (by simp; try omega) _ | (refine Ext.trans ?_ (by assumption))))
  · rw [if_neg (fun h => hx h.1)]
    have hd4 : (x != k) = true := by simpa using hx
    clear hx
    go_enter Try.func46, Try.ntmps46
    go_wp2
    (refine region_drew (by kernel_rfl) (by kernel_rfl) ?_; (repeat (go_big_quiet_step (fail))); refine wpQuiet_nil ?_; rintro _ ⟨nq, rfl⟩)
    go_wp2
    go_ret2
    exact StepR.no (by repeat first | exact Ext.refl _ | assumption | refine Ext.drew ?_ | refine Ext.drewN ?_ _ | refine Ext.extBy ?_ _ | refine Ext.alloc ?_ _ | refine Ext.setCell ?_ (by simp; try omega) _ | (refine Ext.trans ?_ (by assumption))) rfl

set_option maxHeartbeats 1000000 in
theorem refStep_jump (A I : Nat) (c : CodeV) (kv iv bv v : Value) (n k : Int) (l : List Int) (w : World) (hl : l.length ≤ 64) (hv : Stk .i64 A I w v l) :
    Calls Try.prog 46 #[codeA c kv iv bv, .agg #[.int .i64 7, .int .i64 n, .int .i64 k], v] w (StepR A I w (if k = 0 then some l else none)) := by
  have HV := Lib.hid hv
  obtain ⟨a, cap, rfl, hnc, hcm, _⟩ := id hv.1
  have hwn := nat64 hnc hcm
  clear hv hnc hcm
  obtain ⟨rr, hr⟩ : ∃ rr, rr = (if k = 0 then some l else none) := ⟨_, rfl⟩
  rw [← hr]
  have HR := Lib.hid hr
  clear hr
  simp only [codeA]
  go_enter Try.func46, Try.ntmps46
  go_wp2
  (refine region_drew (by kernel_rfl) (by kernel_rfl) ?_; (repeat (go_big_quiet_step (fail))); refine wpQuiet_nil ?_; rintro _ ⟨nq, rfl⟩)
  go_wp2
  go_ret2
  exact StepR.yes (m := l) (by repeat first | exact Ext.refl _ | assumption | refine Ext.drew ?_ | refine Ext.drewN ?_ _ | refine Ext.extBy ?_ _ | refine Ext.alloc ?_ _ | refine Ext.setCell ?_ (by simp; try omega) _ | (refine Ext.trans ?_ (by assumption))) (by rw [HR.out]; by_cases h : k = 0 <;> simp [h]) (fun m' hm => by rw [HR.out] at hm; split at hm <;> simp_all) ⟨_, _, _, rfl⟩ (fun m' hm => HV.out.ext (by repeat first | exact Ext.refl _ | assumption | refine Ext.drew ?_ | refine Ext.drewN ?_ _ | refine Ext.extBy ?_ _ | refine Ext.alloc ?_ _ | refine Ext.setCell ?_ (by simp; try omega) _ | (refine Ext.trans ?_ (by assumption))))

set_option maxHeartbeats 1000000 in
theorem refStep_end (A I : Nat) (c : CodeV) (kv iv bv v : Value) (n k : Int) (l : List Int) (w : World) (hl : l.length ≤ 64) (hv : Stk .i64 A I w v l) :
    Calls Try.prog 46 #[codeA c kv iv bv, .agg #[.int .i64 9, .int .i64 n, .int .i64 k], v] w (StepR A I w (if n = 0 ∧ k = 0 ∧ l = [] then some l else none)) := by
  have HV := Lib.hid hv
  obtain ⟨a, cap, rfl, hnc, hcm, _⟩ := id hv.1
  have hwn := nat64 hnc hcm
  clear hv hnc hcm
  obtain ⟨rr, hr⟩ : ∃ rr, rr = (if n = 0 ∧ k = 0 ∧ l = [] then some l else none) := ⟨_, rfl⟩
  rw [← hr]
  have HR := Lib.hid hr
  clear hr
  simp only [codeA]
  by_cases h1 : n = 0
  · by_cases h2 : k = 0
    · subst h1 h2
      cases l with
      | nil =>
        go_enter Try.func46, Try.ntmps46
        go_wp2
        go_ret2
        exact StepR.yes (m := []) (by repeat first | exact Ext.refl _ | assumption | refine Ext.drew ?_ | refine Ext.drewN ?_ _ | refine Ext.extBy ?_ _ | refine Ext.alloc ?_ _ | refine Ext.setCell ?_ (by simp; try omega) _ | (refine Ext.trans ?_ (by assumption))) (by rw [HR.out]; rfl) (fun m' hm => by rw [HR.out] at hm; simp_all) ⟨_, _, _, rfl⟩ (fun m' hm => HV.out.ext (by repeat first | exact Ext.refl _ | assumption | refine Ext.drew ?_ | refine Ext.drewN ?_ _ | refine Ext.extBy ?_ _ | refine Ext.alloc ?_ _ | refine Ext.setCell ?_ (by simp; try omega) _ | (refine Ext.trans ?_ (by assumption))))
      | cons x l =>
        have hd : (((x :: l).length : Int) == 0) = false := by rw [beq_eq_false_iff_ne]; simp; omega
        go_enter Try.func46, Try.ntmps46
        go_wp2
        go_ret2
        exact StepR.yes (m := x :: l) (by repeat first | exact Ext.refl _ | assumption | refine Ext.drew ?_ | refine Ext.drewN ?_ _ | refine Ext.extBy ?_ _ | refine Ext.alloc ?_ _ | refine Ext.setCell ?_ (by simp; try omega) _ | (refine Ext.trans ?_ (by assumption))) (by rw [HR.out]; rfl) (fun m' hm => by rw [HR.out] at hm; simp_all) ⟨_, _, _, rfl⟩ (fun m' hm => HV.out.ext (by repeat first | exact Ext.refl _ | assumption | refine Ext.drew ?_ | refine Ext.drewN ?_ _ | refine Ext.extBy ?_ _ | refine Ext.alloc ?_ _ | refine Ext.setCell ?_ (by simp; try omega) _ | (refine Ext.trans ?_ (by assumption))))
    · have hd : (k == 0) = false := by simpa using h2
      have H2 := Lib.hid h2
      subst h1
      clear h2
      go_enter Try.func46, Try.ntmps46
      go_wp2
      go_ret2
      exact StepR.yes (m := l) (by repeat first | exact Ext.refl _ | assumption | refine Ext.drew ?_ | refine Ext.drewN ?_ _ | refine Ext.extBy ?_ _ | refine Ext.alloc ?_ _ | refine Ext.setCell ?_ (by simp; try omega) _ | (refine Ext.trans ?_ (by assumption))) (by rw [HR.out]; simp [H2.out]) (fun m' hm => by rw [HR.out] at hm; split at hm <;> simp_all) ⟨_, _, _, rfl⟩ (fun m' hm => HV.out.ext (by repeat first | exact Ext.refl _ | assumption | refine Ext.drew ?_ | refine Ext.drewN ?_ _ | refine Ext.extBy ?_ _ | refine Ext.alloc ?_ _ | refine Ext.setCell ?_ (by simp; try omega) _ | (refine Ext.trans ?_ (by assumption))))
  · have hd : (n == 0) = false := by simpa using h1
    have H1 := Lib.hid h1
    clear h1
    go_enter Try.func46, Try.ntmps46
    go_wp2
    go_ret2
    exact StepR.yes (m := l) (by repeat first | exact Ext.refl _ | assumption | refine Ext.drew ?_ | refine Ext.drewN ?_ _ | refine Ext.extBy ?_ _ | refine Ext.alloc ?_ _ | refine Ext.setCell ?_ (by simp; try omega) _ | (refine Ext.trans ?_ (by assumption))) (by rw [HR.out]; simp [H1.out]) (fun m' hm => by rw [HR.out] at hm; split at hm <;> simp_all) ⟨_, _, _, rfl⟩ (fun m' hm => HV.out.ext (by repeat first | exact Ext.refl _ | assumption | refine Ext.drew ?_ | refine Ext.drewN ?_ _ | refine Ext.extBy ?_ _ | refine Ext.alloc ?_ _ | refine Ext.setCell ?_ (by simp; try omega) _ | (refine Ext.trans ?_ (by assumption))))

set_option maxHeartbeats 1000000 in
theorem refStep_branch_nil (A I : Nat) (c : CodeV) (kv iv bv v : Value) (n k : Int) (w : World) (hv : Stk .i64 A I w v []) :
    Calls Try.prog 46 #[codeA c kv iv bv, .agg #[.int .i64 8, .int .i64 n, .int .i64 k], v] w (StepR A I w none) := by
  obtain ⟨a, cap, rfl⟩ := hv.nil
  clear hv
  simp only [codeA]
  by_cases h1 : k = 0
  · subst h1
    go_enter Try.func46, Try.ntmps46
    go_wp2
    go_ret2
    exact StepR.no (by repeat first | exact Ext.refl _ | assumption | refine Ext.drew ?_ | refine Ext.drewN ?_ _ | refine Ext.extBy ?_ _ | refine Ext.alloc ?_ _ | refine Ext.setCell ?_ (by simp; try omega) _ | (refine Ext.trans ?_ (by assumption))) rfl
  · have hd : (k != 0) = true := by simpa using h1
    clear h1
    go_enter Try.func46, Try.ntmps46
    go_wp2
    go_ret2
    exact StepR.no (by repeat first | exact Ext.refl _ | assumption | refine Ext.drew ?_ | refine Ext.drewN ?_ _ | refine Ext.extBy ?_ _ | refine Ext.alloc ?_ _ | refine Ext.setCell ?_ (by simp; try omega) _ | (refine Ext.trans ?_ (by assumption))) rfl
set_option maxHeartbeats 1000000 in
theorem refStep_branch (A I : Nat) (c : CodeV) (kv iv bv v : Value) (n k x : Int) (r : List Int) (w : World) (hl : r.length ≤ 64) (hv : Stk .i64 A I w v (r ++ [x])) :
    Calls Try.prog 46 #[codeA c kv iv bv, .agg #[.int .i64 8, .int .i64 n, .int .i64 k], v] w (StepR A I w (if k = 0 ∧ x = 1 then some r else none)) := by
  obtain ⟨b, o, cap, rfl, hbz, hcell, hwn, hcap, hst⟩ := hv.top
  clear hv
  generalize hm : r.length = m at *
  have HM := Lib.hid hm
  clear hm
  simp only [codeA]
  by_cases h1 : k = 0
  · subst h1
    by_cases hx : x = 1
    · subst hx
      rw [if_pos ⟨rfl, rfl⟩]
      go_enter Try.func46, Try.ntmps46
      go_wp2
      go_ret2
      exact StepR.yes (m := r) (by repeat first | exact Ext.refl _ | assumption | refine Ext.drew ?_ | refine Ext.drewN ?_ _ | refine Ext.extBy ?_ _ | refine Ext.alloc ?_ _ | refine Ext.setCell ?_ (by simp; try omega) _ | (refine Ext.trans ?_ (by assumption))) rfl (fun m' hm => (Option.some.inj hm).symm) ⟨_, _, _, rfl⟩ (fun m' hm => hst.ext (by repeat first | exact Ext.refl _ | assumption | refine Ext.drew ?_ | refine Ext.drewN ?_ _ | refine Ext.extBy ?_ _ | refine Ext.alloc ?_ _ | refine Ext.setCell ?_ (by simp; try omega) _ | (refine Ext.trans ?_ (by assumption))))
    · rw [if_neg (fun h => hx h.2)]
      have hd : (x != 1) = true := by simpa using hx
      clear hx
      go_enter Try.func46, Try.ntmps46
      go_wp2
      go_ret2
      exact StepR.no (by repeat first | exact Ext.refl _ | assumption | refine Ext.drew ?_ | refine Ext.drewN ?_ _ | refine Ext.extBy ?_ _ | refine Ext.alloc ?_ _ | refine Ext.setCell ?_ (by simp; try omega) _ | (refine Ext.trans ?_ (by assumption))) rfl
  · rw [if_neg (fun h => h1 h.1)]
    have hd : (k != 0) = true := by simpa using h1
    clear h1
    go_enter Try.func46, Try.ntmps46
    go_wp2
    go_ret2
    exact StepR.no (by repeat first | exact Ext.refl _ | assumption | refine Ext.drew ?_ | refine Ext.drewN ?_ _ | refine Ext.extBy ?_ _ | refine Ext.alloc ?_ _ | refine Ext.setCell ?_ (by simp; try omega) _ | (refine Ext.trans ?_ (by assumption))) rfl
end Go.Proofs.Ytipfcfaigbeakaa

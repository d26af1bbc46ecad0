/-
  The walks of the document's own checker: what an instruction does to the kinds on the stack (2 refused, 3, 4).
  Conditions: the stack is no higher than 64.
-/
import Derived.Test.YtipfcfaigbeakaaMCodeRefB
namespace Go.Proofs.Ytipfcfaigbeakaa
open Go.RowKit
set_option maxRecDepth 100000

theorem Stk.top {kd : IntKind} {A I : Nat} {w : World} {v : Value} {r : List Int} {x : Int} (h : Stk kd A I w v (r ++ [x])) :
    ∃ b o cap, v = .slice (some ⟨b, o, none⟩) (r.length + 1) cap ∧ b < w.heap.size ∧ w.cell? ⟨b, o + r.length, none⟩ = some (.int kd x) ∧ wrap64 ((r.length + 1 : Nat) : Int) = ((r.length + 1 : Nat) : Int) ∧ r.length + 1 ≤ cap ∧ Stk kd A I w (.slice (some ⟨b, o, none⟩) r.length cap) r := by
  obtain ⟨h1, h2, h3⟩ := h
  obtain ⟨a, cap, rfl, hnc, hcm, hc⟩ := id h1
  obtain ⟨b, o, rfl, hcell⟩ := hc r.length (.int kd x) (by simp)
  have hl : (r ++ [x]).length = r.length + 1 := by simp
  rw [hl] at h1 h3 hnc
  refine ⟨b, o, cap, by rw [hl], World.block_lt_of_cell? w _ hcell, hcell, nat64 hnc hcm, hnc, h1.take (by omega) (fun j u hu => ?_), fun y hy => h2 y (by simp [hy]), fun b' o' s k c e => ?_⟩
  · rw [List.map_append, List.getElem?_append_left (by have := (List.getElem?_eq_some_iff.1 hu).1; simpa using this)]; exact hu
  · simp only [Value.slice.injEq, Option.some.injEq, Addr.mk.injEq] at e
    obtain ⟨⟨rfl, rfl, rfl⟩, rfl, rfl⟩ := e
    exact h3 _ _ _ _ _ rfl
theorem Stk.nil {kd : IntKind} {A I : Nat} {w : World} {v : Value} (h : Stk kd A I w v []) : ∃ a cap, v = .slice a 0 cap := by
  obtain ⟨⟨a, cap, rfl, _⟩, _⟩ := h
  exact ⟨a, cap, rfl⟩

set_option maxHeartbeats 1000000 in
theorem refStep_load_no (A I : Nat) (c : CodeV) (kv iv bv v : Value) (n k : Int) (l : List Int) (w : World) (hv : Stk .i64 A I w v l) (hkv : SlC w kv c.kinds.length (i64s c.kinds)) (hz : k ≠ 0 ∨ n < 0 ∨ (c.kinds.length : Int) ≤ n) :
    Calls Try.prog 46 #[codeA c kv iv bv, .agg #[.int .i64 2, .int .i64 n, .int .i64 k], v] w (StepR A I w none) := by
  obtain ⟨a, cap, rfl, hnc, hcm, _⟩ := id hv.1
  obtain ⟨ak, ck, rfl, hk1, hk2, _⟩ := hkv
  have hwn := nat64 hnc hcm
  have hln := nat64 hk1 hk2
  clear hnc hcm hk1 hk2 hv
  simp only [codeA]
  by_cases h1 : k = 0
  · by_cases h2 : n < 0
    · have hd1 : (k != 0) = false := by simp [h1]
      clear hz
      go_enter Try.func46, Try.ntmps46
      go_wp2
      go_ret2
      exact StepR.no (by repeat first | exact Ext.refl _ | assumption | refine Ext.drew ?_ | refine Ext.drewN ?_ _ | refine Ext.extBy ?_ _ | refine Ext.alloc ?_ _ | refine Ext.setCell ?_ (by simp; try omega) _ | (refine Ext.trans ?_ (by assumption))) rfl
    · have h3 : (c.kinds.length : Int) ≤ n := by omega
      have hd1 : (k != 0) = false := by simp [h1]
      clear hz
      go_enter Try.func46, Try.ntmps46
      go_wp2
      go_ret2
      exact StepR.no (by repeat first | exact Ext.refl _ | assumption | refine Ext.drew ?_ | refine Ext.drewN ?_ _ | refine Ext.extBy ?_ _ | refine Ext.alloc ?_ _ | refine Ext.setCell ?_ (by simp; try omega) _ | (refine Ext.trans ?_ (by assumption))) rfl
  · have hd1 : (k != 0) = true := by simpa using h1
    clear hz
    go_enter Try.func46, Try.ntmps46
    go_wp2
    go_ret2
    exact StepR.no (by repeat first | exact Ext.refl _ | assumption | refine Ext.drew ?_ | refine Ext.drewN ?_ _ | refine Ext.extBy ?_ _ | refine Ext.alloc ?_ _ | refine Ext.setCell ?_ (by simp; try omega) _ | (refine Ext.trans ?_ (by assumption))) rfl

set_option maxHeartbeats 1000000 in
theorem refStep_save_no (A I : Nat) (c : CodeV) (kv iv bv v : Value) (n k : Int) (l : List Int) (w : World) (hv : Stk .i64 A I w v l) (hkv : SlC w kv c.kinds.length (i64s c.kinds)) (hz : k ≠ 0 ∨ n < c.ins ∨ (c.kinds.length : Int) ≤ n) :
    Calls Try.prog 46 #[codeA c kv iv bv, .agg #[.int .i64 3, .int .i64 n, .int .i64 k], v] w (StepR A I w none) := by
  obtain ⟨a, cap, rfl, hnc, hcm, _⟩ := id hv.1
  obtain ⟨ak, ck, rfl, hk1, hk2, _⟩ := hkv
  have hwn := nat64 hnc hcm
  have hln := nat64 hk1 hk2
  clear hnc hcm hk1 hk2 hv
  simp only [codeA]
  by_cases h1 : k = 0
  · by_cases h2 : n < c.ins
    · have hd1 : (k != 0) = false := by simp [h1]
      have hd2 : decide (n < c.ins) = true := decide_eq_true h2
      clear hz
      go_enter Try.func46, Try.ntmps46
      go_wp2
      (refine region_drew (by kernel_rfl) (by kernel_rfl) ?_; (repeat (go_big_quiet_step (fail))); refine wpQuiet_nil ?_; rintro _ ⟨nq, rfl⟩)
      go_wp2
      go_ret2
      exact StepR.no (by repeat first | exact Ext.refl _ | assumption | refine Ext.drew ?_ | refine Ext.drewN ?_ _ | refine Ext.extBy ?_ _ | refine Ext.alloc ?_ _ | refine Ext.setCell ?_ (by simp; try omega) _ | (refine Ext.trans ?_ (by assumption))) rfl
    · have h3 : (c.kinds.length : Int) ≤ n := by omega
      have hd1 : (k != 0) = false := by simp [h1]
      have hd2 : decide (n < c.ins) = false := decide_eq_false h2
      have hd3 : decide ((c.kinds.length : Int) ≤ n) = true := decide_eq_true h3
      clear hz
      go_enter Try.func46, Try.ntmps46
      go_wp2
      (refine region_drew (by kernel_rfl) (by kernel_rfl) ?_; (repeat (go_big_quiet_step (fail))); refine wpQuiet_nil ?_; rintro _ ⟨nq, rfl⟩)
      go_wp2
      go_ret2
      exact StepR.no (by repeat first | exact Ext.refl _ | assumption | refine Ext.drew ?_ | refine Ext.drewN ?_ _ | refine Ext.extBy ?_ _ | refine Ext.alloc ?_ _ | refine Ext.setCell ?_ (by simp; try omega) _ | (refine Ext.trans ?_ (by assumption))) rfl
  · have hd1 : (k != 0) = true := by simpa using h1
    clear hz
    go_enter Try.func46, Try.ntmps46
    go_wp2
    (refine region_drew (by kernel_rfl) (by kernel_rfl) ?_; (repeat (go_big_quiet_step (fail))); refine wpQuiet_nil ?_; rintro _ ⟨nq, rfl⟩)
    go_wp2
    go_ret2
    exact StepR.no (by repeat first | exact Ext.refl _ | assumption | refine Ext.drew ?_ | refine Ext.drewN ?_ _ | refine Ext.extBy ?_ _ | refine Ext.alloc ?_ _ | refine Ext.setCell ?_ (by simp; try omega) _ | (refine Ext.trans ?_ (by assumption))) rfl

set_option maxHeartbeats 1000000 in
theorem refStep_save_nil (A I : Nat) (c : CodeV) (kv iv bv v : Value) (n : Int) (w : World) (hv : Stk .i64 A I w v []) (hkv : SlC w kv c.kinds.length (i64s c.kinds)) (h2 : ¬ n < c.ins) (h3 : ¬ (c.kinds.length : Int) ≤ n) :
    Calls Try.prog 46 #[codeA c kv iv bv, .agg #[.int .i64 3, .int .i64 n, .int .i64 0], v] w (StepR A I w none) := by
  obtain ⟨a, cap, rfl⟩ := hv.nil
  obtain ⟨ak, ck, rfl, hk1, hk2, _⟩ := hkv
  have hln := nat64 hk1 hk2
  clear hk1 hk2 hv
  simp only [codeA]
  have hd2 : decide (n < c.ins) = false := decide_eq_false h2
  have hd3 : decide ((c.kinds.length : Int) ≤ n) = false := decide_eq_false h3
  go_enter Try.func46, Try.ntmps46
  go_wp2
  (refine region_drew (by kernel_rfl) (by kernel_rfl) ?_; (repeat (go_big_quiet_step (fail))); refine wpQuiet_nil ?_; rintro _ ⟨nq, rfl⟩)
  go_wp2
  go_ret2
  exact StepR.no (by repeat first | exact Ext.refl _ | assumption | refine Ext.drew ?_ | refine Ext.drewN ?_ _ | refine Ext.extBy ?_ _ | refine Ext.alloc ?_ _ | refine Ext.setCell ?_ (by simp; try omega) _ | (refine Ext.trans ?_ (by assumption))) rfl

set_option maxHeartbeats 1000000 in
theorem refStep_save (A I : Nat) (c : CodeV) (kv iv bv v : Value) (n x kk : Int) (r : List Int) (w : World) (hl : r.length ≤ 64) (hv : Stk .i64 A I w v (r ++ [x])) (hkv : SlC w kv c.kinds.length (i64s c.kinds)) (h2 : ¬ n < c.ins) (h4 : 0 ≤ n) (hkk : c.kinds[n.toNat]? = some kk) :
    Calls Try.prog 46 #[codeA c kv iv bv, .agg #[.int .i64 3, .int .i64 n, .int .i64 0], v] w (StepR A I w (if x = kk then some r else none)) := by
  have h5 : n.toNat < c.kinds.length := (List.getElem?_eq_some_iff.1 hkk).1
  have h3 : n < (c.kinds.length : Int) := by omega
  obtain ⟨b, o, cap, rfl, hbz, hcell, hwn, hcap, hst⟩ := hv.top
  obtain ⟨ak, ck, rfl, hk1, hk2, hkc⟩ := hkv
  obtain ⟨b2, o2, rfl, hcell2⟩ := hkc n.toNat (.int .i64 kk) (by simp [hkk])
  have hbz2 : b2 < w.heap.size := World.block_lt_of_cell? w _ hcell2
  have hln := nat64 hk1 hk2
  clear hk1 hk2 hv hkc hkk h5
  generalize hm : r.length = m at *
  have HM := Lib.hid hm
  clear hm
  simp only [codeA]
  have hd2 : decide (n < c.ins) = false := decide_eq_false h2
  have hd3 : decide ((c.kinds.length : Int) ≤ n) = false := decide_eq_false (by omega)
  have hd5 : decide ((m : Int) < 0) = false := decide_eq_false (by omega)
  have hd6 : (0 : Int) ≤ (m : Int) := by omega
  have hd7 : (m : Int) < (m : Int) + 1 := by omega
  by_cases hx : x = kk
  · rw [if_pos hx]
    have hd4 : (x != kk) = false := by simp [hx]
    clear hx
    go_enter Try.func46, Try.ntmps46
    go_wp2
    (refine region_drew (by kernel_rfl) (by kernel_rfl) ?_; (repeat (go_big_quiet_step (fail))); refine wpQuiet_nil ?_; rintro _ ⟨nq, rfl⟩)
    go_wp2
    go_ret2
    exact StepR.yes (m := r) (by repeat first | exact Ext.refl _ | assumption | refine Ext.drew ?_ | refine Ext.drewN ?_ _ | refine Ext.extBy ?_ _ | refine Ext.alloc ?_ _ | refine Ext.setCell ?_ (by simp; try omega) _ | (refine Ext.trans ?_ (by assumption))) rfl (fun m' hm => (Option.some.inj hm).symm) ⟨_, _, _, rfl⟩ (fun m' hm => hst.ext (by repeat first | exact Ext.refl _ | assumption | refine Ext.drew ?_ | refine Ext.drewN ?_ _ | refine Ext.extBy ?_ _ | refine Ext.alloc ?_ _ | refine Ext.setCell ?_ (by simp; try omega) _ | (refine Ext.trans ?_ (by assumption))))
  · rw [if_neg hx]
    have hd4 : (x != kk) = true := by simpa using hx
    clear hx
    go_enter Try.func46, Try.ntmps46
    go_wp2
    (refine region_drew (by kernel_rfl) (by kernel_rfl) ?_; (repeat (go_big_quiet_step (fail))); refine wpQuiet_nil ?_; rintro _ ⟨nq, rfl⟩)
    go_wp2
    go_ret2
    exact StepR.no (by repeat first | exact Ext.refl _ | assumption | refine Ext.drew ?_ | refine Ext.drewN ?_ _ | refine Ext.extBy ?_ _ | refine Ext.alloc ?_ _ | refine Ext.setCell ?_ (by simp; try omega) _ | (refine Ext.trans ?_ (by assumption))) rfl
end Go.Proofs.Ytipfcfaigbeakaa

/-
  The walks of the document's own checker: what an instruction does to the kinds on the stack (5, 6).
  Conditions: the stack is no higher than 64.
-/
import Derived.Test.YtipfcfaigbeakaaMCodeRefD
namespace Go.Proofs.Ytipfcfaigbeakaa
open Go.RowKit
set_option maxRecDepth 100000

set_option maxHeartbeats 1000000 in
theorem refStep_cast_nil (A I : Nat) (c : CodeV) (kv iv bv v : Value) (n k : Int) (w : World) (hv : Stk .i64 A I w v []) :
    Calls Try.prog 46 #[codeA c kv iv bv, .agg #[.int .i64 6, .int .i64 n, .int .i64 k], v] w (StepR A I w none) := by
  obtain ⟨a, cap, rfl⟩ := hv.nil
  clear hv
  simp only [codeA]
  go_enter Try.func46, Try.ntmps46
  go_wp2
  (refine region_drew (by kernel_rfl) (by kernel_rfl) ?_; (repeat (go_big_quiet_step (fail))); refine wpQuiet_nil ?_; rintro _ ⟨nq, rfl⟩)
  go_wp2
  go_ret2
  exact StepR.no (by repeat first | exact Ext.refl _ | assumption | refine Ext.drew ?_ | refine Ext.drewN ?_ _ | refine Ext.extBy ?_ _ | refine Ext.alloc ?_ _ | refine Ext.setCell ?_ (by simp; try omega) _ | (refine Ext.trans ?_ (by assumption))) rfl
set_option maxHeartbeats 2000000 in
theorem refStep_cast (A I : Nat) (c : CodeV) (kv iv bv v : Value) (n k x : Int) (r : List Int) (w : World) (hA : A < w.heap.size) (hI : I < w.heap.size) (hl : r.length ≤ 64) (hv : Stk .i64 A I w v (r ++ [x])) :
    Calls Try.prog 46 #[codeA c kv iv bv, .agg #[.int .i64 6, .int .i64 n, .int .i64 k], v] w (StepR A I w (if x = n ∧ 0 < width k then some (r ++ [k]) else none)) := by
  obtain ⟨b, o, cap, rfl, hbz, hcell, hwn, hcap, hst⟩ := hv.top
  have hs0 := Lib.hid hst.1
  have hlb := Lib.hid hst.2.1
  clear hv hst
  obtain ⟨m, hm⟩ : ∃ m, m = r.length := ⟨_, rfl⟩
  rw [← hm] at hl hcell hwn hcap hs0 ⊢
  have HM := Lib.hid hm
  clear hm
  simp only [codeA]
  have hd5 : decide ((m : Int) < 0) = false := decide_eq_false (by omega)
  have hd6 : (0 : Int) ≤ (m : Int) := by omega
  have hd7 : (m : Int) < (m : Int) + 1 := by omega
  have hd9 : (m : Int) ≤ (cap : Int) := by omega
  by_cases hx : x = n
  · have hd4 : (x != n) = false := by simp [hx]
    by_cases hw : 0 < width k
    · rw [if_pos ⟨hx, hw⟩]
      have hd8 : (width k == 0) = false := by rw [beq_eq_false_iff_ne]; omega
      have hwb := width_bd hw
      have HSB : Hid (∀ w', Ext (rbox w c kv iv bv 6 n k) w' → w'.cell? ⟨w.heap.size + 1, 2, none⟩ = some (.int .i64 k)) := Lib.hid fun w' hx => hx.cell (by go_simp)
      clear hx hw
      go_enter Try.func46, Try.ntmps46
      go_wp2
      (refine region_drew (by kernel_rfl) (by kernel_rfl) ?_; (repeat (go_big_quiet_step (exact in_drew (refWidth_any _ _)))); refine wpQuiet_nil ?_; rintro _ ⟨nq, rfl⟩)
      go_wp2
      go_region_held3 (fun w' => w'.cell? ⟨w.heap.size + 1, 2, none⟩ = some (.int .i64 k))
        (first | exact HSB.out _ (by repeat first | exact Ext.refl _ | assumption | refine Ext.drew ?_ | refine Ext.drewN ?_ _ | refine Ext.extBy ?_ _ | refine Ext.alloc ?_ _ | refine Ext.setCell ?_ (by simp; try omega) _ | (refine Ext.trans ?_ (by assumption))))
        (first
          | (refine step_append_slc _ rfl (.const (.slice none 0 0)) (.tmp 187) 22 rfl (w.heap.size + 2) 3 (.int .i64 0) 1 8 Try.underlying22 infoInt rfl (by decide) (.slice none 0 0) 0 [] rfl (own_nil _ _ _ _) _ m (i64s r) rfl (hs0.out.ext (by repeat first | exact Ext.refl _ | assumption | refine Ext.drew ?_ | refine Ext.drewN ?_ _ | refine Ext.extBy ?_ _ | refine Ext.alloc ?_ _ | refine Ext.setCell ?_ (by simp; try omega) _ | (refine Ext.trans ?_ (by assumption)))) (by simp; exact HM.out.symm) (one_i64s r) (by unfold maxLen; omega) (by omega) (by simp) ?_; intro v1 w1 hown1 hg1 hat1; have hE1 := ext_grown_nil hg1)
          | (refine step_append_slc _ rfl (.tmp 188) (.tmp 191) 22 rfl (w.heap.size + 2) 3 (.int .i64 0) 1 8 Try.underlying22 infoInt rfl (by decide) v1 (0 + m) ([] ++ i64s r) rfl (by first | exact hown1 | exact hown1.alloc _) _ 1 [.int .i64 k] rfl (by first | exact SlC.fresh _ #[.int .i64 k] _ 1 _ (by simp) (by decide) | exact (fresh_drew _ #[.int .i64 k] _ 1 _ (by simp) (by decide)).ext hE1 | exact (SlC.fresh _ #[.int .i64 k] _ 1 _ (by simp) (by decide)).ext hE1) (by simp) (by simp [Value.oneCell']) (by unfold maxLen; omega) (by omega) (by have := hE1.size; simp at this ⊢; omega) ?_; intro v2 w2 hown2 hg2 hat2; have hE2 : Ext (rbox w c kv iv bv 6 n k) w2 := below_grown (base := w.heap.size + 2) (show Below (rbox w c kv iv bv 6 n k).heap.size (rbox w c kv iv bv 6 n k) _ from (by repeat first | exact Ext.refl _ | assumption | refine Ext.drew ?_ | refine Ext.drewN ?_ _ | refine Ext.extBy ?_ _ | refine Ext.alloc ?_ _ | refine Ext.setCell ?_ (by simp; try omega) _ | (refine Ext.trans ?_ (by assumption)))) (by simp) (by have := hE1.size; simp at this ⊢; omega) (by first | exact hown1 | exact hown1.alloc _) hg2))
      all_goals
        go_wp2
        go_ret2
        exact StepR.yes (m := r ++ [k]) ((show Ext w (rbox w c kv iv bv 6 n k) from ((Ext.refl _).alloc _).alloc _).trans hE2) rfl (fun m' hm => (Option.some.inj hm).symm) (own_slice hown2) (fun m' hm => Stk.own hown2 (by simp; exact HM.out) (by simp) (snoc_bd hlb.out (by omega)) (by omega) (by omega))
    · rw [if_neg (fun h => hw h.2)]
      have hd8 : (width k == 0) = true := by have := width_cases k; rw [beq_iff_eq]; omega
      clear hx hw
      go_enter Try.func46, Try.ntmps46
      go_wp2
      (refine region_drew (by kernel_rfl) (by kernel_rfl) ?_; (repeat (go_big_quiet_step (exact in_drew (refWidth_any _ _)))); refine wpQuiet_nil ?_; rintro _ ⟨nq, rfl⟩)
      go_wp2
      go_ret2
      exact StepR.no (by repeat first | exact Ext.refl _ | assumption | refine Ext.drew ?_ | refine Ext.drewN ?_ _ | refine Ext.extBy ?_ _ | refine Ext.alloc ?_ _ | refine Ext.setCell ?_ (by simp; try omega) _ | (refine Ext.trans ?_ (by assumption))) rfl
  · rw [if_neg (fun h => hx h.1)]
    have hd4 : (x != n) = true := by simpa using hx
    clear hx
    go_enter Try.func46, Try.ntmps46
    go_wp2
    (refine region_drew (by kernel_rfl) (by kernel_rfl) ?_; (repeat (go_big_quiet_step (exact in_drew (refWidth_any _ _)))); refine wpQuiet_nil ?_; rintro _ ⟨nq, rfl⟩)
    go_wp2
    go_ret2
    exact StepR.no (by repeat first | exact Ext.refl _ | assumption | refine Ext.drew ?_ | refine Ext.drewN ?_ _ | refine Ext.extBy ?_ _ | refine Ext.alloc ?_ _ | refine Ext.setCell ?_ (by simp; try omega) _ | (refine Ext.trans ?_ (by assumption))) rfl

theorem Stk.init {kd : IntKind} {A I : Nat} {w : World} {v : Value} {r : List Int} {x : Int} (h : Stk kd A I w v (r ++ [x])) : ∀ y ∈ r, 0 ≤ y ∧ y < 256 := fun y hy => h.2.1 y (by simp [hy])
set_option maxHeartbeats 1000000 in
theorem refStep_bin_nil (A I : Nat) (c : CodeV) (kv iv bv v : Value) (n k : Int) (w : World) (hv : Stk .i64 A I w v []) :
    Calls Try.prog 46 #[codeA c kv iv bv, .agg #[.int .i64 5, .int .i64 n, .int .i64 k], v] w (StepR A I w none) := by
  obtain ⟨a, cap, rfl⟩ := hv.nil
  clear hv
  simp only [codeA]
  go_enter Try.func46, Try.ntmps46
  go_wp2
  (refine region_drew (by kernel_rfl) (by kernel_rfl) ?_; (repeat (go_big_quiet_step (fail))); refine wpQuiet_nil ?_; rintro _ ⟨nq, rfl⟩)
  go_wp2
  go_ret2
  exact StepR.no (by repeat first | exact Ext.refl _ | assumption | refine Ext.drew ?_ | refine Ext.drewN ?_ _ | refine Ext.extBy ?_ _ | refine Ext.alloc ?_ _ | refine Ext.setCell ?_ (by simp; try omega) _ | (refine Ext.trans ?_ (by assumption))) rfl
set_option maxHeartbeats 1000000 in
theorem refStep_bin_one (A I : Nat) (c : CodeV) (kv iv bv v : Value) (n k x : Int) (w : World) (hv : Stk .i64 A I w v ([] ++ [x])) :
    Calls Try.prog 46 #[codeA c kv iv bv, .agg #[.int .i64 5, .int .i64 n, .int .i64 k], v] w (StepR A I w none) := by
  obtain ⟨b, o, cap, rfl, hbz, hcell, hwn, hcap, hst⟩ := hv.top
  clear hv hst
  simp only [List.length_nil, Nat.zero_add] at *
  simp only [codeA]
  go_enter Try.func46, Try.ntmps46
  go_wp2
  (refine region_drew (by kernel_rfl) (by kernel_rfl) ?_; (repeat (go_big_quiet_step (fail))); refine wpQuiet_nil ?_; rintro _ ⟨nq, rfl⟩)
  go_wp2
  go_ret2
  exact StepR.no (by repeat first | exact Ext.refl _ | assumption | refine Ext.drew ?_ | refine Ext.drewN ?_ _ | refine Ext.extBy ?_ _ | refine Ext.alloc ?_ _ | refine Ext.setCell ?_ (by simp; try omega) _ | (refine Ext.trans ?_ (by assumption))) rfl
set_option maxHeartbeats 2000000 in
theorem refStep_bin (A I : Nat) (c : CodeV) (kv iv bv v : Value) (n k x y : Int) (r : List Int) (w : World) (hA : A < w.heap.size) (hI : I < w.heap.size) (hl : r.length ≤ 64) (hv : Stk .i64 A I w v (r ++ [y] ++ [x])) :
    Calls Try.prog 46 #[codeA c kv iv bv, .agg #[.int .i64 5, .int .i64 n, .int .i64 k], v] w (StepR A I w (if x = k ∧ y = k ∧ (binv n k 0 0).2.2 = true then some (r ++ [(binv n k 0 0).2.1]) else none)) := by
  have hkb := hv.2.1 x (by simp)
  obtain ⟨b, o, cap, rfl, hbz, hcell, hwn, hcap, hst1⟩ := hv.top
  obtain ⟨b', o', cap', e, hbz', hcell', hwn', hcap', hst⟩ := hst1.top
  simp only [Value.slice.injEq, Option.some.injEq, Addr.mk.injEq] at e
  obtain ⟨⟨rfl, rfl, -⟩, -, rfl⟩ := e
  have hs0 := Lib.hid hst.1
  have hlb := Lib.hid hst.2.1
  clear hv hst hst1 hbz'
  simp only [List.length_append, List.length_cons, List.length_nil, Nat.zero_add] at *
  generalize hm : r.length = m at *
  have HM := Lib.hid hm.symm
  clear hm
  simp only [codeA]
  have hd5 : decide ((m : Int) + 1 < 1) = false := decide_eq_false (by omega)
  have hd6 : (0 : Int) ≤ (m : Int) := by omega
  have hd7 : (m : Int) < (m : Int) + 1 + 1 := by omega
  have hd8 : (m : Int) + 1 < (m : Int) + 1 + 1 := by omega
  have hd9 : (0 : Int) ≤ (m : Int) + 1 := by omega
  have hd10 : IntKind.i64.wrap ((m : Int) + 1 - 1) = m := by rw [Int.add_sub_cancel]; exact IntWalk.i64_in _ (by omega)
  have hd11 : IntKind.i64.wrap (m : Int) = m := IntWalk.i64_in _ (by omega)
  have hd12 : decide ((m : Int) < 0) = false := decide_eq_false (by omega)
  by_cases hx : x = k
  · have hd4 : (x != k) = false := by simp [hx]
    by_cases hy : y = k
    · have hdy : (y != k) = false := by simp [hy]
      obtain ⟨kk, hkk⟩ : ∃ kk, kk = (binv n k 0 0).2.1 := ⟨_, rfl⟩
      obtain ⟨ok, hok⟩ : ∃ ok, ok = (binv n k 0 0).2.2 := ⟨_, rfl⟩
      obtain ⟨rr, hr⟩ : ∃ rr, rr = (if x = k ∧ y = k ∧ (binv n k 0 0).2.2 = true then some (r ++ [(binv n k 0 0).2.1]) else none) := ⟨_, rfl⟩
      rw [← hr]
      have HR : Hid (rr = if ok = true then some (r ++ [kk]) else none) := Lib.hid (by rw [hr, hok, hkk]; simp [hx, hy])
      have hbd : ok = true → 0 ≤ kk ∧ kk < 256 := fun h => bkind_bd (op := n) (k := k) (by unfold bkind; rw [← hok, if_pos h, ← hkk]) (by rw [← hx]; exact hkb)
      have HKK := Lib.hid hkk
      have HOK := Lib.hid hok
      have HBD := Lib.hid hbd
      clear hx hy hr hkk hok hbd
      go_enter Try.func46, Try.ntmps46
      go_wp2
      (refine region_drew (by kernel_rfl) (by kernel_rfl) ?_; (repeat (go_big_quiet_step (fail))); refine wpQuiet_nil ?_; rintro _ ⟨nq, rfl⟩)
      go_wp2_with (first
        | (go_at_call 61; refine (refBin_any _ _ _ _ (by unfold I64; omega) (by unfold I64; omega) _).mono ?_; rintro e w1 ⟨he, hx1⟩; rw [← HKK.out, ← HOK.out] at he; subst he; (first | (with_reducible obtain ⟨t1, rfl⟩ := Ext.tok2 hx1) | (obtain ⟨t1, rfl⟩ := Ext.tok hx1)))
        | (at_builtin; (refine wpList_append_slc _ rfl (.const (.slice none 0 0)) (.tmp 160) 22 rfl (w.heap.size + 2) 3 (.int .i64 0) 1 8 Try.underlying22 infoInt rfl (by decide) (.slice none 0 0) 0 [] rfl (own_nil _ _ _ _) _ m (i64s r) rfl (hs0.out.ext (by repeat first | exact Ext.refl _ | assumption | refine Ext.drew ?_ | refine Ext.drewN ?_ _ | refine Ext.extBy ?_ _ | refine Ext.alloc ?_ _ | refine Ext.setCell ?_ (by simp; try omega) _ | (refine Ext.trans ?_ (by assumption)))) (by simp; exact HM.out.symm) (one_i64s r) (by unfold maxLen; omega) (by omega) (by simp) ?_; intro v1 w1 hown1 hg1 hat1; have hE1 := ext_grown_nil hg1))
        | (at_builtin; (refine wpList_append_slc _ rfl (.tmp 161) (.tmp 163) 22 rfl (w.heap.size + 2) 3 (.int .i64 0) 1 8 Try.underlying22 infoInt rfl (by decide) v1 (0 + m) ([] ++ i64s r) rfl (by first | exact hown1 | exact hown1.alloc _) _ 1 [.int .i64 kk] rfl (by first | exact SlC.fresh _ #[.int .i64 kk] _ 1 _ (by simp) (by decide) | exact (fresh_drew _ #[.int .i64 kk] _ 1 _ (by simp) (by decide)).ext hE1 | exact (SlC.fresh _ #[.int .i64 kk] _ 1 _ (by simp) (by decide)).ext hE1) (by simp) (by simp [Value.oneCell']) (by unfold maxLen; omega) (by omega) (by have := hE1.size; simp at this ⊢; omega) ?_; intro v2 w2 hown2 hg2 hat2; have hE2 : Ext (rbox w c kv iv bv 5 n k) w2 := below_grown (base := w.heap.size + 2) (show Below (rbox w c kv iv bv 5 n k).heap.size (rbox w c kv iv bv 5 n k) _ from (by repeat first | exact Ext.refl _ | assumption | refine Ext.drew ?_ | refine Ext.drewN ?_ _ | refine Ext.extBy ?_ _ | refine Ext.alloc ?_ _ | refine Ext.setCell ?_ (by simp; try omega) _ | (refine Ext.trans ?_ (by assumption)))) (by simp) (by have := hE1.size; simp at this ⊢; omega) (by first | exact hown1 | exact hown1.alloc _) hg2)))
      go_ret2
      exact StepR.yes (m := r ++ [kk]) ((((Ext.refl w).alloc _).alloc _).trans (by repeat first | exact Ext.refl _ | assumption | refine Ext.drew ?_ | refine Ext.drewN ?_ _ | refine Ext.extBy ?_ _ | refine Ext.alloc ?_ _ | refine Ext.setCell ?_ (by simp; try omega) _ | (refine Ext.trans ?_ (by assumption)))) (by rw [HR.out]; cases ok <;> rfl) (fun m' hm => by rw [HR.out] at hm; split at hm <;> simp_all) (own_slice hown2) (fun m' hm => by
        rw [HR.out] at hm
        split at hm
        · exact Stk.own hown2 (by simp; exact HM.out) (by simp) (snoc_bd hlb.out (HBD.out (by assumption))) (by omega) (by omega)
        · cases hm)
    · rw [if_neg (fun h => hy h.2.1)]
      have hdy : (y != k) = true := by simpa using hy
      clear hx hy
      go_enter Try.func46, Try.ntmps46
      go_wp2
      (refine region_drew (by kernel_rfl) (by kernel_rfl) ?_; (repeat (go_big_quiet_step (fail))); refine wpQuiet_nil ?_; rintro _ ⟨nq, rfl⟩)
      go_wp2
      go_ret2
      exact StepR.no (by repeat first | exact Ext.refl _ | assumption | refine Ext.drew ?_ | refine Ext.drewN ?_ _ | refine Ext.extBy ?_ _ | refine Ext.alloc ?_ _ | refine Ext.setCell ?_ (by simp; try omega) _ | (refine Ext.trans ?_ (by assumption))) rfl
  · rw [if_neg (fun h => hx h.1)]
    have hd4 : (x != k) = true := by simpa using hx
    clear hx
    go_enter Try.func46, Try.ntmps46
    go_wp2
    (refine region_drew (by kernel_rfl) (by kernel_rfl) ?_; (repeat (go_big_quiet_step (fail))); refine wpQuiet_nil ?_; rintro _ ⟨nq, rfl⟩)
    go_wp2
    go_ret2
    exact StepR.no (by repeat first | exact Ext.refl _ | assumption | refine Ext.drew ?_ | refine Ext.drewN ?_ _ | refine Ext.extBy ?_ _ | refine Ext.alloc ?_ _ | refine Ext.setCell ?_ (by simp; try omega) _ | (refine Ext.trans ?_ (by assumption))) rfl
end Go.Proofs.Ytipfcfaigbeakaa

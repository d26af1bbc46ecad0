/-
  The walks of the program's code: whether a program's parts are as they must be.
  Conditions: its slices are no longer than the limits.
-/
import Derived.Test.YtipfcfaigbeakaaMCodeWalkK
namespace Go.Proofs.Ytipfcfaigbeakaa
open Go.RowKit
set_option maxRecDepth 100000

/-- How a program lies in memory. -/
structure CodeIn (w : World) (kv iv bv : Value) (c : CodeV) : Prop where
  kinds : SlC w kv c.kinds.length (i64s c.kinds)
  init : SlC w iv c.init.length (i64s c.init)
  body : SlC w bv c.body.length (insCells c.body)
theorem CodeIn.ext {w w' : World} {kv iv bv : Value} {c : CodeV} (h : CodeIn w kv iv bv c) (hx : Ext w w') : CodeIn w' kv iv bv c := ⟨h.kinds.ext hx, h.init.ext hx, h.body.ext hx⟩
abbrev codeA (c : CodeV) (kv iv bv : Value) : Value := .agg #[kv, .int .i64 c.ins, .int .i64 c.outs, .int .i64 c.cells, .int .i64 c.stack, iv, bv]

set_option maxHeartbeats 2000000 in
theorem formed_neg (c : CodeV) (kv iv bv : Value) (w : World) (h : CodeIn w kv iv bv c) (hz : c.ins < 0 ∨ c.outs < 0 ∨ c.cells < 0 ∨ c.stack < 0) :
    Calls Try.prog 42 #[codeA c kv iv bv] w fun e w' => e = .returned (.bool false) ∧ Ext w w' := by
  obtain ⟨kinds, ins, outs, cells, init, stack, body⟩ := c
  obtain ⟨⟨ak, ck, rfl, hk1, hk2, _⟩, ⟨ai, ci, rfl, hi1, hi2, _⟩, ⟨ab, cb, rfl, hb1, hb2, _⟩⟩ := h
  simp only at *
  have i0 : ∀ (x0 x1 x2 x3 : Value) w, (Instr.index 115 (.agg #[x0, x1, x2, x3]) (.int .i64 0)).run Try.prog w = .ok x0 w := fun _ _ _ _ _ => by kernel_rfl
  have i1 : ∀ (x0 x1 x2 x3 : Value) w, (Instr.index 115 (.agg #[x0, x1, x2, x3]) (.int .i64 1)).run Try.prog w = .ok x1 w := fun _ _ _ _ _ => by kernel_rfl
  have i2 : ∀ (x0 x1 x2 x3 : Value) w, (Instr.index 115 (.agg #[x0, x1, x2, x3]) (.int .i64 2)).run Try.prog w = .ok x2 w := fun _ _ _ _ _ => by kernel_rfl
  have i3 : ∀ (x0 x1 x2 x3 : Value) w, (Instr.index 115 (.agg #[x0, x1, x2, x3]) (.int .i64 3)).run Try.prog w = .ok x3 w := fun _ _ _ _ _ => by kernel_rfl
  by_cases h1 : ins < 0
  · clear hz
    go_enter Try.func42, Try.ntmps42
    go_wp2
    refine wp_loop_rounds 1 ?_
    rw [rounds_succ]
    go_wp2
    go_ret
    exact ⟨rfl, (by repeat first | exact Ext.refl _ | assumption | refine Ext.drew ?_ | refine Ext.drewN ?_ _ | refine Ext.extBy ?_ _ | refine Ext.alloc ?_ _ | refine Ext.setCell ?_ (by simp; try omega) _ | (refine Ext.trans ?_ (by assumption)))⟩
  by_cases h2 : outs < 0
  · clear hz
    go_enter Try.func42, Try.ntmps42
    go_wp2
    refine wp_loop_rounds 2 ?_
    rw [rounds_succ]
    go_wp2
    rw [rounds_succ]
    go_wp2
    go_ret
    exact ⟨rfl, (by repeat first | exact Ext.refl _ | assumption | refine Ext.drew ?_ | refine Ext.drewN ?_ _ | refine Ext.extBy ?_ _ | refine Ext.alloc ?_ _ | refine Ext.setCell ?_ (by simp; try omega) _ | (refine Ext.trans ?_ (by assumption)))⟩
  by_cases h3 : cells < 0
  · clear hz
    go_enter Try.func42, Try.ntmps42
    go_wp2
    refine wp_loop_rounds 3 ?_
    rw [rounds_succ]
    go_wp2
    rw [rounds_succ]
    go_wp2
    rw [rounds_succ]
    go_wp2
    go_ret
    exact ⟨rfl, (by repeat first | exact Ext.refl _ | assumption | refine Ext.drew ?_ | refine Ext.drewN ?_ _ | refine Ext.extBy ?_ _ | refine Ext.alloc ?_ _ | refine Ext.setCell ?_ (by simp; try omega) _ | (refine Ext.trans ?_ (by assumption)))⟩
  have h4 : stack < 0 := by omega
  clear hz
  go_enter Try.func42, Try.ntmps42
  go_wp2
  refine wp_loop_rounds 4 ?_
  rw [rounds_succ]
  go_wp2
  rw [rounds_succ]
  go_wp2
  rw [rounds_succ]
  go_wp2
  rw [rounds_succ]
  go_wp2
  go_ret
  exact ⟨rfl, (by repeat first | exact Ext.refl _ | assumption | refine Ext.drew ?_ | refine Ext.drewN ?_ _ | refine Ext.extBy ?_ _ | refine Ext.alloc ?_ _ | refine Ext.setCell ?_ (by simp; try omega) _ | (refine Ext.trans ?_ (by assumption)))⟩

set_option maxHeartbeats 2000000 in
theorem formed_big (c : CodeV) (kv iv bv : Value) (w : World) (h : CodeIn w kv iv bv c) (hkl : c.kinds.length ≤ 8000) (h1 : 0 ≤ c.ins) (h2 : 0 ≤ c.outs) (h3 : 0 ≤ c.cells) (h4 : 0 ≤ c.stack) (hz : (c.kinds.length : Int) < c.ins + c.outs + c.cells) :
    Calls Try.prog 42 #[codeA c kv iv bv] w fun e w' => e = .returned (.bool false) ∧ Ext w w' := by
  obtain ⟨kinds, ins, outs, cells, init, stack, body⟩ := c
  obtain ⟨⟨ak, ck, rfl, hk1, hk2, _⟩, ⟨ai, ci, rfl, hi1, hi2, _⟩, ⟨ab, cb, rfl, hb1, hb2, _⟩⟩ := h
  simp only at *
  have i0 : ∀ (x0 x1 x2 x3 : Value) w, (Instr.index 115 (.agg #[x0, x1, x2, x3]) (.int .i64 0)).run Try.prog w = .ok x0 w := fun _ _ _ _ _ => by kernel_rfl
  have i1 : ∀ (x0 x1 x2 x3 : Value) w, (Instr.index 115 (.agg #[x0, x1, x2, x3]) (.int .i64 1)).run Try.prog w = .ok x1 w := fun _ _ _ _ _ => by kernel_rfl
  have i2 : ∀ (x0 x1 x2 x3 : Value) w, (Instr.index 115 (.agg #[x0, x1, x2, x3]) (.int .i64 2)).run Try.prog w = .ok x2 w := fun _ _ _ _ _ => by kernel_rfl
  have i3 : ∀ (x0 x1 x2 x3 : Value) w, (Instr.index 115 (.agg #[x0, x1, x2, x3]) (.int .i64 3)).run Try.prog w = .ok x3 w := fun _ _ _ _ _ => by kernel_rfl
  have hln := nat64 hk1 hk2
  obtain ⟨n, hn⟩ : ∃ n, n = kinds.length := ⟨_, rfl⟩
  rw [← hn] at hkl hz hk1 hln ⊢
  clear hn
  by_cases h5 : (n : Int) < ins
  · clear hz
    go_enter Try.func42, Try.ntmps42
    go_wp2
    refine wp_loop_rounds 5 ?_
    rw [rounds_succ]
    go_wp2
    rw [rounds_succ]
    go_wp2
    rw [rounds_succ]
    go_wp2
    rw [rounds_succ]
    go_wp2
    rw [rounds_succ]
    go_wp2
    go_ret
    exact ⟨rfl, (by repeat first | exact Ext.refl _ | assumption | refine Ext.drew ?_ | refine Ext.drewN ?_ _ | refine Ext.extBy ?_ _ | refine Ext.alloc ?_ _ | refine Ext.setCell ?_ (by simp; try omega) _ | (refine Ext.trans ?_ (by assumption)))⟩
  by_cases h6 : (n : Int) < outs
  · clear hz
    go_enter Try.func42, Try.ntmps42
    go_wp2
    refine wp_loop_rounds 5 ?_
    rw [rounds_succ]
    go_wp2
    rw [rounds_succ]
    go_wp2
    rw [rounds_succ]
    go_wp2
    rw [rounds_succ]
    go_wp2
    rw [rounds_succ]
    go_wp2
    go_ret
    exact ⟨rfl, (by repeat first | exact Ext.refl _ | assumption | refine Ext.drew ?_ | refine Ext.drewN ?_ _ | refine Ext.extBy ?_ _ | refine Ext.alloc ?_ _ | refine Ext.setCell ?_ (by simp; try omega) _ | (refine Ext.trans ?_ (by assumption)))⟩
  by_cases h7 : (n : Int) < cells
  · clear hz
    go_enter Try.func42, Try.ntmps42
    go_wp2
    refine wp_loop_rounds 5 ?_
    rw [rounds_succ]
    go_wp2
    rw [rounds_succ]
    go_wp2
    rw [rounds_succ]
    go_wp2
    rw [rounds_succ]
    go_wp2
    rw [rounds_succ]
    go_wp2
    go_ret
    exact ⟨rfl, (by repeat first | exact Ext.refl _ | assumption | refine Ext.drew ?_ | refine Ext.drewN ?_ _ | refine Ext.extBy ?_ _ | refine Ext.alloc ?_ _ | refine Ext.setCell ?_ (by simp; try omega) _ | (refine Ext.trans ?_ (by assumption)))⟩
  go_enter Try.func42, Try.ntmps42
  go_wp2
  refine wp_loop_rounds 5 ?_
  rw [rounds_succ]
  go_wp2
  rw [rounds_succ]
  go_wp2
  rw [rounds_succ]
  go_wp2
  rw [rounds_succ]
  go_wp2
  rw [rounds_succ]
  go_wp2
  go_ret
  exact ⟨rfl, (by repeat first | exact Ext.refl _ | assumption | refine Ext.drew ?_ | refine Ext.drewN ?_ _ | refine Ext.extBy ?_ _ | refine Ext.alloc ?_ _ | refine Ext.setCell ?_ (by simp; try omega) _ | (refine Ext.trans ?_ (by assumption)))⟩
theorem noWidth {c : CodeV} {j : Nat} {k : Int} (hk : c.kinds[j]? = some k) (hw : width k = 0) : formedV c = false := not_formed fun h => h.kinds j k hk hw
theorem noInit {c : CodeV} (hk : ¬ (c.init.length : Int) = c.cells) : formedV c = false := not_formed fun h => hk h.init
theorem noVal {c : CodeV} {j : Nat} {k v : Int} (hk : c.kinds[c.ins.toNat + c.outs.toNat + j]? = some k) (hv : c.init[j]? = some v) (hw : isk k v = false) : formedV c = false := not_formed fun h => by have := h.vals j k v hk hv; rw [hw] at this; cases this
theorem noBody {c : CodeV} (hk : c.body.length = 0) : formedV c = false := not_formed fun h => by have := h.last; rw [List.eq_nil_of_length_eq_zero hk] at this; cases this
theorem noLast {c : CodeV} {q : InsV} (hk : c.body[c.body.length - 1]? = some q) (hq : q.op ≠ 9) : formedV c = false := not_formed fun h => by have := h.last; rw [List.getLast?_eq_getElem?, hk] at this; simp at this; exact hq this
theorem noOp {c : CodeV} {j : Nat} {q : InsV} (hk : c.body[j]? = some q) (hq : (decide (1 ≤ q.op) && decide (q.op ≤ 9)) = false) : formedV c = false := not_formed fun h => by have := h.ops j q hk; simp [this.1, this.2] at hq

set_option maxHeartbeats 4000000 in
theorem formed_go (c : CodeV) (kv iv bv : Value) (w : World) (h : CodeIn w kv iv bv c) (hkl : c.kinds.length ≤ 8000) (hbl : c.body.length ≤ 60000) (h1 : 0 ≤ c.ins) (h2 : 0 ≤ c.outs) (h3 : 0 ≤ c.cells) (h4 : 0 ≤ c.stack) (hz : ¬ (c.kinds.length : Int) < c.ins + c.outs + c.cells) :
    Calls Try.prog 42 #[codeA c kv iv bv] w fun e w' => e = .returned (.bool (formedV c)) ∧ Ext w w' := by
  obtain ⟨⟨ak, ck, rfl, hk1, hk2, hkc⟩, ⟨ai, ci, rfl, hi1, hi2, hic⟩, ⟨ab, cb, rfl, hb1, hb2, hbc⟩⟩ := h
  have HS0 := Lib.hid h4
  have HK := Lib.hid hkc
  have HI := Lib.hid hic
  have HB := Lib.hid hbc
  clear hkc hic hbc
  simp only [codeA]
  obtain ⟨fv, hfv⟩ : ∃ b, b = formedV c := ⟨_, rfl⟩
  rw [← hfv]
  have HF := Lib.hid hfv
  clear hfv
  have i0 : ∀ (x0 x1 x2 x3 : Value) w, (Instr.index 115 (.agg #[x0, x1, x2, x3]) (.int .i64 0)).run Try.prog w = .ok x0 w := fun _ _ _ _ _ => by kernel_rfl
  have i1 : ∀ (x0 x1 x2 x3 : Value) w, (Instr.index 115 (.agg #[x0, x1, x2, x3]) (.int .i64 1)).run Try.prog w = .ok x1 w := fun _ _ _ _ _ => by kernel_rfl
  have i2 : ∀ (x0 x1 x2 x3 : Value) w, (Instr.index 115 (.agg #[x0, x1, x2, x3]) (.int .i64 2)).run Try.prog w = .ok x2 w := fun _ _ _ _ _ => by kernel_rfl
  have i3 : ∀ (x0 x1 x2 x3 : Value) w, (Instr.index 115 (.agg #[x0, x1, x2, x3]) (.int .i64 3)).run Try.prog w = .ok x3 w := fun _ _ _ _ _ => by kernel_rfl
  have hln := nat64 hk1 hk2
  have hin := nat64 hi1 hi2
  have hbn := nat64 hb1 hb2
  obtain ⟨n, hn⟩ : ∃ n, n = c.kinds.length := ⟨_, rfl⟩
  obtain ⟨m, hm⟩ : ∃ m, m = c.init.length := ⟨_, rfl⟩
  obtain ⟨nb, hnb⟩ : ∃ nb, nb = c.body.length := ⟨_, rfl⟩
  obtain ⟨ins, e1⟩ : ∃ x, x = c.ins := ⟨_, rfl⟩
  obtain ⟨outs, e2⟩ : ∃ x, x = c.outs := ⟨_, rfl⟩
  obtain ⟨cells, e3⟩ : ∃ x, x = c.cells := ⟨_, rfl⟩
  obtain ⟨stack, e4⟩ : ∃ x, x = c.stack := ⟨_, rfl⟩
  rw [← e1, ← e2, ← e3, ← hn] at hz
  rw [← e1] at h1
  rw [← e2] at h2
  rw [← e3] at h3
  rw [← e4] at h4
  rw [← hn] at hkl hk1 hln
  rw [← hm] at hi1 hin
  rw [← hnb] at hbl hb1 hbn
  rw [← e1, ← e2, ← e3, ← e4, ← hn, ← hm, ← hnb]
  have HN := Lib.hid hn
  have HM := Lib.hid hm
  have HNB := Lib.hid hnb
  have E1 := Lib.hid e1
  have E2 := Lib.hid e2
  have E3 := Lib.hid e3
  clear hn hm hnb e1 e2 e3 e4
  go_enter Try.func42, Try.ntmps42
  go_wp2
  refine wp_loop_rounds 5 ?_
  rw [rounds_succ]
  go_wp2
  rw [rounds_succ]
  go_wp2
  rw [rounds_succ]
  go_wp2
  rw [rounds_succ]
  go_wp2
  rw [rounds_succ]
  go_wp2
  go_loop [61] (fun i => ∃ j : Nat, j ≤ n ∧ i = .int .i64 j ∧ Hid (∀ (k : Nat) (x : Int), k < j → c.kinds[k]? = some x → width x ≠ 0)) (fun i => n - (intOf i).toNat)
  case atStart => exact ⟨0, Nat.zero_le _, rfl, Lib.hid fun k x hk => by omega⟩
  case round =>
    obtain ⟨j, hj, rfl, HA⟩ := hrel
    by_cases hlt : j < n
    · obtain ⟨x, hx⟩ : ∃ x, c.kinds[j]? = some x := ⟨_, List.getElem?_eq_getElem (by have := HN.out; omega)⟩
      obtain ⟨b, o, rfl, hcell⟩ := HK.out j (.int .i64 x) (by simp [hx])
      have hbz : b < w.heap.size := World.block_lt_of_cell? w _ hcell
      have HX := Lib.hid hx
      clear hx
      by_cases hw : width x = 0
      · have HFF := Lib.hid (HF.out.trans (noWidth HX.out hw))
        go_wp2_with (first | (go_at_call 65; refine (bvWidth_any _ _).mono ?_; rintro e w1 ⟨rfl, rfl⟩))
        go_ret
        exact ⟨ret_bool HFF.out.symm, (by repeat first | exact Ext.refl _ | assumption | refine Ext.drew ?_ | refine Ext.drewN ?_ _ | refine Ext.extBy ?_ _ | refine Ext.alloc ?_ _ | refine Ext.setCell ?_ (by simp; try omega) _ | (refine Ext.trans ?_ (by assumption)))⟩
      · have hw' : (width x == 0) = false := by simpa using hw
        have HA' : Hid (∀ (k : Nat) (y : Int), k < j + 1 → c.kinds[k]? = some y → width y ≠ 0) := Lib.hid fun k y hk hy => by
          by_cases hkj : k = j
          · subst hkj; rw [HX.out] at hy; obtain rfl := Option.some.inj hy; exact hw
          · exact HA.out k y (by omega) hy
        clear hw
        go_wp2_with (first | (go_at_call 65; refine (bvWidth_any _ _).mono ?_; rintro e w1 ⟨rfl, rfl⟩))
        go_round
        case rel => exact ⟨j + 1, by omega, by go_num, HA'⟩
        case measure => simp [intOf]; omega
    · have hjn : j = n := by omega
      subst hjn
      clear hlt
      by_cases hmi : (m : Int) = cells
      · have hd4 : ((m : Int) != cells) = false := by simp [hmi]
        have hmi1 : (m : Int) ≤ cells := by omega
        have hmi2 : cells ≤ (m : Int) := by omega
        clear hmi
        go_wp2
        go_loop [78] (fun i => ∃ j : Nat, j ≤ m ∧ i = .int .i64 j ∧ Hid (∀ (k : Nat) (x y : Int), k < j → c.kinds[c.ins.toNat + c.outs.toNat + k]? = some x → c.init[k]? = some y → isk x y = true)) (fun i => m - (intOf i).toNat)
        case atStart => exact ⟨0, Nat.zero_le _, rfl, Lib.hid fun k x y hk => by omega⟩
        case round =>
          obtain ⟨t, ht, rfl, HV⟩ := hrel
          by_cases hlt : t < m
          · obtain ⟨y, hy⟩ : ∃ y, c.init[t]? = some y := ⟨_, List.getElem?_eq_getElem (by have := HM.out; omega)⟩
            obtain ⟨x, hx⟩ : ∃ x, c.kinds[c.ins.toNat + c.outs.toNat + t]? = some x := ⟨_, List.getElem?_eq_getElem (by have := HN.out; have := E1.out; have := E2.out; omega)⟩
            obtain ⟨b, o, rfl, hcell⟩ := HK.out (c.ins.toNat + c.outs.toNat + t) (.int .i64 x) (by simp [hx])
            have hbz : b < w.heap.size := World.block_lt_of_cell? w _ hcell
            obtain ⟨b2, o2, rfl, hcell2⟩ := HI.out t (.int .i64 y) (by simp [hy])
            have hbz2 : b2 < w.heap.size := World.block_lt_of_cell? w _ hcell2
            rw [show c.ins.toNat + c.outs.toNat + t = (ins + outs + (t : Int)).toNat by have := E1.out; have := E2.out; omega] at hcell
            have HX := Lib.hid hx
            have HY := Lib.hid hy
            clear hx hy
            cases hw : isk x y
            · have HFF := Lib.hid (HF.out.trans (noVal HX.out HY.out hw))
              go_wp2_with (first | (go_at_call 58; refine (bvIs_any _ _ _).mono ?_; rintro e w1 ⟨rfl, rfl⟩))
              go_ret
              exact ⟨ret_bool HFF.out.symm, (by repeat first | exact Ext.refl _ | assumption | refine Ext.drew ?_ | refine Ext.drewN ?_ _ | refine Ext.extBy ?_ _ | refine Ext.alloc ?_ _ | refine Ext.setCell ?_ (by simp; try omega) _ | (refine Ext.trans ?_ (by assumption)))⟩
            · have HV' : Hid (∀ (k : Nat) (x y : Int), k < t + 1 → c.kinds[c.ins.toNat + c.outs.toNat + k]? = some x → c.init[k]? = some y → isk x y = true) := Lib.hid fun k x' y' hk hx' hy' => by
                by_cases hkj : k = t
                · subst hkj; rw [HX.out] at hx'; rw [HY.out] at hy'; obtain rfl := Option.some.inj hx'; obtain rfl := Option.some.inj hy'; exact hw
                · exact HV.out k x' y' (by omega) hx' hy'
              go_wp2_with (first | (go_at_call 58; refine (bvIs_any _ _ _).mono ?_; rintro e w1 ⟨rfl, rfl⟩))
              go_round
              case rel => exact ⟨t + 1, by omega, by go_num, HV'⟩
              case measure => simp [intOf]; omega
          · have htm : t = m := by omega
            subst htm
            clear hlt
            by_cases hb0 : nb = 0
            · have HFF := Lib.hid (HF.out.trans (noBody (by rw [← HNB.out]; exact hb0)))
              have hd5 : ((nb : Int) == 0) = true := by simp [hb0]
              clear hb0
              go_wp2
              go_ret
              exact ⟨ret_bool HFF.out.symm, (by repeat first | exact Ext.refl _ | assumption | refine Ext.drew ?_ | refine Ext.drewN ?_ _ | refine Ext.extBy ?_ _ | refine Ext.alloc ?_ _ | refine Ext.setCell ?_ (by simp; try omega) _ | (refine Ext.trans ?_ (by assumption)))⟩
            · have hd5 : ((nb : Int) == 0) = false := by simp [hb0]
              obtain ⟨q, hq⟩ : ∃ q, c.body[nb - 1]? = some q := ⟨_, List.getElem?_eq_getElem (by have := HNB.out; omega)⟩
              obtain ⟨b, o, rfl, hcell⟩ := HB.out ((nb - 1) * 3) _ (insCells_at c.body (nb - 1) q hq).1
              have hbz : b < w.heap.size := World.block_lt_of_cell? w _ hcell
              have hb1' : 1 ≤ nb := by omega
              have HQ := Lib.hid hq
              clear hq hb0
              by_cases h9 : q.op = 9
              · have hd6 : (q.op != 9) = false := by simp [h9]
                have H9 := Lib.hid h9
                clear h9
                go_wp2
                clear hcell hbz
                go_loopw [117] (fun i wr => ∃ j : Nat, j ≤ nb ∧ i = .int .i64 j ∧ Ext w wr ∧ Hid (∀ (k : Nat) (q : InsV), k < j → c.body[k]? = some q → 1 ≤ q.op ∧ q.op ≤ 9)) (fun i _ => nb - (intOf i).toNat)
                case atStart => exact ⟨0, Nat.zero_le _, rfl, (by repeat first | exact Ext.refl _ | assumption | refine Ext.drew ?_ | refine Ext.drewN ?_ _ | refine Ext.extBy ?_ _ | refine Ext.alloc ?_ _ | refine Ext.setCell ?_ (by simp; try omega) _ | (refine Ext.trans ?_ (by assumption))), Lib.hid fun k x hk => by omega⟩
                case round =>
                  obtain ⟨u, hu, rfl, hxr, HO⟩ := hrel
                  obtain ⟨t1, rfl⟩ := hxr.tok
                  clear hxr
                  by_cases hlt : u < nb
                  · obtain ⟨p, hp⟩ : ∃ p, c.body[u]? = some p := ⟨_, List.getElem?_eq_getElem (by have := HNB.out; omega)⟩
                    have hcs := insCells_at c.body u p hp
                    obtain ⟨b', o', e0, g0⟩ := HB.out (u * 3) _ hcs.1
                    simp only [Option.some.injEq, Addr.mk.injEq] at e0
                    obtain ⟨rfl, rfl, -⟩ := e0
                    obtain ⟨b', o', e0, g1⟩ := HB.out (u * 3 + 1) _ hcs.2.1
                    simp only [Option.some.injEq, Addr.mk.injEq] at e0
                    obtain ⟨rfl, rfl, -⟩ := e0
                    obtain ⟨b', o', e0, g2⟩ := HB.out (u * 3 + 2) _ hcs.2.2
                    simp only [Option.some.injEq, Addr.mk.injEq] at e0
                    obtain ⟨rfl, rfl, -⟩ := e0
                    have hbz : b < w.heap.size := World.block_lt_of_cell? w _ g0
                    have g1' : w.cell? ⟨b, o + u * 3 + 1, none⟩ = some (.int .i64 p.n) := by rw [Nat.add_assoc]; exact g1
                    have g2' : w.cell? ⟨b, o + u * 3 + 2, none⟩ = some (.int .i64 p.k) := by rw [Nat.add_assoc]; exact g2
                    have HP := Lib.hid hp
                    clear hp hcs g1 g2
                    cases hw : (decide (1 ≤ p.op) && decide (p.op ≤ 9))
                    · have HFF := Lib.hid (HF.out.trans (noOp HP.out hw))
                      have HW := Lib.hid hw
                      clear hw
                      go_wp2_with (first | (go_at_call 66; refine (known_any _ _).mono ?_; rintro e w1 ⟨he, rfl⟩; rw [HW.out] at he; subst he))
                      go_ret
                      exact ⟨ret_bool HFF.out.symm, (by repeat first | exact Ext.refl _ | assumption | refine Ext.drew ?_ | refine Ext.drewN ?_ _ | refine Ext.extBy ?_ _ | refine Ext.alloc ?_ _ | refine Ext.setCell ?_ (by simp; try omega) _ | (refine Ext.trans ?_ (by assumption)))⟩
                    · have HO' : Hid (∀ (k : Nat) (q : InsV), k < u + 1 → c.body[k]? = some q → 1 ≤ q.op ∧ q.op ≤ 9) := Lib.hid fun k y hk hy => by
                        by_cases hkj : k = u
                        · subst hkj; rw [HP.out] at hy; obtain rfl := Option.some.inj hy; simpa using hw
                        · exact HO.out k y (by omega) hy
                      have HW := Lib.hid hw
                      clear hw
                      go_wp2_with (first | (go_at_call 66; refine (known_any _ _).mono ?_; rintro e w1 ⟨he, rfl⟩; rw [HW.out] at he; subst he))
                      go_roundw
                      case rel => exact ⟨u + 1, by omega, by go_num, (by repeat first | exact Ext.refl _ | assumption | refine Ext.drew ?_ | refine Ext.drewN ?_ _ | refine Ext.extBy ?_ _ | refine Ext.alloc ?_ _ | refine Ext.setCell ?_ (by simp; try omega) _ | (refine Ext.trans ?_ (by assumption))), HO'⟩
                      case measure => simp [intOf]; omega
                  · have hun : u = nb := by omega
                    subst hun
                    clear hlt
                    have HFF : Hid (fv = true) := Lib.hid (HF.out.trans (of_formed ⟨by rw [← E1.out]; exact h1, by rw [← E2.out]; exact h2, by rw [← E3.out]; exact h3, HS0.out, by rw [← E1.out, ← E2.out, ← E3.out, ← HN.out]; exact hz, fun j k hj => HA.out j k (by have := (List.getElem?_eq_some_iff.1 hj).1; have := HN.out; omega) hj, by rw [← HM.out, ← E3.out]; omega, fun j k v hk hv => HV.out j k v (by have := (List.getElem?_eq_some_iff.1 hv).1; have := HM.out; omega) hk hv, by rw [List.getLast?_eq_getElem?, ← HNB.out, HQ.out]; simp [H9.out], fun j q hj => HO.out j q (by have := (List.getElem?_eq_some_iff.1 hj).1; have := HNB.out; omega) hj⟩))
                    go_wp2
                    go_ret
                    exact ⟨ret_bool HFF.out.symm, (by repeat first | exact Ext.refl _ | assumption | refine Ext.drew ?_ | refine Ext.drewN ?_ _ | refine Ext.extBy ?_ _ | refine Ext.alloc ?_ _ | refine Ext.setCell ?_ (by simp; try omega) _ | (refine Ext.trans ?_ (by assumption)))⟩
              · have HFF := Lib.hid (HF.out.trans (noLast (by rw [← HNB.out]; exact HQ.out) h9))
                have hd6 : (q.op != 9) = true := by simpa using h9
                clear h9
                go_wp2
                go_ret
                exact ⟨ret_bool HFF.out.symm, (by repeat first | exact Ext.refl _ | assumption | refine Ext.drew ?_ | refine Ext.drewN ?_ _ | refine Ext.extBy ?_ _ | refine Ext.alloc ?_ _ | refine Ext.setCell ?_ (by simp; try omega) _ | (refine Ext.trans ?_ (by assumption)))⟩
      · have HFF := Lib.hid (HF.out.trans (noInit (by rw [← HM.out, ← E3.out]; exact hmi)))
        have hd4 : ((m : Int) != cells) = true := by simpa using hmi
        clear hmi
        go_wp2
        go_ret
        exact ⟨ret_bool HFF.out.symm, (by repeat first | exact Ext.refl _ | assumption | refine Ext.drew ?_ | refine Ext.drewN ?_ _ | refine Ext.extBy ?_ _ | refine Ext.alloc ?_ _ | refine Ext.setCell ?_ (by simp; try omega) _ | (refine Ext.trans ?_ (by assumption)))⟩
end Go.Proofs.Ytipfcfaigbeakaa

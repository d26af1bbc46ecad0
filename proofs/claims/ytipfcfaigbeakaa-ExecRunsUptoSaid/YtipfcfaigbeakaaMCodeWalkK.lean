/-
  The walks of the program's code: the steps of the checker (load, save).
  Conditions: the rows lie as the caller made them.
-/
import Derived.Test.YtipfcfaigbeakaaJSteps
import Derived.Deep.RegionHeld3
namespace Go.Proofs.Ytipfcfaigbeakaa
open Go.RowKit
set_option maxRecDepth 100000

set_option maxHeartbeats 2000000 in
theorem stepLoad_any {W0 : World} {c : CodeV} {kv iv bv : Value} {X A I : Nat} {w : World} {i : Nat} {st : Known} (h : Ck W0 X A I c.body.length (xcs c kv iv bv) w i st) (hkv : SlC W0 kv c.kinds.length (i64s c.kinds)) (hkr : ∀ k ∈ c.kinds, 0 ≤ k ∧ k < 256) (_hkl : c.kinds.length ≤ 8000) (q : InsV) (hop : q.op = 2) (hi : i + 1 < c.body.length) (hn : c.body.length ≤ 60000) (v : Value) (l : List Int) (hv : Stk .u8 A I w v l) (hl : l.length ≤ 64) :
    Calls Try.prog 68 #[.pointer (some ⟨X, 0, none⟩), .int .i64 i, insA q, v] w (Flo W0 X A I c.body.length (xcs c kv iv bv) i (oneV c q i st l) w) := by
  obtain ⟨op, n, k⟩ := q
  simp only at hop
  subst hop
  have hA := h.rw.ltA
  have hI := h.rw.ltI
  have hx : Ext w (w.alloc (.cells #[.int .i64 2, .int .i64 n, .int .i64 k] 33)) := (Ext.refl _).alloc _
  have at0 := h.cells 0 _ rfl
  obtain ⟨a, cap, rfl, hnc, hcm, hkc⟩ := hkv
  have hln := nat64 hnc hcm
  have hX := h.ltX
  by_cases h1 : k = 0
  · by_cases h2 : 0 ≤ n
    · by_cases h3 : n < (c.kinds.length : Int)
      · obtain ⟨kk, hkk⟩ : ∃ kk, c.kinds[n.toNat]? = some kk := ⟨_, List.getElem?_eq_getElem (by omega)⟩
        obtain ⟨b, o, rfl, hcell⟩ := hkc n.toNat (.int .i64 kk) (by simp [hkk])
        have hcell := h.rw.base.cell hcell
        have hbl : b < W0.heap.size := World.block_lt_of_cell? W0 _ (by assumption)
        have hbA : b ≠ A := by have := h.rw.geA; omega
        have hbI : b ≠ I := by have := h.rw.geI; omega
        have hAs : w.heap.size ≠ A := by omega
        have hIs : w.heap.size ≠ I := by omega
        have hkb := hkr kk (List.mem_of_getElem? hkk)
        rw [oneV_next (m := l ++ [kk]) (by simp [stepV, h1, kindAt, h2, hkk]) (by simp) hi]
        subst h1
        have hwi : IntKind.i64.wrap ((i : Int) + 1) = ((i + 1 : Nat) : Int) := (IntWalk.i64_in _ (by omega)).trans (by simp)
        have HW := Lib.hid hwi
        clear hwi
        clear hkk hkc hbl
        go_enter Try.func68, Try.ntmps68
        go_wp2
        go_region_held3 (fun w' => w'.cell? ⟨X, 0, none⟩ = some (.slice (some ⟨b, o, none⟩) c.kinds.length cap) ∧ w'.cell? ⟨w.heap.size, 1, none⟩ = some (.int .i64 n) ∧ w'.cell? ⟨w.heap.size, 2, none⟩ = some (.int .i64 0) ∧ w'.cell? ⟨b, o + n.toNat, none⟩ = some (.int .i64 kk))
          (first | (go_split_ands; refine ⟨hf.2.1.cell h.XA h.XI ?_, hf.2.1.cell hAs hIs ?_, hf.2.1.cell hAs hIs ?_, hf.2.1.cell hbA hbI ?_⟩ <;> assumption) | (go_split_ands; refine ⟨hx1.cell ?_, hx1.cell ?_, hx1.cell ?_, hx1.cell ?_⟩ <;> assumption) | go_keep)
          (first | (go_at_call 97; refine (push_stk (hv.ext hx.drew) (by simp; omega) (by simp; omega) hl kk (by omega)).mono ?_; rintro e w1 ⟨u, rfl, hs1, hx1⟩) | (go_at_call 96; refine (flow_at (h.ext (hx.drew.trans hx1)) _ (i + 1) HW.out (by omega) u _ hs1).mono ?_; rintro e w2 hf; obtain ⟨b, rfl⟩ := hf.bool))
        go_wp2
        go_ret
        exact hf.lift (hx.drew.trans hx1)
      · rw [oneV_none (by rw [stepV_2, if_pos h1, kindAt_out (by omega)]; rfl)]
        have hd2 : decide (0 ≤ n) = true := decide_eq_true h2
        have hd3 : decide (n < (c.kinds.length : Int)) = false := decide_eq_false h3
        subst h1
        clear hkc
        go_enter Try.func68, Try.ntmps68
        go_wp2
        (refine region_drew (by kernel_rfl) (by kernel_rfl) ?_; (repeat (go_big_quiet_step (fail))); refine wpQuiet_nil ?_; rintro _ ⟨nq, rfl⟩)
        go_wp2
        go_ret
        exact Flo.no h.rw.base (by repeat first | exact Ext.refl _ | assumption | refine Ext.drew ?_ | refine Ext.drewN ?_ _ | refine Ext.extBy ?_ _ | refine Ext.alloc ?_ _ | refine Ext.setCell ?_ (by simp; try omega) _ | (refine Ext.trans ?_ (by assumption))) rfl
    · rw [oneV_none (by rw [stepV_2, if_pos h1, kindAt_out (by omega)]; rfl)]
      have hd2 : decide (0 ≤ n) = false := decide_eq_false h2
      subst h1
      clear hkc
      go_enter Try.func68, Try.ntmps68
      go_wp2
      (refine region_drew (by kernel_rfl) (by kernel_rfl) ?_; (repeat (go_big_quiet_step (fail))); refine wpQuiet_nil ?_; rintro _ ⟨nq, rfl⟩)
      go_wp2
      go_ret
      exact Flo.no h.rw.base (by repeat first | exact Ext.refl _ | assumption | refine Ext.drew ?_ | refine Ext.drewN ?_ _ | refine Ext.extBy ?_ _ | refine Ext.alloc ?_ _ | refine Ext.setCell ?_ (by simp; try omega) _ | (refine Ext.trans ?_ (by assumption))) rfl
  · rw [oneV_none (by simp [stepV, h1])]
    have hd1 : (k == 0) = false := by simpa using h1
    clear hkc
    go_enter Try.func68, Try.ntmps68
    go_wp2
    (refine region_drew (by kernel_rfl) (by kernel_rfl) ?_; (repeat (go_big_quiet_step (fail))); refine wpQuiet_nil ?_; rintro _ ⟨nq, rfl⟩)
    go_wp2
    go_ret
    exact Flo.no h.rw.base (by repeat first | exact Ext.refl _ | assumption | refine Ext.drew ?_ | refine Ext.drewN ?_ _ | refine Ext.extBy ?_ _ | refine Ext.alloc ?_ _ | refine Ext.setCell ?_ (by simp; try omega) _ | (refine Ext.trans ?_ (by assumption))) rfl

theorem stepSave_none {c : CodeV} {n k : Int} {l : List Int} (h : k ≠ 0 ∨ n < c.ins ∨ (c.kinds.length : Int) ≤ n) : stepV c ⟨3, n, k⟩ l = none := by
  rw [stepV_3]
  by_cases h1 : k = 0 ∧ c.ins ≤ n
  · rw [if_pos h1, kindAt_out (by omega)]; rfl
  · rw [if_neg h1]
set_option maxHeartbeats 2000000 in
theorem stepSave_no {W0 : World} {c : CodeV} {kv iv bv : Value} {X A I : Nat} {w : World} {i : Nat} {st : Known} (h : Ck W0 X A I c.body.length (xcs c kv iv bv) w i st) (hkv : SlC W0 kv c.kinds.length (i64s c.kinds)) (q : InsV) (hop : q.op = 3) (v : Value) (l : List Int) (hz : q.k ≠ 0 ∨ q.n < c.ins ∨ (c.kinds.length : Int) ≤ q.n) :
    Calls Try.prog 69 #[.pointer (some ⟨X, 0, none⟩), .int .i64 i, insA q, v] w (Flo W0 X A I c.body.length (xcs c kv iv bv) i (oneV c q i st l) w) := by
  obtain ⟨op, n, k⟩ := q
  simp only at hop
  subst hop
  have hx : Ext w (w.alloc (.cells #[.int .i64 3, .int .i64 n, .int .i64 k] 33)) := (Ext.refl _).alloc _
  have at0 := h.cells 0 _ rfl
  have at1 := h.cells 1 _ rfl
  obtain ⟨a, cap, rfl, hnc, hcm, hkc⟩ := hkv
  have hX := h.ltX
  rw [oneV_none (stepSave_none hz)]
  simp only at hz
  clear hkc
  by_cases h1 : k = 0
  · by_cases h2 : n < c.ins
    · have hd1 : (k != 0) = false := by simp [h1]
      have hd2 : decide (n < c.ins) = true := decide_eq_true h2
      clear hz
      go_enter Try.func69, Try.ntmps69
      go_wp2
      (refine region_drew (by kernel_rfl) (by kernel_rfl) ?_; (repeat (go_big_quiet_step (fail))); refine wpQuiet_nil ?_; rintro _ ⟨nq, rfl⟩)
      go_wp2
      go_ret
      exact Flo.no h.rw.base (by repeat first | exact Ext.refl _ | assumption | refine Ext.drew ?_ | refine Ext.drewN ?_ _ | refine Ext.extBy ?_ _ | refine Ext.alloc ?_ _ | refine Ext.setCell ?_ (by simp; try omega) _ | (refine Ext.trans ?_ (by assumption))) rfl
    · have h3 : (c.kinds.length : Int) ≤ n := by omega
      have hd1 : (k != 0) = false := by simp [h1]
      have hd2 : decide (n < c.ins) = false := decide_eq_false h2
      have hd3 : decide ((c.kinds.length : Int) ≤ n) = true := decide_eq_true h3
      clear hz
      go_enter Try.func69, Try.ntmps69
      go_wp2
      (refine region_drew (by kernel_rfl) (by kernel_rfl) ?_; (repeat (go_big_quiet_step (fail))); refine wpQuiet_nil ?_; rintro _ ⟨nq, rfl⟩)
      go_wp2
      go_ret
      exact Flo.no h.rw.base (by repeat first | exact Ext.refl _ | assumption | refine Ext.drew ?_ | refine Ext.drewN ?_ _ | refine Ext.extBy ?_ _ | refine Ext.alloc ?_ _ | refine Ext.setCell ?_ (by simp; try omega) _ | (refine Ext.trans ?_ (by assumption))) rfl
  · have hd1 : (k != 0) = true := by simpa using h1
    clear hz
    go_enter Try.func69, Try.ntmps69
    go_wp2
    (refine region_drew (by kernel_rfl) (by kernel_rfl) ?_; (repeat (go_big_quiet_step (fail))); refine wpQuiet_nil ?_; rintro _ ⟨nq, rfl⟩)
    go_wp2
    go_ret
    exact Flo.no h.rw.base (by repeat first | exact Ext.refl _ | assumption | refine Ext.drew ?_ | refine Ext.drewN ?_ _ | refine Ext.extBy ?_ _ | refine Ext.alloc ?_ _ | refine Ext.setCell ?_ (by simp; try omega) _ | (refine Ext.trans ?_ (by assumption))) rfl
set_option maxHeartbeats 2000000 in
theorem stepSave_any {W0 : World} {c : CodeV} {kv iv bv : Value} {X A I : Nat} {w : World} {i : Nat} {st : Known} (h : Ck W0 X A I c.body.length (xcs c kv iv bv) w i st) (hkv : SlC W0 kv c.kinds.length (i64s c.kinds)) (hin : 0 ≤ c.ins) (_hkl : c.kinds.length ≤ 8000) (q : InsV) (hop : q.op = 3) (hi : i + 1 < c.body.length) (hn : c.body.length ≤ 60000) (v : Value) (l : List Int) (hv : Stk .u8 A I w v l) (_hl : l.length ≤ 64) :
    Calls Try.prog 69 #[.pointer (some ⟨X, 0, none⟩), .int .i64 i, insA q, v] w (Flo W0 X A I c.body.length (xcs c kv iv bv) i (oneV c q i st l) w) := by
  by_cases hz : q.k ≠ 0 ∨ q.n < c.ins ∨ (c.kinds.length : Int) ≤ q.n
  · exact stepSave_no h hkv q hop v l hz
  obtain ⟨op, n, k⟩ := q
  simp only at hop hz
  obtain ⟨h1, h2, h3⟩ : k = 0 ∧ ¬ n < c.ins ∧ ¬ (c.kinds.length : Int) ≤ n := by omega
  subst hop
  have hA := h.rw.ltA
  have hI := h.rw.ltI
  have hx : Ext w (w.alloc (.cells #[.int .i64 3, .int .i64 n, .int .i64 k] 33)) := (Ext.refl _).alloc _
  have at0 := h.cells 0 _ rfl
  have at1 := h.cells 1 _ rfl
  obtain ⟨a, cap, rfl, hnc, hcm, hkc⟩ := hkv
  have hX := h.ltX
  have h4 : 0 ≤ n := by omega
  obtain ⟨kk, hkk⟩ : ∃ kk, c.kinds[n.toNat]? = some kk := ⟨_, List.getElem?_eq_getElem (by omega)⟩
  obtain ⟨b, o, rfl, hcell⟩ := hkc n.toNat (.int .i64 kk) (by simp [hkk])
  have hbl : b < W0.heap.size := World.block_lt_of_cell? W0 _ hcell
  have hcell := h.rw.base.cell hcell
  have hs : stepV c ⟨3, n, k⟩ l = popV l kk := by
    rw [stepV_3, if_pos ⟨h1, by omega⟩, kindAt_in h4 hkk]; rfl
  have hd1 : (k != 0) = false := by simp [h1]
  have hd2 : decide (n < c.ins) = false := decide_eq_false h2
  have hd3 : decide ((c.kinds.length : Int) ≤ n) = false := decide_eq_false h3
  have hbW := h.rw.base.size
  have hx2 : ∀ m, Ext w (((w.alloc (.cells #[.int .i64 3, .int .i64 n, .int .i64 k] 33)).alloc (.cells #[.int .i64 kk] 3)).drewN m) := fun m => (((Ext.refl _).alloc _).alloc _).drewN m
  have h5 : n < (c.kinds.length : Int) := by omega
  clear hkc hkk hz
  cases hp : popV l kk with
  | none =>
    rw [hp] at hs
    rw [oneV_none hs]
    have HP := Lib.hid hp
    clear hp hs h1
    go_enter Try.func69, Try.ntmps69
    go_wp2
    (refine region_drew (by kernel_rfl) (by kernel_rfl) ?_; (repeat (go_big_quiet_step (fail))); refine wpQuiet_nil ?_; rintro _ ⟨nq, rfl⟩)
    go_wp2
    go_region_held3 (fun w' => w'.cell? ⟨X, 0, none⟩ = some (.slice (some ⟨b, o, none⟩) c.kinds.length cap) ∧ w'.cell? ⟨w.heap.size, 1, none⟩ = some (.int .i64 n) ∧ w'.cell? ⟨b, o + n.toNat, none⟩ = some (.int .i64 kk))
      (first | go_keep)
      (first | (go_at_call 98; refine (pop1_no (hv.ext ((((Ext.refl w).alloc _).drewN _).alloc _)) kk (SlC.fresh _ #[.int .i64 kk] _ 1 _ (by simp) (by decide)) HP.out).mono ?_; rintro e w1 ⟨rfl, rfl⟩))
    go_wp2
    go_ret
    exact Flo.no h.rw.base (by repeat first | exact Ext.refl _ | assumption | refine Ext.drew ?_ | refine Ext.drewN ?_ _ | refine Ext.extBy ?_ _ | refine Ext.alloc ?_ _ | refine Ext.setCell ?_ (by simp; try omega) _ | (refine Ext.trans ?_ (by assumption))) rfl
  | some m =>
    rw [hp] at hs
    rw [oneV_next hs (by simp) hi]
    have HP := Lib.hid hp
    clear hp hs h1
    go_enter Try.func69, Try.ntmps69
    go_wp2
    (refine region_drew (by kernel_rfl) (by kernel_rfl) ?_; (repeat (go_big_quiet_step (fail))); refine wpQuiet_nil ?_; rintro _ ⟨nq, rfl⟩)
    go_wp2
    go_region_held3 (fun w' => w'.cell? ⟨X, 0, none⟩ = some (.slice (some ⟨b, o, none⟩) c.kinds.length cap) ∧ w'.cell? ⟨w.heap.size, 1, none⟩ = some (.int .i64 n) ∧ w'.cell? ⟨b, o + n.toNat, none⟩ = some (.int .i64 kk))
      (first | go_keep)
      (first | (go_at_call 98; refine (pop1_yes (hv.ext ((((Ext.refl w).alloc _).drewN _).alloc _)) kk (SlC.fresh _ #[.int .i64 kk] _ 1 _ (by simp) (by decide)) HP.out).mono ?_; rintro e w1 ⟨u, rfl, rfl, hs0⟩))
    go_wp2_with (first | (go_at_call 96; refine (flow_at (h.ext (by repeat first | exact Ext.refl _ | assumption | refine Ext.drew ?_ | refine Ext.drewN ?_ _ | refine Ext.extBy ?_ _ | refine Ext.alloc ?_ _ | refine Ext.setCell ?_ (by simp; try omega) _ | (refine Ext.trans ?_ (by assumption)))) _ (i + 1) (by simp) (by omega) u _ (hs0.ext (by repeat first | exact Ext.refl _ | assumption | refine Ext.drew ?_ | refine Ext.drewN ?_ _ | refine Ext.extBy ?_ _ | refine Ext.alloc ?_ _ | refine Ext.setCell ?_ (by simp; try omega) _ | (refine Ext.trans ?_ (by assumption))))).mono ?_; rintro e w2 hf; obtain ⟨b, rfl⟩ := hf.bool))
    go_ret
    exact hf.lift (by repeat first | exact Ext.refl _ | assumption | refine Ext.drew ?_ | refine Ext.drewN ?_ _ | refine Ext.extBy ?_ _ | refine Ext.alloc ?_ _ | refine Ext.setCell ?_ (by simp; try omega) _ | (refine Ext.trans ?_ (by assumption)))
end Go.Proofs.Ytipfcfaigbeakaa

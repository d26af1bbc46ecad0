/-
  The walks of the document's own checker: a program whose parts are as they must be is gone through.
  Conditions: its slices are no longer than the limits.
-/
import Derived.Test.YtipfcfaigbeakaaMCodeRefF
import Derived.Test.YtipfcfaigbeakaaMCodeWalkN
import Derived.Outline
namespace Go.Proofs.Ytipfcfaigbeakaa
open Go.RowKit
set_option maxRecDepth 100000

abbrev cbox (w : World) (c : CodeV) (kv iv bv : Value) : World := w.alloc (.cells #[kv, .int .i64 c.ins, .int .i64 c.outs, .int .i64 c.cells, .int .i64 c.stack, iv, bv] 25)
/-- The boxed program reads as it was boxed. -/
def BoxIs (w : World) (c : CodeV) (kv iv bv : Value) (wr : World) : Prop :=
  wr.cell? ⟨w.heap.size, 0, none⟩ = some kv ∧ wr.cell? ⟨w.heap.size, 1, none⟩ = some (.int .i64 c.ins) ∧ wr.cell? ⟨w.heap.size, 2, none⟩ = some (.int .i64 c.outs) ∧ wr.cell? ⟨w.heap.size, 3, none⟩ = some (.int .i64 c.cells) ∧ wr.cell? ⟨w.heap.size, 4, none⟩ = some (.int .i64 c.stack) ∧ wr.cell? ⟨w.heap.size, 5, none⟩ = some iv ∧ wr.cell? ⟨w.heap.size, 6, none⟩ = some bv
theorem BoxIs.of {w : World} {c : CodeV} {kv iv bv : Value} {wr : World} (hx : Ext (cbox w c kv iv bv) wr) : BoxIs w c kv iv bv wr :=
  ⟨hx.cell (by go_simp), hx.cell (by go_simp), hx.cell (by go_simp), hx.cell (by go_simp), hx.cell (by go_simp), hx.cell (by go_simp), hx.cell (by go_simp)⟩
theorem infoInts : (Try.prog.info? 22).map (fun i => (i.zero, i.size, i.bytes)) = some (some (.slice none 0 0), 1, 24) := by kernel_rfl

theorem oneV_high {c : CodeV} {q : InsV} {i : Nat} {st : Known} {l m : List Int} (h : stepV c q l = some m) (hm : c.stack < (m.length : Int)) : oneV c q i st l = none := by
  unfold oneV; rw [h]; exact if_neg (by omega)
theorem oneV_ways {c : CodeV} {q : InsV} {i : Nat} {st : Known} {l m : List Int} (h : stepV c q l = some m) (hm : ¬ c.stack < (m.length : Int)) : oneV c q i st l = (waysV q i c.body.length).bind (fun ws => putsV m ws st) := by
  unfold oneV; rw [h]; exact if_pos (by omega)
theorem putsV_snoc {l : List Int} : ∀ (ws vs : List Nat) (st st' : Known), putsV l ws st = some st' → putsV l (ws ++ vs) st = putsV l vs st'
  | [], vs, st, st', h => by simp only [putsV, Option.some.injEq] at h; subst h; rfl
  | w :: ws, vs, st, st', h => by
    simp only [putsV, List.cons_append] at h ⊢
    cases h1 : putV st w l with
    | none => rw [h1] at h; cases h
    | some s1 => rw [h1] at h; rw [Option.bind_some] at h ⊢; exact putsV_snoc ws vs s1 st' h

theorem putsV_at {l : List Int} {ws : List Nat} {k a : Nat} {st st' : Known} (ha : ws[k]? = some a) (h : putsV l (ws.take k) st = some st') :
    putsV l ws st = (putV st' a l).bind (putsV l (ws.drop (k + 1))) ∧ putsV l (ws.take (k + 1)) st = putV st' a l := by
  obtain ⟨hh, e⟩ := List.getElem?_eq_some_iff.1 ha
  constructor
  · have e0 : ws = ws.take k ++ (a :: ws.drop (k + 1)) := by rw [← e, ← List.drop_eq_getElem_cons hh, List.take_append_drop]
    have := putsV_snoc (l := l) (ws.take k) (a :: ws.drop (k + 1)) st st' h
    rw [← e0] at this
    rw [this]; rfl
  · rw [List.take_add_one, ha, Option.toList_some, putsV_snoc _ _ _ _ h]
    simp [putsV]
/-- The ways from an instruction, as a row of numbers. -/
def WaysIn (w : World) (g : Nat) (ws : List Nat) : Prop := g < w.heap.size ∧ ∀ (k a : Nat), ws[k]? = some a → w.cell? ⟨g, k, none⟩ = some (.int .i64 (a : Int))
theorem WaysIn.new (w : World) (t : TypeId) (arr : Array Value) (g : Nat) (ws : List Nat) (hg : g = w.heap.size) (ha : arr.toList = ws.map fun (a : Nat) => Value.int .i64 (a : Int)) : WaysIn (w.alloc (.cells arr t)) g ws := by
  refine ⟨by subst hg; simp, fun k a hk => ?_⟩
  rw [cell_of_row _ g k arr t (0, 0) (heap_alloc_at _ _ _ hg)]
  have : arr.toList[k]? = some (.int .i64 (a : Int)) := by rw [ha, List.getElem?_map, hk]; rfl
  simpa using this
theorem frm_put {A I : Nat} (w : World) (t : Nat) (v : Value) : Frm A I w (putW w A I t v) := fun b o h1 h2 _ => by
  rw [World.cell?_setCell_other _ _ _ _ (by first | (simp; done) | simp [Ne.symm h1]), World.cell?_setCell_other _ _ _ _ (by first | (simp; done) | simp [Ne.symm h2])]

set_option maxHeartbeats 4000000 in
theorem refCheck_run (c : CodeV) (kv iv bv : Value) (w : World) (h : CodeIn w kv iv bv c) (hbl : c.body.length ≤ 60000) (hkl : c.kinds.length ≤ 8000) (hst : c.stack ≤ 64) (hf : Formed c) :
    Calls Try.prog 19 #[codeA c kv iv bv] w fun e w' => e = .returned (.int .i64 (if (runV c c.body 0 start).isNone = true then 50 else 0)) ∧ Ext w w' := by
  obtain ⟨⟨ak, ck, rfl, hk1, hk2, hkc⟩, ⟨ai, ci, rfl, hi1, hi2, hic⟩, ⟨ab, cb, rfl, hb1, hb2, hbc⟩⟩ := id h
  have HK := Lib.hid hkc
  have HI := Lib.hid hic
  have HB := Lib.hid hbc
  clear hkc hic hbc
  have hln := nat64 hk1 hk2
  have hin := nat64 hi1 hi2
  have hbn := nat64 hb1 hb2
  clear hk1 hk2 hi1 hi2 hb1 hb2
  obtain ⟨rv, hrv⟩ : ∃ b : Int, b = (if (runV c c.body 0 start).isNone = true then 50 else 0) := ⟨_, rfl⟩
  rw [← hrv]
  have HRV := Lib.hid hrv
  clear hrv
  have f1 := hf.ins
  have f2 := hf.outs
  have f3 := hf.cells
  have f4 := hf.stack
  have f5 := hf.sum
  have f6 := hf.init
  have HF6 := Lib.hid f6
  have hd4 : ((c.init.length : Int) != c.cells) = false := by simp [f6]
  have hfi : c.cells ≤ (c.init.length : Int) := by omega
  have hfi2 : (c.init.length : Int) ≤ c.cells := by omega
  have h0n : 0 < c.body.length := by
    have := hf.last
    cases hb : c.body with
    | nil => rw [hb] at this; cases this
    | cons => simp
  have hd5 : ((c.body.length : Int) == 0) = false := by rw [beq_eq_false_iff_ne]; omega
  obtain ⟨ql, hql⟩ : ∃ q, c.body[c.body.length - 1]? = some q := ⟨_, List.getElem?_eq_getElem (by omega)⟩
  have hq9 : ql.op = 9 := by
    have := hf.last
    rw [List.getLast?_eq_getElem?, hql] at this
    simpa using this
  obtain ⟨bb, ob, rfl, hlast⟩ := HB.out ((c.body.length - 1) * 3) _ (insCells_at c.body _ ql hql).1
  rw [hq9] at hlast
  have hbz : bb < w.heap.size := World.block_lt_of_cell? w _ hlast
  have hmk1 := run_make_row' (P := Try.prog) 51 22 (.slice none 0 0) 24 Try.underlying51 infoInts rfl .i64 .i64 c.body.length (by omega) (by omega)
  have hmk2 := run_make_row' (P := Try.prog) 80 4 (.bool false) 1 Try.underlying80 infoBool rfl .i64 .i64 c.body.length (by omega) (by omega)
  clear f6 hql hq9
  simp only [codeA]
  go_enter Try.func19, Try.ntmps19
  go_wp2
  go_loop [4] (fun i => ∃ j : Nat, j ≤ c.kinds.length ∧ i = .int .i64 j) (fun i => c.kinds.length - (intOf i).toNat)
  case atStart => exact ⟨0, Nat.zero_le _, rfl⟩
  case round =>
    obtain ⟨j, hj, rfl⟩ := hrel
    by_cases hlt : j < c.kinds.length
    · obtain ⟨x, hx⟩ : ∃ x, c.kinds[j]? = some x := ⟨_, List.getElem?_eq_getElem hlt⟩
      obtain ⟨b, o, rfl, hcell⟩ := HK.out j (.int .i64 x) (by simp [hx])
      have hbz2 : b < w.heap.size := World.block_lt_of_cell? w _ hcell
      have hw : (width x == 0) = false := by rw [beq_eq_false_iff_ne]; exact hf.kinds j x hx
      clear hx
      go_wp2_with (first | (go_at_call 44; refine (refWidth_any _ _).mono ?_; rintro e w1 ⟨rfl, rfl⟩))
      go_round
      case rel => exact ⟨j + 1, by omega, by go_num⟩
      case measure => simp [intOf]; omega
    · obtain rfl : j = c.kinds.length := by omega
      clear hlt hj
      go_wp2
      go_loopw [5] (fun i wr => ∃ j : Nat, j ≤ c.init.length ∧ i = .int .i64 j ∧ Ext (cbox w c (.slice ak c.kinds.length ck) (.slice ai c.init.length ci) (.slice (some ⟨bb, ob, none⟩) c.body.length cb)) wr) (fun i _ => c.init.length - (intOf i).toNat)
      case atStart => exact ⟨0, Nat.zero_le _, rfl, Ext.refl _⟩
      case round =>
        obtain ⟨j, hj, rfl, hxr⟩ := hrel
        have hbx := BoxIs.of hxr
        obtain ⟨q0, q1, q2, q3, q4, q5, q6⟩ := id hbx
        have hwr : Ext w wr := ((Ext.refl w).alloc _).trans hxr
        by_cases hlt : j < c.init.length
        · obtain ⟨y, hy⟩ : ∃ y, c.init[j]? = some y := ⟨_, List.getElem?_eq_getElem hlt⟩
          have hlk : c.ins.toNat + c.outs.toNat + j < c.kinds.length := by omega
          obtain ⟨x, hx⟩ : ∃ x, c.kinds[c.ins.toNat + c.outs.toNat + j]? = some x := ⟨_, List.getElem?_eq_getElem hlk⟩
          obtain ⟨b, o, rfl, hcell⟩ := HK.out (c.ins.toNat + c.outs.toNat + j) (.int .i64 x) (by simp [hx])
          obtain ⟨b2, o2, rfl, hcell2⟩ := HI.out j (.int .i64 y) (by simp [hy])
          have hw : isk x y = true := hf.vals j x y hx hy
          rw [show c.ins.toNat + c.outs.toNat + j = (c.ins + c.outs + (j : Int)).toNat by omega] at hcell
          have g1 := hwr.cell hcell
          have g2 := hwr.cell hcell2
          have hp1 : IntKind.i64.wrap (c.ins + c.outs) = c.ins + c.outs := IntWalk.i64_in _ (by omega)
          have hp2 : IntKind.i64.wrap (c.ins + c.outs + (j : Int)) = c.ins + c.outs + (j : Int) := IntWalk.i64_in _ (by omega)
          have hp3 : (0 : Int) ≤ c.ins + c.outs + (j : Int) := by omega
          have hp4 : c.ins + c.outs + (j : Int) < (c.kinds.length : Int) := by omega
          have hjc : (j : Int) < c.cells := by omega
          clear hx hy hbx
          go_wp2
          (refine region_drew (by kernel_rfl) (by kernel_rfl) ?_; (repeat (go_big_quiet_step (exact in_drew (refIs_any _ _ _)))); refine wpQuiet_nil ?_; rintro _ ⟨nq, rfl⟩)
          go_wp2
          go_roundw
          case rel => exact ⟨j + 1, by omega, by go_num, (by repeat first | exact Ext.refl _ | assumption | refine Ext.drew ?_ | refine Ext.drewN ?_ _ | refine Ext.extBy ?_ _ | refine Ext.alloc ?_ _ | refine Ext.setCell ?_ (by simp; try omega) _ | (refine Ext.trans ?_ (by assumption)))⟩
          case measure => simp [intOf]; omega
        · obtain rfl : j = c.init.length := by omega
          clear hlt hj
          have hl1 := hwr.cell hlast
          go_wp2
          go_loop [7] (fun i => ∃ j : Nat, j ≤ c.body.length ∧ i = .int .i64 j) (fun i => c.body.length - (intOf i).toNat)
          case atStart => exact ⟨0, Nat.zero_le _, rfl⟩
          case round =>
            obtain ⟨j, hj, rfl⟩ := hrel
            by_cases hlt : j < c.body.length
            · obtain ⟨q, hq⟩ : ∃ q, c.body[j]? = some q := ⟨_, List.getElem?_eq_getElem hlt⟩
              obtain ⟨b, o, e0, g0⟩ := HB.out (j * 3) _ (insCells_at c.body j q hq).1
              simp only [Option.some.injEq, Addr.mk.injEq] at e0
              obtain ⟨rfl, rfl, -⟩ := e0
              have g1 := hwr.cell g0
              have ho1 : ¬ q.op < 1 := by have := hf.ops j q hq; omega
              have ho2 : ¬ 9 < q.op := by have := hf.ops j q hq; omega
              clear hq g0
              go_wp2
              go_round
              case rel => exact ⟨j + 1, by omega, by go_num⟩
              case measure => simp [intOf]; omega
            · obtain rfl : j = c.body.length := by omega
              clear hlt hj hl1
              obtain ⟨wo, rfl⟩ : ∃ wo : World, wo = wr := ⟨_, rfl⟩
              have hwo : w.heap.size < wo.heap.size := by have := hxr.size; simp at this; omega
              go_upto_region 28 with fail
              have r1 := (World.rowIs_made wo (.slice none 0 0) c.body.length 22).alloc (.cells (madeCells #[.bool false] c.body.length) 4)
              have r2 : ((wo.alloc (.cells (madeCells #[.slice none 0 0] c.body.length) 22)).alloc (.cells (madeCells #[.bool false] c.body.length) 4)).rowIs (wo.heap.size + 1) 4 c.body.length (fun _ => .bool false) := by
                have := World.rowIs_made (wo.alloc (.cells (madeCells #[.slice none 0 0] c.body.length) 22)) (.bool false) c.body.length 4; simpa using this
              have hx2 : Ext wo ((wo.alloc (.cells (madeCells #[.slice none 0 0] c.body.length) 22)).alloc (.cells (madeCells #[.bool false] c.body.length) 4)) := (by repeat first | exact Ext.refl _ | assumption | refine Ext.drew ?_ | refine Ext.drewN ?_ _ | refine Ext.extBy ?_ _ | refine Ext.alloc ?_ _ | refine Ext.setCell ?_ (by simp; try omega) _ | (refine Ext.trans ?_ (by assumption)))
              generalize ((wo.alloc (.cells (madeCells #[.slice none 0 0] c.body.length) 22)).alloc (.cells (madeCells #[.bool false] c.body.length) 4)) = w2 at r1 r2 hx2 ⊢
              have hx3 := hxr.trans hx2
              have i0 := r2.cell h0n
              have f0 := r2.frozen 0
              go_wp2
              go_loopw [10] (fun i wr => ∃ (j : Nat) (st : Known), j ≤ c.body.length ∧ i = .int .i64 j ∧ Rw .i64 (cbox w c (.slice ak c.kinds.length ck) (.slice ai c.init.length ci) (.slice (some ⟨bb, ob, none⟩) c.body.length cb)) wo.heap.size (wo.heap.size + 1) c.body.length wr j st ∧ Hid (StOk c.stack st) ∧ Hid (runV c (c.body.drop j) j st = runV c c.body 0 start)) (fun i _ => c.body.length - (intOf i).toNat)
              case atStart => exact ⟨0, start, Nat.zero_le _, rfl, Rw.first (tA := 22) (tI := 4) hx3 (by have := hxr.size; exact this) (by have := hxr.size; omega) (by omega) r1 r2, Lib.hid (StOk.start hf.stack), Lib.hid rfl⟩
              case round =>
                obtain ⟨j, st, hj, rfl, hrw, HST, HRU⟩ := hrel
                have hbx := BoxIs.of hrw.base
                obtain ⟨p0, p1, p2, p3, p4, p5, p6⟩ := id hbx
                by_cases hlt : j < c.body.length
                · have hwx : Ext w wr := ((Ext.refl w).alloc _).trans hrw.base
                  obtain ⟨q, hq⟩ : ∃ q, c.body[j]? = some q := ⟨_, List.getElem?_eq_getElem hlt⟩
                  have hcs := insCells_at c.body j q hq
                  obtain ⟨b', o', e0, g0⟩ := HB.out (j * 3) _ hcs.1
                  simp only [Option.some.injEq, Addr.mk.injEq] at e0
                  obtain ⟨rfl, rfl, -⟩ := e0
                  obtain ⟨b', o', e0, g1⟩ := HB.out (j * 3 + 1) _ hcs.2.1
                  simp only [Option.some.injEq, Addr.mk.injEq] at e0
                  obtain ⟨rfl, rfl, -⟩ := e0
                  obtain ⟨b', o', e0, g2⟩ := HB.out (j * 3 + 2) _ hcs.2.2
                  simp only [Option.some.injEq, Addr.mk.injEq] at e0
                  obtain ⟨rfl, rfl, -⟩ := e0
                  replace g0 := hwx.cell g0
                  replace g1 := hwx.cell g1
                  replace g2 := hwx.cell g2
                  rw [← Nat.add_assoc] at g1 g2
                  have ho := hf.ops j q hq
                  have hin' := hrw.inn j hlt
                  obtain ⟨u, hat, hstk⟩ := hrw.att j hlt
                  have gA := hrw.ltA
                  have gI := hrw.ltI
                  have HRS := Lib.hid (run_step hq st)
                  have HA := Lib.hid (advV_one c q j st)
                  have HQ := Lib.hid hq
                  clear hq hcs
                  cases hstj : st j with
                  | none =>
                    rw [hstj] at hin'
                    have hin2 : wr.cell? ⟨wo.heap.size + 1, j, none⟩ = some (.bool false) := hin'
                    have HA' : Hid (advV c q j st = some st) := Lib.hid (by rw [HA.out, hstj])
                    clear hin' hstj hstk
                    go_wp2
                    go_roundw
                    case rel => exact ⟨j + 1, st, by omega, by go_num, hrw.next, HST, Lib.hid (by rw [← HRU.out, HRS.out, HA'.out]; rfl)⟩
                    case measure => simp [intOf]; omega
                  | some l =>
                    rw [hstj] at hin'
                    have hin2 : wr.cell? ⟨wo.heap.size + 1, j, none⟩ = some (.bool true) := hin'
                    have hstk := hstk (Nat.le_refl _) l hstj
                    have hll : l.length ≤ 64 := by have := HST.out j l hstj; omega
                    have HA' : Hid (advV c q j st = oneV c q j st l) := Lib.hid (by rw [HA.out, hstj])
                    obtain ⟨a, cp, e0, _⟩ := id hstk.1
                    subst e0
                    clear hin' hstj
                    have ho0 := hwo
                    have HBX : Hid (∀ w', Ext (wr.alloc (.cells #[.int .i64 q.op, .int .i64 q.n, .int .i64 q.k] 33)) w' → w'.cell? ⟨w.heap.size, 0, none⟩ = some (.slice ak c.kinds.length ck) ∧ w'.cell? ⟨w.heap.size, 1, none⟩ = some (.int .i64 c.ins) ∧ w'.cell? ⟨w.heap.size, 2, none⟩ = some (.int .i64 c.outs) ∧ w'.cell? ⟨w.heap.size, 3, none⟩ = some (.int .i64 c.cells) ∧ w'.cell? ⟨w.heap.size, 4, none⟩ = some (.int .i64 c.stack) ∧ w'.cell? ⟨w.heap.size, 5, none⟩ = some (.slice ai c.init.length ci) ∧ w'.cell? ⟨w.heap.size, 6, none⟩ = some (.slice (some ⟨bb, ob, none⟩) c.body.length cb) ∧ w'.cell? ⟨wr.heap.size, 0, none⟩ = some (.int .i64 q.op) ∧ w'.cell? ⟨wr.heap.size, 1, none⟩ = some (.int .i64 q.n) ∧ w'.cell? ⟨wr.heap.size, 2, none⟩ = some (.int .i64 q.k) ∧ w'.cell? ⟨wo.heap.size, j, none⟩ = some (.slice a l.length cp)) := Lib.hid fun w' hx' => by
                      obtain ⟨z0, z1, z2, z3, z4, z5, z6⟩ := BoxIs.of ((hrw.base.trans ((Ext.refl wr).alloc (.cells #[.int .i64 q.op, .int .i64 q.n, .int .i64 q.k] 33))).trans hx')
                      exact ⟨z0, z1, z2, z3, z4, z5, z6, hx'.cell (by go_simp), hx'.cell (by go_simp), hx'.cell (by go_simp), hx'.cell (((Ext.refl wr).alloc _).cell hat)⟩
                    have HSTEP : Hid (∀ w1, Ext wr w1 → Calls Try.prog 46 #[codeA c (.slice ak c.kinds.length ck) (.slice ai c.init.length ci) (.slice (some ⟨bb, ob, none⟩) c.body.length cb), insA q, .slice a l.length cp] w1 (StepR wo.heap.size (wo.heap.size + 1) w1 (stepV c q l))) := Lib.hid fun w1 h1 => refStep_any _ _ c _ _ _ _ q l w1 hf ho (Nat.lt_of_lt_of_le gA h1.size) (Nat.lt_of_lt_of_le gI h1.size) (hstk.ext h1) hll ((h.kinds.ext hwx).ext h1)
                    go_upto_region 34 with fail
                    go_cut [12, 13] (fun s12 s13 wx => ∃ u1 b1, s12 = u1 ∧ s13 = .bool b1 ∧ Ext (wr.alloc (.cells #[.int .i64 q.op, .int .i64 q.n, .int .i64 q.k] 33)) wx ∧ ∃ w1, StepR wo.heap.size (wo.heap.size + 1) w1 (stepV c q l) (.returned (.tuple #[u1, .bool b1])) wx)
                    case first =>
                      go_region_held3 (fun w' => w'.cell? ⟨w.heap.size, 0, none⟩ = some (.slice ak c.kinds.length ck) ∧ w'.cell? ⟨w.heap.size, 1, none⟩ = some (.int .i64 c.ins) ∧ w'.cell? ⟨w.heap.size, 2, none⟩ = some (.int .i64 c.outs) ∧ w'.cell? ⟨w.heap.size, 3, none⟩ = some (.int .i64 c.cells) ∧ w'.cell? ⟨w.heap.size, 4, none⟩ = some (.int .i64 c.stack) ∧ w'.cell? ⟨w.heap.size, 5, none⟩ = some (.slice ai c.init.length ci) ∧ w'.cell? ⟨w.heap.size, 6, none⟩ = some (.slice (some ⟨bb, ob, none⟩) c.body.length cb) ∧ w'.cell? ⟨wr.heap.size, 0, none⟩ = some (.int .i64 q.op) ∧ w'.cell? ⟨wr.heap.size, 1, none⟩ = some (.int .i64 q.n) ∧ w'.cell? ⟨wr.heap.size, 2, none⟩ = some (.int .i64 q.k) ∧ w'.cell? ⟨wo.heap.size, j, none⟩ = some (.slice a l.length cp))
                        (first | exact HBX.out _ (by repeat first | exact Ext.refl _ | assumption | refine Ext.drew ?_ | refine Ext.drewN ?_ _ | refine Ext.extBy ?_ _ | refine Ext.alloc ?_ _ | refine Ext.setCell ?_ (by simp; try omega) _ | (refine Ext.trans ?_ (by assumption))))
                        (first | (go_at_call 46; refine (HSTEP.out _ (by repeat first | exact Ext.refl _ | assumption | refine Ext.drew ?_ | refine Ext.drewN ?_ _ | refine Ext.extBy ?_ _ | refine Ext.alloc ?_ _ | refine Ext.setCell ?_ (by simp; try omega) _ | (refine Ext.trans ?_ (by assumption)))).mono ?_; rintro e w1 hst1; obtain ⟨u1, b1, rfl, -, -, -⟩ := hst1.2; have hE1 : Ext (wr.alloc (.cells #[.int .i64 q.op, .int .i64 q.n, .int .i64 q.k] 33)) w1 := (show Ext _ _ from (by repeat first | exact Ext.refl _ | assumption | refine Ext.drew ?_ | refine Ext.drewN ?_ _ | refine Ext.extBy ?_ _ | refine Ext.alloc ?_ _ | refine Ext.setCell ?_ (by simp; try omega) _ | (refine Ext.trans ?_ (by assumption)))).trans hst1.1))
                      all_goals (go_wp2_with fail; go_meet; exact ⟨u1, b1, rfl, rfl, hE1, _, hst1⟩)
                    case rest =>
                      obtain ⟨u1, b1, rfl, rfl, hE1, w1, _, u2, b2, e1, hbb, hsl, hmm⟩ := hcut
                      simp only [Ending.returned.injEq, Value.tuple.injEq, Array.mk.injEq, List.cons.injEq, Value.bool.injEq, and_true] at e1
                      obtain ⟨e2, e3⟩ := e1
                      subst e2
                      subst e3
                      obtain ⟨z0, z1, z2, z3, z4, z5, z6, z7, z8, z9, z10⟩ := HBX.out _ hE1
                      have hwc : wr.heap.size < wc.heap.size := by have := hE1.size; simp at this; omega
                      have hwc2 : w.heap.size < wc.heap.size := by omega
                      have hwc3 : wo.heap.size + 1 < wc.heap.size := by omega
                      cases hsv : stepV c q l with
                      | none =>
                        rw [hsv] at hbb
                        subst hbb
                        have HV : Hid (rv = 50) := Lib.hid (by rw [HRV.out, ← HRU.out, HRS.out, HA'.out, oneV_none hsv]; rfl)
                        clear hsv hmm hsl
                        go_wp2
                        go_ret
                        exact ⟨by rw [HV.out]; rfl, ((Ext.refl w).alloc _).trans (hrw.base.trans (((Ext.refl wr).alloc _).trans hE1))⟩
                      | some m =>
                        rw [hsv] at hbb
                        subst hbb
                        have hstm := hmm m hsv
                        obtain ⟨am, cm, e0, hm1, hm2, _⟩ := id hstm.1
                        subst e0
                        have hwm := nat64 hm1 hm2
                        clear hm1 hm2 hmm hsl
                        have HSV := Lib.hid hsv
                        clear hsv
                        by_cases hml : c.stack < (m.length : Int)
                        · have HV : Hid (rv = 50) := Lib.hid (by rw [HRV.out, ← HRU.out, HRS.out, HA'.out, oneV_high HSV.out hml]; rfl)
                          go_wp2
                          go_ret
                          exact ⟨by rw [HV.out]; rfl, ((Ext.refl w).alloc _).trans (hrw.base.trans (((Ext.refl wr).alloc _).trans hE1))⟩
                        · go_upto_region 38 with fail
                          by_cases h9 : q.op = 9
                          · rw [h9] at z7
                            have HONE : Hid (oneV c q j st l = some st) := Lib.hid (oneV_end HSV.out h9 (by omega))
                            clear h9
                            go_wp2
                            refine wp_loop_rounds 1 ?_
                            rw [rounds_succ]
                            go_wp2
                            go_roundw
                            case rel => exact ⟨j + 1, st, by omega, by go_num, (hrw.ext (((Ext.refl wr).alloc _).trans hE1)).next, HST, Lib.hid (by rw [← HRU.out, HRS.out, HA'.out, HONE.out]; rfl)⟩
                            case measure => simp [intOf]; omega
                          by_cases h7 : q.op = 7
                          · rw [h7] at z7
                            by_cases hz : 0 ≤ q.n ∧ q.n < (c.body.length : Int) - j - 1
                            · obtain ⟨nn, hnn⟩ := Int.eq_ofNat_of_zero_le hz.1
                              have HWV : Hid (waysV q j c.body.length = some [j + 1 + nn]) := Lib.hid (by unfold waysV; rw [if_pos h7, if_pos hz, hnn]; simp)
                              have hwb : ∀ a ∈ [j + 1 + nn], j < a ∧ a < c.body.length := fun a ha => by have := hz.2; simp at ha; omega
                              have hn2 : (nn : Int) < (c.body.length : Int) - j - 1 := by have := hz.2; omega
                              rw [hnn] at z8
                              clear h7 h9 hz hnn
                              go_wp2
                              have hWI : WaysIn (wc.alloc (.cells #[.int .i64 ((j : Int) + 1 + (nn : Int))] 3)) wc.heap.size [j + 1 + nn] := WaysIn.new _ _ _ _ _ (by simp) (by simp)
                              have hEW : Ext wr (wc.alloc (.cells #[.int .i64 ((j : Int) + 1 + (nn : Int))] 3)) := (((Ext.refl wr).alloc _).trans hE1).trans (by repeat first | exact Ext.refl _ | assumption | refine Ext.drew ?_ | refine Ext.drewN ?_ _ | refine Ext.extBy ?_ _ | refine Ext.alloc ?_ _ | refine Ext.setCell ?_ (by simp; try omega) _ | (refine Ext.trans ?_ (by assumption)))
                              go_loopw [15] (fun i w3 => ∃ (k : Nat) (st' : Known), k ≤ 1 ∧ i = .int .i64 k ∧ Rw .i64 (cbox w c (.slice ak c.kinds.length ck) (.slice ai c.init.length ci) (.slice (some ⟨bb, ob, none⟩) c.body.length cb)) wo.heap.size (wo.heap.size + 1) c.body.length w3 j st' ∧ Hid (putsV m (([j + 1 + nn] : List Nat).take k) st = some st') ∧ Frm wo.heap.size (wo.heap.size + 1) (wc.alloc (.cells #[.int .i64 ((j : Int) + 1 + (nn : Int))] 3)) w3 ∧ (wc.alloc (.cells #[.int .i64 ((j : Int) + 1 + (nn : Int))] 3)).heap.size ≤ w3.heap.size) (fun i _ => 1 - (intOf i).toNat)
                              case atStart => exact ⟨0, st, Nat.zero_le _, rfl, hrw.ext hEW, Lib.hid rfl, Frm.of_ext (Ext.refl _), Nat.le_refl _⟩
                              case round =>
                                obtain ⟨k, st', hk, rfl, hr3, HP, hfr, hsz⟩ := hrel
                                by_cases hlk : k < 1
                                · obtain ⟨a, ha⟩ : ∃ a, ([j + 1 + nn] : List Nat)[k]? = some a := ⟨_, List.getElem?_eq_getElem hlk⟩
                                  have hab : j < a ∧ a < c.body.length := hwb a (List.mem_of_getElem? ha)
                                  have hwa := hfr.cell (by simp; omega) (by simp; omega) (hWI.2 k a ha)
                                  have hia := hr3.inn a hab.2
                                  obtain ⟨u3, hat3, hst3⟩ := hr3.att a hab.2
                                  have fzA := hr3.fzA a hab.2
                                  have fzI := hr3.fzI a hab.2
                                  have gA3 := hr3.ltA
                                  have gI3 := hr3.ltI
                                  have hstm3 := ((hstm.ext (show Ext wc (wc.alloc (.cells #[.int .i64 ((j : Int) + 1 + (nn : Int))] 3)) from (by repeat first | exact Ext.refl _ | assumption | refine Ext.drew ?_ | refine Ext.drewN ?_ _ | refine Ext.extBy ?_ _ | refine Ext.alloc ?_ _ | refine Ext.setCell ?_ (by simp; try omega) _ | (refine Ext.trans ?_ (by assumption))))).frm hfr)
                                  obtain ⟨hcat, hadv⟩ := putsV_at ha HP.out
                                  have HCAT := Lib.hid hcat
                                  have HADV := Lib.hid hadv
                                  clear ha hcat hadv
                                  cases hs3 : st' a with
                                  | none =>
                                    rw [hs3] at hia
                                    have hia2 : _ = some (Value.bool false) := hia
                                    have hput : putV st' a m = some (fun i => if i = a then some m else st' i) := by unfold putV; rw [hs3]
                                    have HPN := Lib.hid (HADV.out.trans hput)
                                    clear hs3 hia hst3 hput
                                    go_wp2
                                    go_roundw
                                    case rel => exact ⟨k + 1, _, by omega, by go_num, hr3.new a hab.2 _ m hstm3, HPN, hfr.trans (frm_put _ _ _) hsz, by simpa using hsz⟩
                                    case measure => simp [intOf]; omega
                                  | some m0 =>
                                    rw [hs3] at hia
                                    have hia2 : _ = some (Value.bool true) := hia
                                    have hm0 := hst3 (by omega) m0 hs3
                                    by_cases hmm0 : m0 = m
                                    · have hput : putV st' a m = some st' := by unfold putV; rw [hs3]; simp [hmm0]
                                      have hfun : (fun i => if i = a then some m else st' i) = st' := by funext i; by_cases hi : i = a <;> simp [hi, hs3, hmm0]
                                      have HPN := Lib.hid (HADV.out.trans hput)
                                      have HFN := Lib.hid hfun
                                      have HMM := Lib.hid hmm0
                                      obtain ⟨a3, c3, e3, _⟩ := id hm0.1
                                      subst e3
                                      clear hs3 hia hst3 hput hfun hmm0
                                      go_wp2_with (first | (go_at_call 47; refine (refSame_any m0 m _ _ _ hm0.1 hstm3.1).mono ?_; rintro e w4 ⟨he, hx4⟩; rw [decide_eq_true HMM.out] at he; subst he; (first | (with_reducible obtain ⟨t4, rfl⟩ := Ext.tok2 hx4) | (obtain ⟨t4, rfl⟩ := Ext.tok hx4))))
                                      go_roundw
                                      case rel => exact ⟨k + 1, st', by omega, by go_num, by have := (hr3.ext (Ext.by _ t4)).new a hab.2 _ m (hstm3.ext (Ext.by _ t4)); rw [HFN.out] at this; exact this, HPN, (hfr.trans (Frm.of_ext (Ext.by _ t4)) hsz).trans (frm_put _ _ _) (Nat.le_trans hsz (Ext.by _ t4).size), by simpa using Nat.le_trans hsz (Ext.by _ t4).size⟩
                                      case measure => simp [intOf]; omega
                                    · have hput : putV st' a m = none := by unfold putV; rw [hs3]; simp [hmm0]
                                      have HV : Hid (rv = 50) := Lib.hid (by rw [HRV.out, ← HRU.out, HRS.out, HA'.out, oneV_ways HSV.out (by omega), HWV.out, Option.bind_some, HCAT.out, hput]; rfl)
                                      have HMM := Lib.hid hmm0
                                      obtain ⟨a3, c3, e3, _⟩ := id hm0.1
                                      subst e3
                                      clear hs3 hia hst3 hput hmm0
                                      go_wp2_with (first | (go_at_call 47; refine (refSame_any m0 m _ _ _ hm0.1 hstm3.1).mono ?_; rintro e w4 ⟨he, hx4⟩; rw [decide_eq_false HMM.out] at he; subst he; (first | (with_reducible obtain ⟨t4, rfl⟩ := Ext.tok2 hx4) | (obtain ⟨t4, rfl⟩ := Ext.tok hx4))))
                                      go_ret
                                      exact ⟨by rw [HV.out]; rfl, ((Ext.refl w).alloc _).trans (hr3.base.trans (Ext.by _ t4))⟩
                                · obtain rfl : k = 1 := by omega
                                  have HONE : Hid (oneV c q j st l = some st') := Lib.hid (by rw [oneV_ways HSV.out (by omega), HWV.out, Option.bind_some]; exact HP.out)
                                  clear hlk hk
                                  go_wp2
                                  go_roundw
                                  case rel => exact ⟨j + 1, st', by omega, by go_num, hr3.next, Lib.hid (HST.out.one HONE.out), Lib.hid (by rw [← HRU.out, HRS.out, HA'.out, HONE.out]; rfl)⟩
                                  case measure => simp [intOf]; omega
                            · have HV : Hid (rv = 50) := Lib.hid (by rw [HRV.out, ← HRU.out, HRS.out, HA'.out, oneV_out (.inl h7) hz]; rfl)
                              by_cases hz0 : q.n < 0
                              · clear hz h7 h9
                                go_wp2
                                go_ret
                                exact ⟨by rw [HV.out]; rfl, ((Ext.refl w).alloc _).trans (hrw.base.trans (((Ext.refl wr).alloc _).trans hE1))⟩
                              · have hz1 : (c.body.length : Int) - j - 1 ≤ q.n := by omega
                                clear hz h7 h9
                                go_wp2
                                go_ret
                                exact ⟨by rw [HV.out]; rfl, ((Ext.refl w).alloc _).trans (hrw.base.trans (((Ext.refl wr).alloc _).trans hE1))⟩
                          by_cases h8 : q.op = 8
                          · rw [h8] at z7
                            by_cases hz : 0 ≤ q.n ∧ q.n < (c.body.length : Int) - j - 1
                            · obtain ⟨nn, hnn⟩ := Int.eq_ofNat_of_zero_le hz.1
                              have HWV : Hid (waysV q j c.body.length = some [j + 1, j + 1 + nn]) := Lib.hid (by unfold waysV; rw [if_neg h7, if_pos h8, if_pos hz, hnn]; simp)
                              have hwb : ∀ a ∈ [j + 1, j + 1 + nn], j < a ∧ a < c.body.length := fun a ha => by have := hz.2; simp at ha; omega
                              have hn2 : (nn : Int) < (c.body.length : Int) - j - 1 := by have := hz.2; omega
                              rw [hnn] at z8
                              clear h7 h8 h9 hz hnn
                              go_wp2
                              have hWI : WaysIn ((wc.alloc (.cells #[.int .i64 ((j : Int) + 1 + (nn : Int))] 3)).alloc (.cells #[.int .i64 ((j : Int) + 1), .int .i64 ((j : Int) + 1 + (nn : Int))] 3)) (wc.heap.size + 1) [j + 1, j + 1 + nn] := WaysIn.new _ _ _ _ _ (by simp) (by simp)
                              have hEW : Ext wr ((wc.alloc (.cells #[.int .i64 ((j : Int) + 1 + (nn : Int))] 3)).alloc (.cells #[.int .i64 ((j : Int) + 1), .int .i64 ((j : Int) + 1 + (nn : Int))] 3)) := (((Ext.refl wr).alloc _).trans hE1).trans (by repeat first | exact Ext.refl _ | assumption | refine Ext.drew ?_ | refine Ext.drewN ?_ _ | refine Ext.extBy ?_ _ | refine Ext.alloc ?_ _ | refine Ext.setCell ?_ (by simp; try omega) _ | (refine Ext.trans ?_ (by assumption)))
                              go_loopw [15] (fun i w3 => ∃ (k : Nat) (st' : Known), k ≤ 2 ∧ i = .int .i64 k ∧ Rw .i64 (cbox w c (.slice ak c.kinds.length ck) (.slice ai c.init.length ci) (.slice (some ⟨bb, ob, none⟩) c.body.length cb)) wo.heap.size (wo.heap.size + 1) c.body.length w3 j st' ∧ Hid (putsV m (([j + 1, j + 1 + nn] : List Nat).take k) st = some st') ∧ Frm wo.heap.size (wo.heap.size + 1) ((wc.alloc (.cells #[.int .i64 ((j : Int) + 1 + (nn : Int))] 3)).alloc (.cells #[.int .i64 ((j : Int) + 1), .int .i64 ((j : Int) + 1 + (nn : Int))] 3)) w3 ∧ ((wc.alloc (.cells #[.int .i64 ((j : Int) + 1 + (nn : Int))] 3)).alloc (.cells #[.int .i64 ((j : Int) + 1), .int .i64 ((j : Int) + 1 + (nn : Int))] 3)).heap.size ≤ w3.heap.size) (fun i _ => 2 - (intOf i).toNat)
                              case atStart => exact ⟨0, st, Nat.zero_le _, rfl, hrw.ext hEW, Lib.hid rfl, Frm.of_ext (Ext.refl _), Nat.le_refl _⟩
                              case round =>
                                obtain ⟨k, st', hk, rfl, hr3, HP, hfr, hsz⟩ := hrel
                                by_cases hlk : k < 2
                                · obtain ⟨a, ha⟩ : ∃ a, ([j + 1, j + 1 + nn] : List Nat)[k]? = some a := ⟨_, List.getElem?_eq_getElem hlk⟩
                                  have hab : j < a ∧ a < c.body.length := hwb a (List.mem_of_getElem? ha)
                                  have hwa := hfr.cell (by simp; omega) (by simp; omega) (hWI.2 k a ha)
                                  have hia := hr3.inn a hab.2
                                  obtain ⟨u3, hat3, hst3⟩ := hr3.att a hab.2
                                  have fzA := hr3.fzA a hab.2
                                  have fzI := hr3.fzI a hab.2
                                  have gA3 := hr3.ltA
                                  have gI3 := hr3.ltI
                                  have hstm3 := ((hstm.ext (show Ext wc ((wc.alloc (.cells #[.int .i64 ((j : Int) + 1 + (nn : Int))] 3)).alloc (.cells #[.int .i64 ((j : Int) + 1), .int .i64 ((j : Int) + 1 + (nn : Int))] 3)) from (by repeat first | exact Ext.refl _ | assumption | refine Ext.drew ?_ | refine Ext.drewN ?_ _ | refine Ext.extBy ?_ _ | refine Ext.alloc ?_ _ | refine Ext.setCell ?_ (by simp; try omega) _ | (refine Ext.trans ?_ (by assumption))))).frm hfr)
                                  obtain ⟨hcat, hadv⟩ := putsV_at ha HP.out
                                  have HCAT := Lib.hid hcat
                                  have HADV := Lib.hid hadv
                                  clear ha hcat hadv
                                  cases hs3 : st' a with
                                  | none =>
                                    rw [hs3] at hia
                                    have hia2 : _ = some (Value.bool false) := hia
                                    have hput : putV st' a m = some (fun i => if i = a then some m else st' i) := by unfold putV; rw [hs3]
                                    have HPN := Lib.hid (HADV.out.trans hput)
                                    clear hs3 hia hst3 hput
                                    go_wp2
                                    go_roundw
                                    case rel => exact ⟨k + 1, _, by omega, by go_num, hr3.new a hab.2 _ m hstm3, HPN, hfr.trans (frm_put _ _ _) hsz, by simpa using hsz⟩
                                    case measure => simp [intOf]; omega
                                  | some m0 =>
                                    rw [hs3] at hia
                                    have hia2 : _ = some (Value.bool true) := hia
                                    have hm0 := hst3 (by omega) m0 hs3
                                    by_cases hmm0 : m0 = m
                                    · have hput : putV st' a m = some st' := by unfold putV; rw [hs3]; simp [hmm0]
                                      have hfun : (fun i => if i = a then some m else st' i) = st' := by funext i; by_cases hi : i = a <;> simp [hi, hs3, hmm0]
                                      have HPN := Lib.hid (HADV.out.trans hput)
                                      have HFN := Lib.hid hfun
                                      have HMM := Lib.hid hmm0
                                      obtain ⟨a3, c3, e3, _⟩ := id hm0.1
                                      subst e3
                                      clear hs3 hia hst3 hput hfun hmm0
                                      go_wp2_with (first | (go_at_call 47; refine (refSame_any m0 m _ _ _ hm0.1 hstm3.1).mono ?_; rintro e w4 ⟨he, hx4⟩; rw [decide_eq_true HMM.out] at he; subst he; (first | (with_reducible obtain ⟨t4, rfl⟩ := Ext.tok2 hx4) | (obtain ⟨t4, rfl⟩ := Ext.tok hx4))))
                                      go_roundw
                                      case rel => exact ⟨k + 1, st', by omega, by go_num, by have := (hr3.ext (Ext.by _ t4)).new a hab.2 _ m (hstm3.ext (Ext.by _ t4)); rw [HFN.out] at this; exact this, HPN, (hfr.trans (Frm.of_ext (Ext.by _ t4)) hsz).trans (frm_put _ _ _) (Nat.le_trans hsz (Ext.by _ t4).size), by simpa using Nat.le_trans hsz (Ext.by _ t4).size⟩
                                      case measure => simp [intOf]; omega
                                    · have hput : putV st' a m = none := by unfold putV; rw [hs3]; simp [hmm0]
                                      have HV : Hid (rv = 50) := Lib.hid (by rw [HRV.out, ← HRU.out, HRS.out, HA'.out, oneV_ways HSV.out (by omega), HWV.out, Option.bind_some, HCAT.out, hput]; rfl)
                                      have HMM := Lib.hid hmm0
                                      obtain ⟨a3, c3, e3, _⟩ := id hm0.1
                                      subst e3
                                      clear hs3 hia hst3 hput hmm0
                                      go_wp2_with (first | (go_at_call 47; refine (refSame_any m0 m _ _ _ hm0.1 hstm3.1).mono ?_; rintro e w4 ⟨he, hx4⟩; rw [decide_eq_false HMM.out] at he; subst he; (first | (with_reducible obtain ⟨t4, rfl⟩ := Ext.tok2 hx4) | (obtain ⟨t4, rfl⟩ := Ext.tok hx4))))
                                      go_ret
                                      exact ⟨by rw [HV.out]; rfl, ((Ext.refl w).alloc _).trans (hr3.base.trans (Ext.by _ t4))⟩
                                · obtain rfl : k = 2 := by omega
                                  have HONE : Hid (oneV c q j st l = some st') := Lib.hid (by rw [oneV_ways HSV.out (by omega), HWV.out, Option.bind_some]; exact HP.out)
                                  clear hlk hk
                                  go_wp2
                                  go_roundw
                                  case rel => exact ⟨j + 1, st', by omega, by go_num, hr3.next, Lib.hid (HST.out.one HONE.out), Lib.hid (by rw [← HRU.out, HRS.out, HA'.out, HONE.out]; rfl)⟩
                                  case measure => simp [intOf]; omega
                            · have HV : Hid (rv = 50) := Lib.hid (by rw [HRV.out, ← HRU.out, HRS.out, HA'.out, oneV_out (.inr h8) hz]; rfl)
                              by_cases hz0 : q.n < 0
                              · clear hz h7 h8 h9
                                go_wp2
                                go_ret
                                exact ⟨by rw [HV.out]; rfl, ((Ext.refl w).alloc _).trans (hrw.base.trans (((Ext.refl wr).alloc _).trans hE1))⟩
                              · have hz1 : (c.body.length : Int) - j - 1 ≤ q.n := by omega
                                clear hz h7 h8 h9
                                go_wp2
                                go_ret
                                exact ⟨by rw [HV.out]; rfl, ((Ext.refl w).alloc _).trans (hrw.base.trans (((Ext.refl wr).alloc _).trans hE1))⟩
                          · have HWV : Hid (waysV q j c.body.length = some [j + 1]) := Lib.hid (by unfold waysV; rw [if_neg h7, if_neg h8, if_neg h9])
                            have hl1 := last_op hf HQ.out h9
                            have hwb : ∀ a ∈ [j + 1], j < a ∧ a < c.body.length := fun a ha => by simp at ha; omega
                            have e7 : (q.op == 7) = false := by simpa using h7
                            have e8 : (q.op == 8) = false := by simpa using h8
                            have e9 : (q.op == 9) = false := by simpa using h9
                            clear h7 h8 h9
                            go_wp2
                            have hWI : WaysIn (wc.alloc (.cells #[.int .i64 ((j : Int) + 1)] 3)) wc.heap.size [j + 1] := WaysIn.new _ _ _ _ _ (by simp) (by simp)
                            have hEW : Ext wr (wc.alloc (.cells #[.int .i64 ((j : Int) + 1)] 3)) := (((Ext.refl wr).alloc _).trans hE1).trans (by repeat first | exact Ext.refl _ | assumption | refine Ext.drew ?_ | refine Ext.drewN ?_ _ | refine Ext.extBy ?_ _ | refine Ext.alloc ?_ _ | refine Ext.setCell ?_ (by simp; try omega) _ | (refine Ext.trans ?_ (by assumption)))
                            go_loopw [15] (fun i w3 => ∃ (k : Nat) (st' : Known), k ≤ 1 ∧ i = .int .i64 k ∧ Rw .i64 (cbox w c (.slice ak c.kinds.length ck) (.slice ai c.init.length ci) (.slice (some ⟨bb, ob, none⟩) c.body.length cb)) wo.heap.size (wo.heap.size + 1) c.body.length w3 j st' ∧ Hid (putsV m (([j + 1] : List Nat).take k) st = some st') ∧ Frm wo.heap.size (wo.heap.size + 1) (wc.alloc (.cells #[.int .i64 ((j : Int) + 1)] 3)) w3 ∧ (wc.alloc (.cells #[.int .i64 ((j : Int) + 1)] 3)).heap.size ≤ w3.heap.size) (fun i _ => 1 - (intOf i).toNat)
                            case atStart => exact ⟨0, st, Nat.zero_le _, rfl, hrw.ext hEW, Lib.hid rfl, Frm.of_ext (Ext.refl _), Nat.le_refl _⟩
                            case round =>
                              obtain ⟨k, st', hk, rfl, hr3, HP, hfr, hsz⟩ := hrel
                              by_cases hlk : k < 1
                              · obtain ⟨a, ha⟩ : ∃ a, ([j + 1] : List Nat)[k]? = some a := ⟨_, List.getElem?_eq_getElem hlk⟩
                                have hab : j < a ∧ a < c.body.length := hwb a (List.mem_of_getElem? ha)
                                have hwa := hfr.cell (by simp; omega) (by simp; omega) (hWI.2 k a ha)
                                have hia := hr3.inn a hab.2
                                obtain ⟨u3, hat3, hst3⟩ := hr3.att a hab.2
                                have fzA := hr3.fzA a hab.2
                                have fzI := hr3.fzI a hab.2
                                have gA3 := hr3.ltA
                                have gI3 := hr3.ltI
                                have hstm3 := ((hstm.ext (show Ext wc (wc.alloc (.cells #[.int .i64 ((j : Int) + 1)] 3)) from (by repeat first | exact Ext.refl _ | assumption | refine Ext.drew ?_ | refine Ext.drewN ?_ _ | refine Ext.extBy ?_ _ | refine Ext.alloc ?_ _ | refine Ext.setCell ?_ (by simp; try omega) _ | (refine Ext.trans ?_ (by assumption))))).frm hfr)
                                obtain ⟨hcat, hadv⟩ := putsV_at ha HP.out
                                have HCAT := Lib.hid hcat
                                have HADV := Lib.hid hadv
                                clear ha hcat hadv
                                cases hs3 : st' a with
                                | none =>
                                  rw [hs3] at hia
                                  have hia2 : _ = some (Value.bool false) := hia
                                  have hput : putV st' a m = some (fun i => if i = a then some m else st' i) := by unfold putV; rw [hs3]
                                  have HPN := Lib.hid (HADV.out.trans hput)
                                  clear hs3 hia hst3 hput
                                  go_wp2
                                  go_roundw
                                  case rel => exact ⟨k + 1, _, by omega, by go_num, hr3.new a hab.2 _ m hstm3, HPN, hfr.trans (frm_put _ _ _) hsz, by simpa using hsz⟩
                                  case measure => simp [intOf]; omega
                                | some m0 =>
                                  rw [hs3] at hia
                                  have hia2 : _ = some (Value.bool true) := hia
                                  have hm0 := hst3 (by omega) m0 hs3
                                  by_cases hmm0 : m0 = m
                                  · have hput : putV st' a m = some st' := by unfold putV; rw [hs3]; simp [hmm0]
                                    have hfun : (fun i => if i = a then some m else st' i) = st' := by funext i; by_cases hi : i = a <;> simp [hi, hs3, hmm0]
                                    have HPN := Lib.hid (HADV.out.trans hput)
                                    have HFN := Lib.hid hfun
                                    have HMM := Lib.hid hmm0
                                    obtain ⟨a3, c3, e3, _⟩ := id hm0.1
                                    subst e3
                                    clear hs3 hia hst3 hput hfun hmm0
                                    go_wp2_with (first | (go_at_call 47; refine (refSame_any m0 m _ _ _ hm0.1 hstm3.1).mono ?_; rintro e w4 ⟨he, hx4⟩; rw [decide_eq_true HMM.out] at he; subst he; (first | (with_reducible obtain ⟨t4, rfl⟩ := Ext.tok2 hx4) | (obtain ⟨t4, rfl⟩ := Ext.tok hx4))))
                                    go_roundw
                                    case rel => exact ⟨k + 1, st', by omega, by go_num, by have := (hr3.ext (Ext.by _ t4)).new a hab.2 _ m (hstm3.ext (Ext.by _ t4)); rw [HFN.out] at this; exact this, HPN, (hfr.trans (Frm.of_ext (Ext.by _ t4)) hsz).trans (frm_put _ _ _) (Nat.le_trans hsz (Ext.by _ t4).size), by simpa using Nat.le_trans hsz (Ext.by _ t4).size⟩
                                    case measure => simp [intOf]; omega
                                  · have hput : putV st' a m = none := by unfold putV; rw [hs3]; simp [hmm0]
                                    have HV : Hid (rv = 50) := Lib.hid (by rw [HRV.out, ← HRU.out, HRS.out, HA'.out, oneV_ways HSV.out (by omega), HWV.out, Option.bind_some, HCAT.out, hput]; rfl)
                                    have HMM := Lib.hid hmm0
                                    obtain ⟨a3, c3, e3, _⟩ := id hm0.1
                                    subst e3
                                    clear hs3 hia hst3 hput hmm0
                                    go_wp2_with (first | (go_at_call 47; refine (refSame_any m0 m _ _ _ hm0.1 hstm3.1).mono ?_; rintro e w4 ⟨he, hx4⟩; rw [decide_eq_false HMM.out] at he; subst he; (first | (with_reducible obtain ⟨t4, rfl⟩ := Ext.tok2 hx4) | (obtain ⟨t4, rfl⟩ := Ext.tok hx4))))
                                    go_ret
                                    exact ⟨by rw [HV.out]; rfl, ((Ext.refl w).alloc _).trans (hr3.base.trans (Ext.by _ t4))⟩
                              · obtain rfl : k = 1 := by omega
                                have HONE : Hid (oneV c q j st l = some st') := Lib.hid (by rw [oneV_ways HSV.out (by omega), HWV.out, Option.bind_some]; exact HP.out)
                                clear hlk hk
                                go_wp2
                                go_roundw
                                case rel => exact ⟨j + 1, st', by omega, by go_num, hr3.next, Lib.hid (HST.out.one HONE.out), Lib.hid (by rw [← HRU.out, HRS.out, HA'.out, HONE.out]; rfl)⟩
                                case measure => simp [intOf]; omega
                · have hjn : j = c.body.length := by omega
                  have HV : Hid (rv = 0) := Lib.hid (by rw [HRV.out, ← HRU.out, hjn, List.drop_length]; rfl)
                  go_wp2
                  go_ret
                  exact ⟨by rw [HV.out]; rfl, ((Ext.refl w).alloc _).trans hrw.base⟩
end Go.Proofs.Ytipfcfaigbeakaa

/-
  The walks of the program's code: a program is asked.
  No condition.
-/
import Derived.Test.YtipfcfaigbeakaaMCodeWalkM
import Derived.Test.YtipfcfaigbeakaaJCode
import Derived.Deep.DeepCutAuto
namespace Go.Proofs.Ytipfcfaigbeakaa
open Go.RowKit
set_option maxRecDepth 100000

/-- The table of steps lies in a block of its own. -/
def TabIn (w : World) (T A I : Nat) : Prop := T ≠ A ∧ T ≠ I ∧ T < w.heap.size ∧ ∀ (j : Nat) (u : Value), stepCells[j]? = some u → w.cell? ⟨T, j, none⟩ = some u
theorem TabIn.ext {w w' : World} {T A I : Nat} (h : TabIn w T A I) (hx : Ext w w') : TabIn w' T A I := ⟨h.1, h.2.1, Nat.lt_of_lt_of_le h.2.2.1 hx.size, fun j u hj => hx.cell (h.2.2.2 j u hj)⟩
theorem TabIn.frm {w w' : World} {T A I : Nat} (h : TabIn w T A I) (hf : Frm A I w w') (hs : w.heap.size ≤ w'.heap.size) : TabIn w' T A I := ⟨h.1, h.2.1, Nat.lt_of_lt_of_le h.2.2.1 hs, fun j u hj => hf.cell h.1 h.2.1 (h.2.2.2 j u hj)⟩
theorem TabIn.store {w : World} {T A I : Nat} (h : TabIn w T A I) (i : Nat) (v : Value) : TabIn (w.setCell ⟨A, i, none⟩ v) T A I := ⟨h.1, h.2.1, by simp; exact h.2.2.1, fun j u hj => by rw [World.cell?_setCell_other _ _ _ _ (by simp [Ne.symm h.1])]; exact h.2.2.2 j u hj⟩
theorem TabIn.new (w : World) (T A I : Nat) (t : TypeId) (hT : T = w.heap.size) (hA : A < w.heap.size) (hI : I < w.heap.size) : TabIn (w.alloc (.cells stepCells t)) T A I :=
  ⟨by omega, by omega, by simp; omega, fun j u hj => by rw [cell_of_row _ T j stepCells t (0, 0) (heap_alloc_at _ _ _ hT)]; exact hj⟩
theorem run_step {c : CodeV} {j : Nat} {q : InsV} (hq : c.body[j]? = some q) (st : Known) : runV c (c.body.drop j) j st = (advV c q j st).bind (runV c (c.body.drop (j + 1)) (j + 1)) := by
  obtain ⟨h, e⟩ := List.getElem?_eq_some_iff.1 hq
  rw [List.drop_eq_getElem_cons h, e]; rfl

theorem infoStack : (Try.prog.info? 87).map (fun i => (i.zero, i.size, i.bytes)) = some (some (.slice none 0 0), 1, 24) := by kernel_rfl
theorem infoBool : (Try.prog.info? 4).map (fun i => (i.zero, i.size, i.bytes)) = some (some (.bool false), 1, 1) := by kernel_rfl
set_option maxHeartbeats 2000000 in
theorem check_go (c : CodeV) (kv iv bv : Value) (w : World) (h : CodeIn w kv iv bv c) (hbl : c.body.length ≤ 60000) (hkl : c.kinds.length ≤ 8000) (hst : c.stack ≤ 64) :
    Calls Try.prog 17 #[codeA c kv iv bv] w fun e w' => e = .returned (.int .i64 (if formedV c = false then 40 else if (runV c c.body 0 start).isNone then 50 else 0)) ∧ Ext w w' := by
  have hfa := fun w' hx => formed_any c kv iv bv w' (h.ext hx) hkl hbl
  obtain ⟨⟨ak, ck, rfl, hk1, hk2, hkc⟩, ⟨ai, ci, rfl, hi1, hi2, hic⟩, ⟨ab, cb, rfl, hb1, hb2, hbc⟩⟩ := id h
  have h' := h.ext ((Ext.refl w).alloc (.cells #[.slice ak c.kinds.length ck, .int .i64 c.ins, .int .i64 c.outs, .int .i64 c.cells, .int .i64 c.stack, .slice ai c.init.length ci, .slice ab c.body.length cb] 25))
  have HK := Lib.hid hkc
  have HI := Lib.hid hic
  have HB := Lib.hid hbc
  clear hkc hic hbc
  have hln := nat64 hk1 hk2
  have hbn := nat64 hb1 hb2
  simp only [codeA] at hfa ⊢
  cases hfv : formedV c
  · rw [if_pos rfl]
    have HF := Lib.hid hfv
    clear hfv
    go_enter Try.func17, Try.ntmps17
    go_wp2_with (first | (go_at_call 42; refine (hfa _ ((Ext.refl _).alloc _)).mono ?_; rintro e w1 ⟨he, hx⟩; rw [HF.out] at he; subst he; (first | (with_reducible obtain ⟨t1, rfl⟩ := Ext.tok2 hx) | (obtain ⟨t1, rfl⟩ := Ext.tok hx))))
    go_ret
    exact ⟨rfl, (by repeat first | exact Ext.refl _ | assumption | refine Ext.drew ?_ | refine Ext.drewN ?_ _ | refine Ext.extBy ?_ _ | refine Ext.alloc ?_ _ | refine Ext.setCell ?_ (by simp; try omega) _ | (refine Ext.trans ?_ (by assumption)))⟩
  · rw [if_neg (by decide)]
    have hf := formed_of hfv
    have HF := Lib.hid hfv
    clear hfv
    obtain ⟨rv, hrv⟩ : ∃ b : Int, b = (if (runV c c.body 0 start).isNone = true then 50 else 0) := ⟨_, rfl⟩
    rw [← hrv]
    have HRV := Lib.hid hrv
    clear hrv
    have hmk1 := run_make_row' (P := Try.prog) 79 87 (.slice none 0 0) 24 Try.underlying79 infoStack rfl .i64 .i64 c.body.length (by omega) (by omega)
    have hmk2 := run_make_row' (P := Try.prog) 80 4 (.bool false) 1 Try.underlying80 infoBool rfl .i64 .i64 c.body.length (by omega) (by omega)
    have HB7 : Hid (∀ w', Ext (w.alloc (.cells #[.slice ak c.kinds.length ck, .int .i64 c.ins, .int .i64 c.outs, .int .i64 c.cells, .int .i64 c.stack, .slice ai c.init.length ci, .slice ab c.body.length cb] 25)) w' → w'.cell? ⟨w.heap.size, 0, none⟩ = some (.slice ak c.kinds.length ck) ∧ w'.cell? ⟨w.heap.size, 1, none⟩ = some (.int .i64 c.ins) ∧ w'.cell? ⟨w.heap.size, 2, none⟩ = some (.int .i64 c.outs) ∧ w'.cell? ⟨w.heap.size, 3, none⟩ = some (.int .i64 c.cells) ∧ w'.cell? ⟨w.heap.size, 4, none⟩ = some (.int .i64 c.stack) ∧ w'.cell? ⟨w.heap.size, 5, none⟩ = some (.slice ai c.init.length ci) ∧ w'.cell? ⟨w.heap.size, 6, none⟩ = some (.slice ab c.body.length cb)) := Lib.hid fun w' hx => ⟨hx.cell (by go_simp), hx.cell (by go_simp), hx.cell (by go_simp), hx.cell (by go_simp), hx.cell (by go_simp), hx.cell (by go_simp), hx.cell (by go_simp)⟩
    go_enter Try.func17, Try.ntmps17
    go_upto_region 5 with (first | (go_at_call 42; refine (hfa _ ((Ext.refl _).alloc _)).mono ?_; rintro e w1 ⟨he, hx⟩; rw [HF.out] at he; subst he; (first | (with_reducible obtain ⟨t1, rfl⟩ := Ext.tok2 hx) | (obtain ⟨t1, rfl⟩ := Ext.tok hx))))
    go_cut [3] (fun s3 wx => ∃ X A I : Nat, s3 = .pointer (some ⟨X, 0, none⟩) ∧ CkNew (w.alloc (.cells #[.slice ak c.kinds.length ck, .int .i64 c.ins, .int .i64 c.outs, .int .i64 c.cells, .int .i64 c.stack, .slice ai c.init.length ci, .slice ab c.body.length cb] 25)) X A I c.body.length (xcs c (.slice ak c.kinds.length ck) (.slice ai c.init.length ci) (.slice ab c.body.length cb)) wx)
    case first =>
     go_region_held3 (fun w' => w'.cell? ⟨w.heap.size, 0, none⟩ = some (.slice ak c.kinds.length ck) ∧ w'.cell? ⟨w.heap.size, 1, none⟩ = some (.int .i64 c.ins) ∧ w'.cell? ⟨w.heap.size, 2, none⟩ = some (.int .i64 c.outs) ∧ w'.cell? ⟨w.heap.size, 3, none⟩ = some (.int .i64 c.cells) ∧ w'.cell? ⟨w.heap.size, 4, none⟩ = some (.int .i64 c.stack) ∧ w'.cell? ⟨w.heap.size, 5, none⟩ = some (.slice ai c.init.length ci) ∧ w'.cell? ⟨w.heap.size, 6, none⟩ = some (.slice ab c.body.length cb))
      (first | exact HB7.out _ (by repeat first | exact Ext.refl _ | assumption | refine Ext.drew ?_ | refine Ext.drewN ?_ _ | refine Ext.extBy ?_ _ | refine Ext.alloc ?_ _ | refine Ext.setCell ?_ (by simp; try omega) _ | (refine Ext.trans ?_ (by assumption))) | go_keep) (fail)
     all_goals (go_wp2_with fail; go_meet; first | exact ⟨_, _, _, rfl, madeAC (Ext.by _ t1) _ _ (by simp) (by simp) (by simp) rfl⟩ | exact ⟨_, _, _, rfl, madeCA (Ext.by _ t1) _ _ (by simp) (by simp) (by simp) rfl⟩)
    case rest =>
     obtain ⟨X, A, I, rfl, hnew⟩ := hcut
     have h0n : 0 < c.body.length := by
       have := hf.last
       cases hb : c.body with
       | nil => rw [hb] at this; cases this
       | cons => simp
     have x8 := hnew.cells 8 _ rfl
     have i0 := hnew.rI.cell h0n
     have f0 := hnew.rI.frozen 0
     have gA := hnew.rA.lt
     have gI := hnew.rI.lt
     go_upto_region 7 with fail
     go_cut [4] (fun s4 wx => ∃ T : Nat, s4 = .pointer (some ⟨T, 0, none⟩) ∧ Ck (w.alloc (.cells #[.slice ak c.kinds.length ck, .int .i64 c.ins, .int .i64 c.outs, .int .i64 c.cells, .int .i64 c.stack, .slice ai c.init.length ci, .slice ab c.body.length cb] 25)) X A I c.body.length (xcs c (.slice ak c.kinds.length ck) (.slice ai c.init.length ci) (.slice ab c.body.length cb)) wx 0 start ∧ TabIn wx T A I)
     case first =>
       go_wp2_with (first | (go_at_call 43; refine (steps_any _).mono ?_; rintro e w1 ⟨rfl, hx⟩; (first | (with_reducible obtain ⟨t2, rfl⟩ := Ext.tok2 hx) | (obtain ⟨t2, rfl⟩ := Ext.tok hx))) | (refine wpList_store_last rfl 85 (.tmp 4) (.tmp 41) rfl _ _ _ _ rfl rfl (by simp) (by kernel_rfl) (by kernel_rfl) (by kernel_rfl) ?_))
       go_meet
       exact ⟨_, rfl, hnew.ck.ext (by repeat first | exact Ext.refl _ | assumption | refine Ext.drew ?_ | refine Ext.drewN ?_ _ | refine Ext.extBy ?_ _ | refine Ext.alloc ?_ _ | refine Ext.setCell ?_ (by simp; try omega) _ | (refine Ext.trans ?_ (by assumption))), TabIn.new _ _ _ _ _ (by simp) (by simp; omega) (by simp; omega)⟩
     case rest =>
      obtain ⟨T, rfl, hck, htab⟩ := hcut
      have b6 := (HB7.out _ hck.rw.base).2.2.2.2.2.2
      clear x8 i0 f0 gA gI hnew
      have hsto := StOk.start (sc := c.stack) hf.stack
      go_wp2
      go_loopw [45] (fun i wr => ∃ (j : Nat) (st : Known), j ≤ c.body.length ∧ i = .int .i64 j ∧ Ck (w.alloc (.cells #[.slice ak c.kinds.length ck, .int .i64 c.ins, .int .i64 c.outs, .int .i64 c.cells, .int .i64 c.stack, .slice ai c.init.length ci, .slice ab c.body.length cb] 25)) X A I c.body.length (xcs c (.slice ak c.kinds.length ck) (.slice ai c.init.length ci) (.slice ab c.body.length cb)) wr j st ∧ TabIn wr T A I ∧ Hid (StOk c.stack st) ∧ Hid (runV c (c.body.drop j) j st = runV c c.body 0 start)) (fun i _ => c.body.length - (intOf i).toNat)
      case atStart => exact ⟨0, start, Nat.zero_le _, rfl, hck, htab, Lib.hid hsto, Lib.hid rfl⟩
      case round =>
        obtain ⟨j, st, hj, rfl, hkr, htr, HST, HRU⟩ := hrel
        by_cases hlt : j < c.body.length
        · obtain ⟨q, hq⟩ : ∃ q, c.body[j]? = some q := ⟨_, List.getElem?_eq_getElem hlt⟩
          have hwx : Ext w wr := ((Ext.refl w).alloc _).trans hkr.rw.base
          have hcs := insCells_at c.body j q hq
          obtain ⟨b, o, rfl, g0⟩ := HB.out (j * 3) _ hcs.1
          obtain ⟨b', o', e0, g1⟩ := HB.out (j * 3 + 1) _ hcs.2.1
          simp only [Option.some.injEq, Addr.mk.injEq] at e0
          obtain ⟨rfl, rfl, -⟩ := e0
          obtain ⟨b', o', e0, g2⟩ := HB.out (j * 3 + 2) _ hcs.2.2
          simp only [Option.some.injEq, Addr.mk.injEq] at e0
          obtain ⟨rfl, rfl, -⟩ := e0
          replace g0 := hwx.cell g0
          replace g1 := hwx.cell g1
          replace g2 := hwx.cell g2
          rw [← Nat.add_assoc] at g1 g2
          have ho := hf.ops j q hq
          have x7 := hkr.cells 7 _ rfl
          have x8 := hkr.cells 8 _ rfl
          have hin := hkr.rw.inn j hlt
          obtain ⟨u, hat, hstk⟩ := hkr.rw.att j hlt
          have fzA := hkr.rw.fzA j hlt
          have gA := hkr.rw.ltA
          have gI := hkr.rw.ltI
          have gX := hkr.ltX
          have hXA := hkr.XA
          have hXI := hkr.XI
          have HRS := Lib.hid (run_step hq st)
          have HA := Lib.hid (advV_one c q j st)
          have HQ := Lib.hid hq
          clear hq hcs
          cases hst : st j with
          | none =>
            rw [hst] at hin
            have hin' : wr.cell? ⟨I, j, none⟩ = some (.bool false) := hin
            have HA' : Hid (advV c q j st = some st) := Lib.hid (by rw [HA.out, hst])
            clear hin hst hstk
            go_wp2
            (refine region_drew (by kernel_rfl) (by kernel_rfl) ?_; (repeat (go_big_quiet_step (fail))); refine wpQuiet_nil ?_; rintro _ ⟨nq, rfl⟩)
            go_wp2
            go_roundw
            case rel => exact ⟨j + 1, st, by omega, by go_num, (hkr.ext (by repeat first | exact Ext.refl _ | assumption | refine Ext.drew ?_ | refine Ext.drewN ?_ _ | refine Ext.extBy ?_ _ | refine Ext.alloc ?_ _ | refine Ext.setCell ?_ (by simp; try omega) _ | (refine Ext.trans ?_ (by assumption)))).gone hlt _, (htr.ext (by repeat first | exact Ext.refl _ | assumption | refine Ext.drew ?_ | refine Ext.drewN ?_ _ | refine Ext.extBy ?_ _ | refine Ext.alloc ?_ _ | refine Ext.setCell ?_ (by simp; try omega) _ | (refine Ext.trans ?_ (by assumption)))).store _ _, HST, Lib.hid (by rw [← HRU.out, HRS.out, HA'.out]; rfl)⟩
            case measure => simp [intOf]; omega
          | some l =>
            rw [hst] at hin
            have hin' : wr.cell? ⟨I, j, none⟩ = some (.bool true) := hin
            have hstk := hstk (Nat.le_refl _) l hst
            have hll : l.length ≤ 64 := by have := HST.out j l hst; omega
            have hTab := htr.2.2.2 q.op.toNat _ (stepFn_at ho)
            have gT := htr.2.2.1
            have ho1 : 0 ≤ q.op := by omega
            have ho2 : q.op < 10 := by omega
            have hqn : (⟨q.op, q.n, q.k⟩ : InsV) = q := rfl
            have hx1 : Ext wr ((wr.alloc (.cells #[.int .i64 q.op, .int .i64 q.n, .int .i64 q.k] 33))) := (Ext.refl _).alloc _
            obtain ⟨a, cp, e0, _⟩ := id hstk.1
            subst e0
            have HSA := fun m => step_any h' hf hkl hbl (hkr.ext (hx1.drewN m)) q HQ.out _ l (hstk.ext (hx1.drewN m)) hll
            have HA' : Hid (advV c q j st = oneV c q j st l) := Lib.hid (by rw [HA.out, hst])
            have HS := Lib.hid HSA
            have hcf := stepFn_enter ho
            clear hin hst hqn HSA
            cases hone : oneV c q j st l with
            | none =>
              have HO := Lib.hid hone
              have HV : Hid (rv = 50) := Lib.hid (by rw [HRV.out, ← HRU.out, HRS.out, HA'.out, hone]; rfl)
              clear hone
              go_wp2
              (refine region_drew_tail 22 (by kernel_rfl) (by kernel_rfl) ?_; simp only [List.take_succ_cons, List.take_zero, List.drop_succ_cons, List.drop_zero]; (repeat (go_big_quiet_step (fail))); refine wpQuiet_nil ?_; rintro _ ⟨nq, rfl⟩)
              go_wp2_with (first | (refine (HS.out _).mono ?_; rintro e w2 hf; obtain rfl := hf.isNo HO.out))
              go_ret
              exact ⟨by rw [HV.out]; rfl, ((Ext.refl w).alloc _).trans hf.1⟩
            | some st' =>
              have HO := Lib.hid hone
              have HST' := Lib.hid (HST.out.one hone)
              have HRU' : Hid (runV c (c.body.drop (j + 1)) (j + 1) st' = runV c c.body 0 start) := Lib.hid (by rw [← HRU.out, HRS.out, HA'.out, hone]; rfl)
              clear hone
              go_wp2
              (refine region_drew_tail 22 (by kernel_rfl) (by kernel_rfl) ?_; simp only [List.take_succ_cons, List.take_zero, List.drop_succ_cons, List.drop_zero]; (repeat (go_big_quiet_step (fail))); refine wpQuiet_nil ?_; rintro _ ⟨nq, rfl⟩)
              go_wp2_with (first | (refine (HS.out _).mono ?_; rintro e w2 hf; obtain ⟨rfl, hk2⟩ := hf.isYes HO.out; have y7 := hk2.cells 7 _ rfl; obtain ⟨u2, yat, _⟩ := hk2.rw.att j hlt; have yf := hk2.rw.fzA j hlt; have htr2 := (htr.ext (hx1.drewN nq)).frm hf.2.1 hf.2.2.1))
              go_roundw
              case rel => exact ⟨j + 1, st', by omega, by go_num, hk2.gone hlt _, htr2.store _ _, HST', HRU'⟩
              case measure => simp [intOf]; omega
        · have hjn : j = c.body.length := by omega
          have HV : Hid (rv = 0) := Lib.hid (by rw [HRV.out, ← HRU.out, hjn, List.drop_length]; rfl)
          go_wp2
          go_ret
          exact ⟨by rw [HV.out]; rfl, ((Ext.refl w).alloc _).trans hkr.rw.base⟩

theorem check_any (c : CodeV) (kv iv bv : Value) (w : World) (h : CodeIn w kv iv bv c) :
    Calls Try.prog 17 #[codeA c kv iv bv] w fun e w' => e = .returned (.int .i64 (chk c)) ∧ Ext w w' := by
  unfold chk
  by_cases hz : 60000 < c.body.length ∨ 8000 < c.kinds.length ∨ 64 < c.stack
  · rw [if_pos hz]; exact check_long c kv iv bv w h hz
  · rw [if_neg hz]; exact check_go c kv iv bv w h (by omega) (by omega) (by omega)
end Go.Proofs.Ytipfcfaigbeakaa

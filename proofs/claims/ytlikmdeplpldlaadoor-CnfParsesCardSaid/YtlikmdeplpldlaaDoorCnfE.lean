/-
  The walks that ask a net: of the document; a wire's value.
  Conditions: the net lies in memory, and is small.
-/
import Derived.Test.YtlikmdeplpldlaaDoorCnfC
namespace Go.Proofs.YtlikmdeplpldlaaDoor
open Go.RowKit
set_option linter.unusedSimpArgs false
set_option linter.unusedVariables false
set_option maxRecDepth 100000

theorem netOk_step {l : List GateV} {j : Nat} {q : GateV} (h : l[j]? = some q) : netOk j (l.drop j) = (gateOk j q && netOk (j + 1) (l.drop (j + 1))) := by
  obtain ⟨hl, e⟩ := List.getElem?_eq_some_iff.1 h
  rw [List.drop_eq_getElem_cons hl, e]
  rfl
theorem big22_any (l : List GateV) (gv : Value) (w : World) (h : GatesIn w gv l) :
    Calls Tryd.prog 15 #[.agg #[gv]] w fun e w' => e = .returned (.bool (decide (5000 < l.length))) ∧ Ext w w' := by
  obtain ⟨a, cap, rfl, h1, h2, -⟩ := h
  have hnm := Nat.le_trans h1 h2
  unfold maxLen at hnm
  generalize l.length = n at hnm h1 ⊢
  clear h1 h2
  by_cases hn : 5000 < n
  · have e : decide (5000 < n) = true := decide_eq_true hn
    rw [e]
    have hi : 5000 < (n : Int) := by omega
    clear e
    go_enter Tryd.func15, Tryd.ntmps15
    go_wp2
    go_ret
    exact ⟨rfl, (by repeat first | exact Ext.refl _ | assumption | refine Ext.drew ?_ | refine Ext.drewN ?_ _ | refine Ext.extBy ?_ _ | refine Ext.alloc ?_ _ | refine Ext.setCell ?_ (by simp; try omega) _ | (refine Ext.trans ?_ (by assumption)))⟩
  · have e : decide (5000 < n) = false := decide_eq_false hn
    rw [e]
    have hi : ¬ 5000 < (n : Int) := by omega
    clear e
    go_enter Tryd.func15, Tryd.ntmps15
    go_wp2
    go_ret
    exact ⟨rfl, (by repeat first | exact Ext.refl _ | assumption | refine Ext.drew ?_ | refine Ext.drewN ?_ _ | refine Ext.extBy ?_ _ | refine Ext.alloc ?_ _ | refine Ext.setCell ?_ (by simp; try omega) _ | (refine Ext.trans ?_ (by assumption)))⟩
set_option maxHeartbeats 4000000 in
theorem checkNR_any (l : List GateV) (gv : Value) (w : World) (h : GatesIn w gv l) (hwf : GatesWf l) (hl : l.length ≤ 200000) :
    Calls Tryd.prog 31 #[.agg #[gv]] w fun e w' => e = .returned (.int .i64 (chkN l)) ∧ Ext w w' := by
  obtain ⟨R, hR⟩ : ∃ R, R = chkN l := ⟨_, rfl⟩
  rw [← hR]
  have HK0 : Hid (R = if netOk 0 (l.drop 0) then 0 else 40) := Lib.hid (by rw [hR, List.drop_zero]; rfl)
  have HG := Lib.hid h
  have HW := Lib.hid hwf
  obtain ⟨a, cap, rfl, -, -, -⟩ := id h
  obtain ⟨n, hn⟩ : ∃ n, n = l.length := ⟨_, rfl⟩
  have HN := Lib.hid hn
  rw [← hn] at hl ⊢
  have HG2 : Hid (∀ (j : Nat) (u : Value), (gateCells l)[j]? = some u → ∃ b o, a = some ⟨b, o, none⟩ ∧ w.cell? ⟨b, o + j, none⟩ = some u) := Lib.hid (by
    obtain ⟨a', cap', ea, -, -, hc⟩ := HG.out
    simp only [Value.slice.injEq] at ea
    rw [ea.1]; exact hc)
  clear hR h hwf hn HG
  go_enter Tryd.func31, Tryd.ntmps31
  go_upto_region 1 with fail
  have hbX := BoxV.of_row (heap_alloc_last w (.cells #[.slice a n cap] 35))
  have hE : Ext w (w.alloc (.cells #[.slice a n cap] 35)) := (Ext.refl w).alloc _
  have HE := Lib.hid hE
  have HT : Hid (∀ (j : Nat) (u : Value), (gateCells l)[j]? = some u → ∃ b o, a = some ⟨b, o, none⟩ ∧ (w.alloc (.cells #[.slice a n cap] 35)).cell? ⟨b, o + j, none⟩ = some u) := Lib.hid fun j u hu => by obtain ⟨b, o, e1, e2⟩ := HG2.out j u hu; exact ⟨b, o, e1, hE.cell e2⟩
  generalize w.alloc (.cells #[.slice a n cap] 35) = w1 at hbX hE HE HT ⊢
  generalize w.heap.size = X at hbX ⊢
  have p0 := hbX.cells 0 _ rfl
  have hXl := hbX.lt
  clear hbX hE HG2
  go_wp2
  go_loopw [3] (fun i wr => ∃ j : Nat, j ≤ n ∧ i = .int .i64 j ∧ Ext w1 wr ∧ Hid (R = if netOk j (l.drop j) then 0 else 40)) (fun i _ => n - (intOf i).toNat)
  case atStart => exact ⟨0, Nat.zero_le _, rfl, Ext.refl _, HK0⟩
  case round =>
    obtain ⟨j, hj, rfl, hxr, HK⟩ := hrel
    obtain ⟨t1, rfl⟩ := hxr.tok
    clear hxr HK0
    by_cases hlt : j < n
    · obtain ⟨q, hq⟩ : ∃ q, l[j]? = some q := ⟨_, List.getElem?_eq_getElem (by have := HN.out; omega)⟩
      have hcs3 := gateCells_at l j q hq
      obtain ⟨b3, o3, rfl, g0⟩ := HT.out (j * 3) _ hcs3.1
      obtain ⟨b3', o3', e0, g1⟩ := HT.out (j * 3 + 1) _ hcs3.2.1
      simp only [Option.some.injEq, Addr.mk.injEq] at e0
      obtain ⟨rfl, rfl, -⟩ := e0
      obtain ⟨b3', o3', e0, g2⟩ := HT.out (j * 3 + 2) _ hcs3.2.2
      simp only [Option.some.injEq, Addr.mk.injEq] at e0
      obtain ⟨rfl, rfl, -⟩ := e0
      rw [← Nat.add_assoc] at g1 g2
      have z1 : b3 < w1.heap.size := World.block_lt_of_cell? w1 _ g0
      have HST := Lib.hid (netOk_step hq)
      have hI := HW.out q (List.mem_of_getElem? hq)
      have hji : (j : Int) < (n : Int) := Int.ofNat_lt.2 hlt
      obtain ⟨op, qa, qb⟩ := q
      dsimp only at g0 g1 g2 hI
      clear hq hcs3
      go_upto_region 7 with (refine wpList_store_last rfl 48 (.tmp 4) (.tmp 20) rfl _ _ _ _ rfl rfl (by simp) (by kernel_rfl) (by kernel_rfl) (by kernel_rfl) ?_)
      go_frame
      have hx5 : Ext w1 ((w1.extBy t1).alloc (.cells #[.int .i64 op, .int .i64 qa, .int .i64 qb] 48)) := ((Ext.refl w1).extBy t1).alloc _
      have HB5 := Lib.hid (BoxV.of_row (heap_alloc_last (w1.extBy t1) (.cells #[.int .i64 op, .int .i64 qa, .int .i64 qb] 48)))
      rw [size_extBy] at HB5
      generalize (w1.extBy t1).alloc (.cells #[.int .i64 op, .int .i64 qa, .int .i64 qb] 48) = w5 at hx5 HB5 ⊢
      generalize w1.heap.size + t1.n = Y at HB5 ⊢
      have hY0 := HB5.out.cells 0 _ rfl
      have hY1 := HB5.out.cells 1 _ rfl
      have hY2 := HB5.out.cells 2 _ rfl
      clear g0 g1 g2 z1
      by_cases h1 : op = 1 ∨ op = 2
      · by_cases h0 : qa = 0 ∧ qb = 0
        · have HF : Hid (R = if netOk (j + 1) (l.drop (j + 1)) then 0 else 40) := Lib.hid (by rw [HK.out, HST.out]; unfold gateOk; rw [if_pos h1]; simp [h0])
          obtain ⟨rfl, rfl⟩ := h0
          rcases h1 with rfl | rfl
          · go_wp2
            go_roundw
            case rel => exact ⟨j + 1, by omega, by go_num, hx5, HF⟩
            case measure => simp [intOf]; omega
          · go_wp2
            go_roundw
            case rel => exact ⟨j + 1, by omega, by go_num, hx5, HF⟩
            case measure => simp [intOf]; omega
        · have HF : Hid (R = 40) := Lib.hid (by rw [HK.out, HST.out]; unfold gateOk; rw [if_pos h1, decide_eq_false h0]; simp)
          by_cases ha : qa = 0
          · have hb : (qb != 0) = true := by simp; intro e; exact h0 ⟨ha, e⟩
            subst ha
            rcases h1 with rfl | rfl
            · go_wp2
              go_ret
              exact ⟨by rw [HF.out]; rfl, HE.out.trans hx5⟩
            · go_wp2
              go_ret
              exact ⟨by rw [HF.out]; rfl, HE.out.trans hx5⟩
          · have ha' : (qa != 0) = true := by simpa using ha
            rcases h1 with rfl | rfl
            · go_wp2
              go_ret
              exact ⟨by rw [HF.out]; rfl, HE.out.trans hx5⟩
            · go_wp2
              go_ret
              exact ⟨by rw [HF.out]; rfl, HE.out.trans hx5⟩
      · by_cases h3 : op = 3
        · have hneg : ∀ {P : Prop} [Decidable P], ¬ P → gateOk j ⟨op, qa, qb⟩ = decide P → R = 40 := fun hP e => by rw [HK.out, HST.out, e, decide_eq_false hP]; simp
          have eg : gateOk j ⟨op, qa, qb⟩ = decide (0 ≤ qa ∧ 0 ≤ qb ∧ qa < 2 * (j : Int) ∧ qb < 2 * (j : Int)) := by unfold gateOk; rw [if_neg h1, if_pos h3]
          by_cases hok : 0 ≤ qa ∧ 0 ≤ qb ∧ qa < 2 * (j : Int) ∧ qb < 2 * (j : Int)
          · have HF : Hid (R = if netOk (j + 1) (l.drop (j + 1)) then 0 else 40) := Lib.hid (by rw [HK.out, HST.out, eg, decide_eq_true hok, Bool.true_and])
            obtain ⟨a1, a2, a3, a4⟩ := hok
            subst h3
            clear h1 hneg eg
            go_wp2
            go_roundw
            case rel => exact ⟨j + 1, by omega, by go_num, hx5, HF⟩
            case measure => simp [intOf]; omega
          · have HF : Hid (R = 40) := Lib.hid (hneg hok eg)
            subst h3
            clear h1 hneg eg
            by_cases b1 : 0 ≤ qa
            · by_cases b2 : 0 ≤ qb
              · by_cases b3 : qa < 2 * (j : Int)
                · have b4 : 2 * (j : Int) ≤ qb := by
                    by_cases b4 : qb < 2 * (j : Int)
                    · exact absurd ⟨b1, b2, b3, b4⟩ hok
                    · omega
                  clear hok
                  go_wp2
                  go_ret
                  exact ⟨by rw [HF.out]; rfl, HE.out.trans hx5⟩
                · have b4 : 2 * (j : Int) ≤ qa := by omega
                  clear hok b3
                  go_wp2
                  go_ret
                  exact ⟨by rw [HF.out]; rfl, HE.out.trans hx5⟩
              · have b4 : qb < 0 := by omega
                clear hok b2
                go_wp2
                go_ret
                exact ⟨by rw [HF.out]; rfl, HE.out.trans hx5⟩
            · have b4 : qa < 0 := by omega
              clear hok b1
              go_wp2
              go_ret
              exact ⟨by rw [HF.out]; rfl, HE.out.trans hx5⟩
        · have HF : Hid (R = 40) := Lib.hid (by rw [HK.out, HST.out]; unfold gateOk; rw [if_neg h1, if_neg h3]; simp)
          have e1 : (op == 1) = false := by simp; exact fun e => h1 (.inl e)
          have e2 : (op == 2) = false := by simp; exact fun e => h1 (.inr e)
          have e3 : (op == 3) = false := by simpa using h3
          clear h1 h3
          go_wp2
          go_ret
          exact ⟨by rw [HF.out]; rfl, HE.out.trans hx5⟩
    · have hji : ¬ (j : Int) < (n : Int) := fun e => hlt (Int.ofNat_lt.1 e)
      have HF : Hid (R = 0) := Lib.hid (by rw [HK.out, List.drop_of_length_le (by have := HN.out; omega)]; rfl)
      go_wp2
      go_ret
      exact ⟨by rw [HF.out]; rfl, HE.out.trans (by repeat first | exact Ext.refl _ | assumption | refine Ext.drew ?_ | refine Ext.drewN ?_ _ | refine Ext.extBy ?_ _ | refine Ext.alloc ?_ _ | refine Ext.setCell ?_ (by simp; try omega) _ | (refine Ext.trans ?_ (by assumption)))⟩
end Go.Proofs.YtlikmdeplpldlaaDoor

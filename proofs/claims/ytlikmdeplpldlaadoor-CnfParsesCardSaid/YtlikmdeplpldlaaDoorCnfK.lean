/-
  The program's own walk that asks whether a model makes a formula hold.
  Conditions: formula and model lie in memory, and are small.
-/
import Derived.Sort.CutIn
import Derived.Test.YtlikmdeplpldlaaDoorCnfJ
namespace Go.Proofs.YtlikmdeplpldlaaDoor
open Go.RowKit Go.Shelf
set_option linter.unusedSimpArgs false
set_option linter.unusedVariables false
set_option maxRecDepth 100000

attribute [local go_sem] Oper.semAt_some
/-- Between two rounds: all clauses that have come hold. -/
def HoldI (w : World) (B : Nat) (mv : Value) (m : List Bool) (rs : List (List Int)) (pre : List (Fin rs.length)) (W : World) : Prop :=
  ((∀ i ∈ pre, clV m (rs.getD i.1 []) = true) ∧ W.cell? ⟨B + 1, 0, none⟩ = some mv ∧ W.cell? ⟨B + 1 + 1, 0, none⟩ = some (.bool false) ∧ W.frozen? ⟨B + 1 + 1, 0, none⟩ = false) ∧ Below w.heap.size w W
/-- A round that has found a clause that does not hold. -/
def HoldX (w : World) (B : Nat) (m : List Bool) (rs : List (List Int)) (c : Code) (pre : List (Fin rs.length)) (W : World) : Prop :=
  (c = .ret ∧ (∃ i ∈ pre, clV m (rs.getD i.1 []) = false) ∧ W.cell? ⟨B + 1 + 1, 0, none⟩ = some (.bool false)) ∧ Below w.heap.size w W
theorem holdI_own {w : World} {B B' : Nat} {mv : Value} {m : List Bool} {rs : List (List Int)} (h : w.heap.size ≤ B') : OwnFrom B' (HoldI w B mv m rs) :=
  OwnFrom.and (Own.from (fun s A B row hs hg hr => ⟨hs.1, cell_kept hs.2.1 hg hr, cell_kept hs.2.2.1 hg hr, (frozen_kept hs.2.2.1 hg hr).trans hs.2.2.2⟩) _) (ownFrom_below (Nat.le_refl _) h)
theorem holdX_own {w : World} {B B' : Nat} {m : List Bool} {rs : List (List Int)} (h : w.heap.size ≤ B') : ∀ c, OwnFrom B' (HoldX w B m rs c) := fun c =>
  OwnFrom.and (Own.from (fun s A B row hs hg hr => ⟨hs.1, hs.2.1, cell_kept hs.2.2 hg hr⟩) _) (ownFrom_below (Nat.le_refl _) h)
theorem chkF_or (x : Int) (rs : List (List Int)) : chkF x rs = 40 ∨ (chkF x rs = 0 ∧ 0 ≤ x ∧ frmOk x rs = true) := by
  unfold chkF
  split
  · exact .inl rfl
  · split
    · rename_i h1 h2; exact .inr ⟨rfl, by omega, h2⟩
    · exact .inl rfl

set_option maxHeartbeats 4000000 in
theorem holdsC_any (x : Int) (cv : Value) (vs : List Value) (rs : List (List Int)) (m : List Bool) (mv : Value) (w : World) (hx : x ≤ 200000) (hx2 : -9223372036854775808 ≤ x) (h : RowsIn w cv vs rs) (hs : szF rs ≤ 200000) (hm : SlC w mv m.length (bools m)) (hml : m.length ≤ 1000000) :
    Calls Tryd.prog 13 #[.agg #[.int .i64 x, cv], mv] w fun e w' => e = .returned (.bool (holdsF x rs m)) ∧ Ext w w' := by
  obtain ⟨R, hR⟩ : ∃ R, R = holdsF x rs m := ⟨_, rfl⟩
  rw [← hR]
  have HRR := Lib.hid hR
  obtain ⟨n, hn⟩ : ∃ n, n = rs.length := ⟨_, rfl⟩
  have HN := Lib.hid hn
  have HR := Lib.hid h
  have HM := Lib.hid hm
  have hlen := szF_len rs
  have hn2 : n ≤ 200000 := by omega
  have HS := Lib.hid (And.intro hs hx2)
  obtain ⟨a, cap, rfl, -, -, -⟩ := id h.top
  obtain ⟨am, capm, rfl, -, -, -⟩ := id hm
  obtain ⟨M, hM⟩ : ∃ M, M = m.length := ⟨_, rfl⟩
  have HML := Lib.hid hM
  have hM2 : M ≤ 1000000 := by omega
  rw [← hn, ← hM]
  clear hR h hlen hs hn hm hM hml
  refine (callsIn_wide (n := 8)).1 ?_
  refine callsIn_of_wp_marks Tryd.func13 rfl trivial ?_ rfl
  simp only [Tryd.ntmps13, List.size_toArray, List.length_cons, List.length_nil, Nat.reduceAdd, Nat.reduceSub, Array.replicate_succ, Array.replicate_zero, List.push_toArray, List.append_toArray, List.nil_append, List.cons_append]
  gi_upto_region 1 with fail
  have hbX := ((BoxV.of_row (heap_alloc_last w (.cells #[.int .i64 x, .slice a n cap] 24))).ext ((Ext.refl _).alloc (.cells #[.slice am M capm] 25))).ext ((Ext.refl _).alloc (.cells #[.bool false] 4))
  have hbM := (BoxV.of_row (heap_alloc_last (w.alloc (.cells #[.int .i64 x, .slice a n cap] 24)) (.cells #[.slice am M capm] 25))).ext ((Ext.refl _).alloc (.cells #[.bool false] 4))
  have hbE := BoxV.of_row (heap_alloc_last ((w.alloc (.cells #[.int .i64 x, .slice a n cap] 24)).alloc (.cells #[.slice am M capm] 25)) (.cells #[.bool false] 4))
  have hE : Ext w (((w.alloc (.cells #[.int .i64 x, .slice a n cap] 24)).alloc (.cells #[.slice am M capm] 25)).alloc (.cells #[.bool false] 4)) := (((Ext.refl w).alloc _).alloc _).alloc _
  simp only [World.size_alloc] at hbM hbE
  have HE := Lib.hid (And.intro hE (And.intro hbX (And.intro hbM hbE)))
  have HRw : Hid (RowsIn (((w.alloc (.cells #[.int .i64 x, .slice a n cap] 24)).alloc (.cells #[.slice am M capm] 25)).alloc (.cells #[.bool false] 4)) (.slice a n cap) vs rs) := Lib.hid (RowsIn.ext (HN.out ▸ HR.out) hE)
  have p0 := hbX.cells 0 _ rfl
  have p1 := hbX.cells 1 _ rfl
  have p2 := hbM.cells 0 _ rfl
  have p3 := hbE.cells 0 _ rfl
  have pf := hbE.fz 0
  have hl1 := hbX.lt
  have hl2 := hbM.lt
  have hl3 := hbE.lt
  have hsz := hE.size
  generalize ((w.alloc (.cells #[.int .i64 x, .slice a n cap] 24)).alloc (.cells #[.slice am M capm] 25)).alloc (.cells #[.bool false] 4) = w2 at hbX hbM hbE hE HE HRw p0 p1 p2 p3 pf hl1 hl2 hl3 hsz ⊢
  clear hbX hbM hbE hE
  rcases chkF_or x rs with hc | ⟨hc, hx0, hok⟩
  · have HC := Lib.hid hc
    have hRf : R = false := by rw [HRR.out]; unfold holdsF; rw [hc]; rfl
    subst hRf
    clear hc
    gi_wp2_with (refine ⟨trivial, ?_⟩; gi_at_call 10; refine (callsIn_wide.2 (checkC_any x _ vs rs _ hx HS.out.2 HRw.out HS.out.1)).mono ?_; rintro e w' ⟨rfl, hE'⟩; rw [HC.out]; (first | (with_reducible obtain ⟨t2, rfl⟩ := Ext.tok2 hE') | (obtain ⟨t2, rfl⟩ := Ext.tok hE')))
    have hT := Ext.by w2 t2
    have q1 := World.cell?_setCell_same' (w2.extBy t2) ⟨w.heap.size + 1 + 1, 0, none⟩ (.bool false) (by rw [hT.cell p3]; rfl)
    exact ⟨_, by simp [results, Tryd.f13, go_sem, q1], rfl, ext_set (HE.out.1.trans hT) (by omega) _ _⟩
  · have HC := Lib.hid hc
    have HOK := Lib.hid hok
    have hx3 : -9223372036854775808 ≤ x := by omega
    by_cases hMx : (M : Int) = x + 1
    · clear hc hok
      gi_wp2_with (refine ⟨trivial, ?_⟩; first | (gi_at_call 10; refine (callsIn_wide.2 (checkC_any x _ vs rs _ hx HS.out.2 HRw.out HS.out.1)).mono ?_; rintro e w' ⟨rfl, hE'⟩; rw [HC.out]; (first | (with_reducible obtain ⟨t2, rfl⟩ := Ext.tok2 hE') | (obtain ⟨t2, rfl⟩ := Ext.tok hE'))) | (gi_at_call 25; refine (clauses_any x _ _ Fence.wide _ trivial rfl).mono ?_; rintro e w' ⟨rfl, rfl⟩))
      have hT := Ext.by w2 t2
      have g2 := hT.cell p2
      have g3 := hT.cell p3
      have gf : (w2.extBy t2).frozen? ⟨w.heap.size + 1 + 1, 0, none⟩ = false := by rw [hT.frozens _ _ hl3]; exact pf
      have hl4 := Nat.lt_of_lt_of_le hl3 hT.size
      have hEa := HE.out.1.trans hT
      have hszT := hT.size
      have HRt := Lib.hid (HRw.out.ext hT)
      rw [show w2.heap.size + t2.n = (w2.extBy t2).heap.size by simp]
      generalize w2.extBy t2 = w3 at hT g2 g3 gf hl4 hEa HRt hszT ⊢
      clear p0 p1 p2 p3 pf
      have hE0 : Ext w (w3.alloc (.cells #[.int .i64 x, .slice a n cap] 24)) := hEa.alloc _
      have hEw : Ext w3 (w3.alloc (.cells #[.int .i64 x, .slice a n cap] 24)) := (Ext.refl w3).alloc _
      have hI0 : HoldI w w.heap.size (.slice am M capm) m rs [] (w3.alloc (.cells #[.int .i64 x, .slice a n cap] 24)) :=
        ⟨⟨fun i hi => by simp at hi, hEw.cell g2, hEw.cell g3, by rw [hEw.frozens _ _ hl4]; exact gf⟩, hE0⟩
      have hCB : (w3.alloc (.cells #[.int .i64 x, .slice a n cap] 24)).cell? ⟨w3.heap.size, 1, none⟩ = some (.slice a n cap) := (BoxV.of_row (heap_alloc_last w3 (.cells #[.int .i64 x, .slice a n cap] 24))).cells 1 _ rfl
      have hNl : rs.length ≤ 1000000 := by rw [← HN.out]; omega
      have hz0 : (w3.alloc (.cells #[.int .i64 x, .slice a n cap] 24)).heap.size = w3.heap.size + 1 := World.size_alloc _ _
      have HRn : RowsIn w (.slice a n cap) vs rs := HN.out ▸ HR.out
      refine wpIn_rangeFunc_ownF rfl (by decide) (gf := 39) (lb := #[.pointer (some ⟨w3.heap.size, 0, none⟩)]) rfl trivial (enters_of Tryd.func39 (by kernel_rfl) rfl)
        (clauses_stops Fence.wide (8 - 1) trivial rfl (by decide) w3.heap.size (.slice a n cap) vs rs w _ HRn hNl hE0 (by rw [hz0]; omega) hCB)
        belowK_t (belowK_b (by omega)) (Below.refl _ _) (fun _ => rfl)
        (HoldI w w.heap.size (.slice am M capm) m rs) (HoldX w w.heap.size m rs) (holdI_own (by omega)) (holdX_own (by omega)) hI0 ?a1 ?assign ?body ?done ?stop
      case assign =>
        intro l i W K hK
        gi_wp2
        exact hK
      case body =>
        rintro l pre i W ⟨⟨hc, r1, r2, rf⟩, hB⟩ _
        obtain ⟨y, r, hy, hr, hs⟩ := HRn.at i.2
        have e1 : vs[i.1]?.getD (.slice none 0 0) = y := by rw [hy]; rfl
        have e2 := Lib.hid (show rs.getD i.1 [] = r by rw [List.getD_eq_getElem?_getD, hr]; rfl)
        obtain ⟨ya, ycap, rfl, -, -, hrc⟩ := hs
        have HRC : Hid (∀ (k : Nat) (q : Int), r[k]? = some q → ∃ b o, ya = some ⟨b, o, none⟩ ∧ b < W.heap.size ∧ W.cell? ⟨b, o + k, none⟩ = some (.int .i64 q)) := Lib.hid fun k q hq => by
          obtain ⟨b, o, z1, z2⟩ := hrc k (.int .i64 q) (by simp [i64s, hq])
          have z3 := World.block_lt_of_cell? w _ z2
          exact ⟨b, o, z1, Nat.lt_of_lt_of_le z3 hB.size, (hB.cell (p := ⟨b, o + k, none⟩) z3).trans z2⟩
        have HCL : Hid (∀ q ∈ r, litOk x q = true) := Lib.hid (List.all_eq_true.1 (List.all_eq_true.1 HOK.out r (List.mem_of_getElem? hr)))
        have HMW : Hid (SlC W (.slice am M capm) m.length (bools m)) := Lib.hid (by rw [HML.out]; exact HM.out.ext hB)
        obtain ⟨L, hL⟩ : ∃ L, L = r.length := ⟨_, rfl⟩
        have HL := Lib.hid hL
        have hLb : L ≤ 200000 := by have := szF_mem (List.mem_of_getElem? hr); have := HS.out.1; omega
        have HCC := Lib.hid (And.intro hc hB)
        have y1 := World.block_lt_of_cell? W _ r1
        have y2 := World.block_lt_of_cell? W _ r2
        rw [← hL] at e1
        rw [e1]
        clear hc hB hL hy hr hrc e1 hI0 hEw hE0 hCB hNl HRn hz0
        gi_wp2
        gi_loopw [6, 25] (fun s6 k wr' => ∃ (j : Nat) (u : Bool), j ≤ L ∧ k = .int .i64 j ∧ s6 = .bool u ∧ Ext W wr' ∧ Hid (u = (r.take j).any (litV m))) (fun _ k _ => L - (intOf k).toNat)
        case atStart => exact ⟨0, false, Nat.zero_le _, rfl, rfl, Ext.refl _, Lib.hid rfl⟩
        case round =>
          obtain ⟨k, u, hk, rfl, rfl, hxr, hu⟩ := hrel
          (first | (with_reducible obtain ⟨t1, rfl⟩ := Ext.tok2 hxr) | (obtain ⟨t1, rfl⟩ := Ext.tok hxr))
          by_cases hlt : k < L
          · obtain ⟨q, hq⟩ : ∃ q, r[k]? = some q := ⟨_, List.getElem?_eq_getElem (by have := HL.out; omega)⟩
            obtain ⟨b, o, rfl, z1, g1⟩ := HRC.out k q hq
            have hki : (k : Int) < (L : Int) := Int.ofNat_lt.2 hlt
            have hany : Hid ((r.take (k + 1)).any (litV m) = (u || litV m q)) := Lib.hid (by rw [List.take_add_one, hq, hu.out]; simp)
            have hlo := HCL.out q (List.mem_of_getElem? hq)
            have HLM : Hid (q ≠ 0 ∧ q < (m.length : Int) ∧ -(m.length : Int) < q ∧ m.length ≤ 1000000) := Lib.hid (by
              unfold litOk at hlo
              simp at hlo
              have h1 := HML.out
              rw [← h1]
              have h2 := hlo.1.1
              have h3 := hlo.1.2
              have h4 := hlo.2
              refine ⟨h2, by omega, by omega, hM2⟩)
            clear hq hlo
            cases u
            · obtain ⟨z, hz⟩ : ∃ z, z = litV m q := ⟨_, rfl⟩
              have HZ := Lib.hid hz
              clear hz
              cases z
              · gi_wp2_with (refine ⟨trivial, ?_⟩; gi_at_call 28; refine (CallsIn.inRound l (callsIn_wide.2 (litC_any m _ q HLM.out.1 HLM.out.2.1 HLM.out.2.2.1 HLM.out.2.2.2 _ (HMW.out.ext (Ext.by W t1))))).mono ?_; rintro e w' ⟨rfl, rfl⟩; rw [← HZ.out])
                exact ⟨⟨k + 1, false, by omega, by simp, rfl, Ext.by W t1, Lib.hid (by rw [hany.out, ← HZ.out]; rfl)⟩, by simp [intOf]; omega⟩
              · gi_wp2_with (refine ⟨trivial, ?_⟩; gi_at_call 28; refine (CallsIn.inRound l (callsIn_wide.2 (litC_any m _ q HLM.out.1 HLM.out.2.1 HLM.out.2.2.1 HLM.out.2.2.2 _ (HMW.out.ext (Ext.by W t1))))).mono ?_; rintro e w' ⟨rfl, rfl⟩; rw [← HZ.out])
                exact ⟨⟨k + 1, true, by omega, by simp, rfl, Ext.by W t1, Lib.hid (by rw [hany.out, ← HZ.out]; rfl)⟩, by simp [intOf]; omega⟩
            · gi_wp2
              refine ⟨trivial, ?_⟩
              gi_wp2
              exact ⟨⟨k + 1, true, by omega, by simp, rfl, Ext.by W t1, Lib.hid (by rw [hany.out]; rfl)⟩, by simp [intOf]; omega⟩
          · have hki : ¬ (k : Int) < (L : Int) := fun e => hlt (Int.ofNat_lt.1 e)
            have hcl : u = clV m r := by rw [hu.out, List.take_of_length_le (by have := HL.out; omega)]; rfl
            have HCV := Lib.hid hcl
            clear hcl hu
            cases u
            · gi_wp2
              have hT := Ext.by W t1
              refine ⟨(others_ext hT).trans (KeepsOthers.setCell _ _ _), ⟨rfl, ⟨i, by simp, by rw [e2.out]; exact HCV.out.symm⟩, World.cell?_setCell_same' _ _ _ (by rw [hT.cell r2]; rfl)⟩, (HCC.out.2.trans (hT.mono HCC.out.2.size)).setCell (p := ⟨w.heap.size + 1 + 1, 0, none⟩) (by simp; omega) _⟩
            · gi_wp2
              have hT := Ext.by W t1
              refine ⟨others_ext hT, hT.mono HCC.out.2.size, ⟨fun i' hi' => ?_, hT.cell r1, hT.cell r2, by rw [hT.frozens _ _ y2]; exact rf⟩, HCC.out.2.trans (hT.mono HCC.out.2.size)⟩
              rcases List.mem_append.1 hi' with h1 | h1
              · exact HCC.out.1 i' h1
              · simp at h1
                rw [h1, e2.out]
                exact HCV.out.symm
      case done =>
        rintro D ys W hD rfl ⟨⟨hc, r1, r2, rf⟩, hB⟩ hK
        have HCC := Lib.hid (And.intro hc hB)
        have HDK := Lib.hid (And.intro hD hK)
        clear hc hB hD hK hI0 hEw hE0 hCB hNl HRn hz0
        gi_wp2
        have hz1 : w3.heap.size + 1 ≤ D := by have := HDK.out.1; rwa [World.size_alloc] at this
        have hK' := (KeepsOthers.setCell W ⟨w.heap.size + 1 + 1, 0, none⟩ (.bool true)).same D _ HDK.out.2 rfl
        refine ⟨by simp, .inl ⟨_, _, rfl, run_takeDeferred hK', ?_⟩⟩
        have hc5 := cell_kept (World.cell?_setCell_same' W ⟨w.heap.size + 1 + 1, 0, none⟩ (.bool true) (by rw [r2]; rfl)) (grownBy_putObj' _ D (.deferred none)) (fun r e => by cases e; exact ⟨_, hK', rfl⟩)
        have hRt : R = true := by
          rw [HRR.out]
          unfold holdsF
          rw [HC.out, ← HML.out, hMx]
          simp only [beq_self_eq_true, decide_true, Bool.and_self, Bool.true_and]
          refine List.all_eq_true.2 fun r hr => ?_
          obtain ⟨k, hk⟩ := List.getElem?_of_mem hr
          have hk2 : k < rs.length := (List.getElem?_eq_some_iff.1 hk).1
          have := HCC.out.1 ⟨k, hk2⟩ (List.mem_finRange _)
          rwa [List.getD_eq_getElem?_getD, hk] at this
        refine ⟨.bool true, ?_, by rw [hRt], (HCC.out.2.setCell (p := ⟨w.heap.size + 1 + 1, 0, none⟩) (by simp; omega) _).trans (belowK_b (w := w) (Nat.le_refl _) _ D _ _ (by omega) hK' rfl rfl)⟩
        simp [results, Tryd.f13, go_sem, hc5]
      case stop =>
        rintro D c pre W hD hpre ⟨⟨rfl, ⟨i, hi, hno⟩, hc⟩, hB⟩ hK
        have HCC := Lib.hid hB
        have HDK := Lib.hid (And.intro hD hK)
        clear hB hD hK hI0 hEw hE0 hCB hNl HRn hz0
        gi_wp2
        have hz1 : w3.heap.size + 1 ≤ D := by have := HDK.out.1; rwa [World.size_alloc] at this
        refine ⟨by simp, .inl ⟨_, _, rfl, run_takeDeferred HDK.out.2, ?_⟩⟩
        have hc5 := cell_kept hc (grownBy_putObj' _ D (.deferred none)) (fun r e => by cases e; exact ⟨_, HDK.out.2, rfl⟩)
        have hRf : R = false := by
          rw [HRR.out]
          unfold holdsF
          rw [show frmV m rs = false from ?_]
          · simp
          · exact List.all_eq_false.2 ⟨rs.getD i.1 [], by rw [List.getD_eq_getElem?_getD, List.getElem?_eq_getElem i.2]; exact List.getElem_mem _, by rw [hno]; simp⟩
        refine ⟨.bool false, ?_, by rw [hRf], HCC.out.trans (belowK_b (w := w) (Nat.le_refl _) W D _ _ (by omega) HDK.out.2 rfl rfl)⟩
        simp [results, Tryd.f13, go_sem, hc5]
    · have hRf : R = false := by rw [HRR.out]; unfold holdsF; rw [← HML.out]; simp [hMx]
      subst hRf
      clear hc hok
      gi_wp2_with (refine ⟨trivial, ?_⟩; gi_at_call 10; refine (callsIn_wide.2 (checkC_any x _ vs rs _ hx HS.out.2 HRw.out HS.out.1)).mono ?_; rintro e w' ⟨rfl, hE'⟩; rw [HC.out]; (first | (with_reducible obtain ⟨t2, rfl⟩ := Ext.tok2 hE') | (obtain ⟨t2, rfl⟩ := Ext.tok hE')))
      have hT := Ext.by w2 t2
      have q1 := World.cell?_setCell_same' (w2.extBy t2) ⟨w.heap.size + 1 + 1, 0, none⟩ (.bool false) (by rw [hT.cell p3]; rfl)
      exact ⟨_, by simp [results, Tryd.f13, go_sem, q1], rfl, ext_set (HE.out.1.trans hT) (by omega) _ _⟩
end Go.Proofs.YtlikmdeplpldlaaDoor

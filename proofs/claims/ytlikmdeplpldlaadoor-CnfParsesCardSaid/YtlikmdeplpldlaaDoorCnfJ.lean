/-
  The program's own walk that asks a formula.
  Conditions: the formula lies in memory, and is small.
-/
import Derived.RangeFuncNested
import Derived.RangeFuncBound
import Derived.RangeFuncCalls
import Derived.RangeFuncLeaves
import Derived.Shelf.Abstract
import Derived.Shelf.RegionOpen
import Derived.OwnWalkIn
import Derived.TacticsInMore
import Derived.LoopNIn
import Derived.LoopIn
import Derived.Test.YtlikmdeplpldlaaDoorCnfI
namespace Go.Proofs.YtlikmdeplpldlaaDoor
open Go.RowKit Go.Shelf
set_option linter.unusedSimpArgs false
set_option linter.unusedVariables false
set_option maxRecDepth 100000

attribute [local go_sem] Oper.semAt_some
/-- Between two rounds: all clauses that have come are of literals. -/
def ChkI (w : World) (B : Nat) (x : Int) (cv : Value) (rs : List (List Int)) (pre : List (Fin rs.length)) (W : World) : Prop :=
  ((∀ i ∈ pre, clOk x (rs.getD i.1 []) = true) ∧ W.cell? ⟨B, 0, none⟩ = some (.int .i64 x) ∧ W.cell? ⟨B, 1, none⟩ = some cv ∧ W.cell? ⟨B + 1, 0, none⟩ = some (.int .i64 0) ∧ W.frozen? ⟨B + 1, 0, none⟩ = false) ∧ Below w.heap.size w W
/-- A round that has found a number that is no literal. -/
def ChkX (w : World) (B : Nat) (x : Int) (rs : List (List Int)) (c : Code) (pre : List (Fin rs.length)) (W : World) : Prop :=
  (c = .ret ∧ (∃ i ∈ pre, clOk x (rs.getD i.1 []) = false) ∧ W.cell? ⟨B + 1, 0, none⟩ = some (.int .i64 40)) ∧ Below w.heap.size w W
theorem chkI_own {w : World} {B B' : Nat} {x : Int} {cv : Value} {rs : List (List Int)} (h : w.heap.size ≤ B') : OwnFrom B' (ChkI w B x cv rs) :=
  OwnFrom.and (Own.from (fun s A B row hs hg hr => ⟨hs.1, cell_kept hs.2.1 hg hr, cell_kept hs.2.2.1 hg hr, cell_kept hs.2.2.2.1 hg hr, (frozen_kept hs.2.2.2.1 hg hr).trans hs.2.2.2.2⟩) _) (ownFrom_below (Nat.le_refl _) h)
theorem chkX_own {w : World} {B B' : Nat} {x : Int} {rs : List (List Int)} (h : w.heap.size ≤ B') : ∀ c, OwnFrom B' (ChkX w B x rs c) := fun c =>
  OwnFrom.and (Own.from (fun s A B row hs hg hr => ⟨hs.1, hs.2.1, cell_kept hs.2.2 hg hr⟩) _) (ownFrom_below (Nat.le_refl _) h)
set_option maxRecDepth 8000 in
set_option maxHeartbeats 4000000 in
theorem checkC_any (x : Int) (cv : Value) (vs : List Value) (rs : List (List Int)) (w : World) (hx : x ≤ 200000) (hx2 : -9223372036854775808 ≤ x) (h : RowsIn w cv vs rs) (hs : szF rs ≤ 200000) :
    Calls Tryd.prog 10 #[.agg #[.int .i64 x, cv]] w fun e w' => e = .returned (.int .i64 (chkF x rs)) ∧ Ext w w' := by
  obtain ⟨R, hR⟩ : ∃ R, R = chkF x rs := ⟨_, rfl⟩
  rw [← hR]
  have HRR := Lib.hid hR
  have hlen := szF_len rs
  obtain ⟨n, hn⟩ : ∃ n, n = rs.length := ⟨_, rfl⟩
  have HN := Lib.hid hn
  have HR := Lib.hid h
  obtain ⟨a, cap, rfl, -, -, htc⟩ := id h.top
  have HT := Lib.hid htc
  have hn2 : n ≤ 200000 := by omega
  have HS := Lib.hid hs
  rw [← hn]
  clear hR h hlen hs hn htc
  refine (callsIn_wide (n := 8)).1 ?_
  refine callsIn_of_wp_marks Tryd.func10 rfl trivial ?_ rfl
  simp only [Tryd.ntmps10, List.size_toArray, List.length_cons, List.length_nil, Nat.reduceAdd, Nat.reduceSub, Array.replicate_succ, Array.replicate_zero, List.push_toArray, List.append_toArray, List.nil_append, List.cons_append]
  gi_wp2
  have hbX := (BoxV.of_row (heap_alloc_last w (.cells #[.int .i64 x, .slice a n cap] 24))).ext ((Ext.refl _).alloc (.cells #[.int .i64 0] 28))
  have hbE := BoxV.of_row (heap_alloc_last (w.alloc (.cells #[.int .i64 x, .slice a n cap] 24)) (.cells #[.int .i64 0] 28))
  have hE : Ext w ((w.alloc (.cells #[.int .i64 x, .slice a n cap] 24)).alloc (.cells #[.int .i64 0] 28)) := ((Ext.refl w).alloc _).alloc _
  rw [World.size_alloc] at hbE
  have HE := Lib.hid (And.intro hE (And.intro hbX hbE))
  have HT2 : Hid (∀ (j : Nat) (u : Value), vs[j]? = some u → ∃ b o, a = some ⟨b, o, none⟩ ∧ b < w.heap.size ∧ ((w.alloc (.cells #[.int .i64 x, .slice a n cap] 24)).alloc (.cells #[.int .i64 0] 28)).cell? ⟨b, o + j, none⟩ = some u) := Lib.hid fun j u hu => by obtain ⟨b, o, e1, e2⟩ := HT.out j u hu; exact ⟨b, o, e1, World.block_lt_of_cell? w _ e2, hE.cell e2⟩
  have p0 := hbX.cells 0 _ rfl
  have p1 := hbX.cells 1 _ rfl
  generalize (w.alloc (.cells #[.int .i64 x, .slice a n cap] 24)).alloc (.cells #[.int .i64 0] 28) = w2 at hbX hbE hE HE HT2 p0 p1 ⊢
  clear hbX hbE hE
  gi_loopw [3, 15] (fun k i wr => ∃ j m : Nat, j ≤ n ∧ k = .int .i64 m ∧ i = .int .i64 j ∧ wr = w2 ∧ m ≤ 200000 ∧ Hid (m = szF (rs.take j))) (fun _ i _ => n - (intOf i).toNat)
  case atStart => exact ⟨0, 0, Nat.zero_le _, rfl, rfl, rfl, by omega, Lib.hid rfl⟩
  case round =>
    obtain ⟨j, m, hj, rfl, rfl, rfl, hm, HM⟩ := hrel
    by_cases hlt : j < n
    · obtain ⟨y, r, hy, hr, hs⟩ := HR.out.at (j := j) (by have := HN.out; omega)
      obtain ⟨b, o, rfl, z1, g1⟩ := HT2.out j y hy
      obtain ⟨ya, ycap, rfl, -⟩ := hs
      obtain ⟨L, hL⟩ : ∃ L, L = r.length := ⟨_, rfl⟩
      rw [← hL] at g1
      have hsum : m + (L + 1) ≤ 200000 := by
        have h1 := szF_take hr
        have h2 := szF_le rs (j + 1)
        have := HM.out
        have := HS.out
        omega
      have HM2 : Hid (m + (L + 1) = szF (rs.take (j + 1))) := Lib.hid (by rw [szF_take hr, ← HM.out, hL])
      have hji : (j : Int) < (n : Int) := Int.ofNat_lt.2 hlt
      have HSU := Lib.hid hsum
      have hb1 : m ≤ 200000 := hm
      have hb2 : L ≤ 200000 := by omega
      have hsumI : ¬ (200000 : Int) < (m : Int) + ((L : Int) + 1) := by omega
      clear hy hr hL hsum hm
      gi_wp2
      go_roundw
      case rel => exact ⟨j + 1, m + (L + 1), by omega, by go_num, by go_num, (by first | rfl | trivial), HSU.out, HM2⟩
      case measure => simp [intOf]; omega
    · have hji : ¬ (j : Int) < (n : Int) := fun e => hlt (Int.ofNat_lt.1 e)
      have hE := HE.out.1
      have hbX := HE.out.2.1
      have hbE := HE.out.2.2
      by_cases hx0 : x < 0
      · have hR : R = 40 := by rw [HRR.out]; unfold chkF; rw [if_pos hx0]
        subst hR
        have q0 := hbE.cells 0 _ rfl
        have qf := hbE.fz 0
        clear hE hbX hbE
        gi_wp2
        have q1 := World.cell?_setCell_same' wr ⟨w.heap.size + 1, 0, none⟩ (.int .i64 40) (by rw [q0]; rfl)
        exact ⟨_, by simp [results, Tryd.f10, go_sem, q1], rfl, ext_set HE.out.1 (by omega) _ _⟩
      · have q0 := hbE.cells 0 _ rfl
        have qf := hbE.fz 0
        have hsz := hE.size
        have hlt1 := hbX.lt
        have hlt2 := hbE.lt
        clear hE hbX hbE
        gi_wp2_with (refine ⟨trivial, ?_⟩; gi_at_call 25; refine (clauses_any x _ _ Fence.wide _ trivial rfl).mono ?_; rintro e w' ⟨rfl, rfl⟩)
        have hE0 : Ext w (wr.alloc (.cells #[.int .i64 x, .slice a n cap] 24)) := HE.out.1.alloc _
        have hEw : Ext wr (wr.alloc (.cells #[.int .i64 x, .slice a n cap] 24)) := (Ext.refl wr).alloc _
        have hI0 : ChkI w w.heap.size x (.slice a n cap) rs [] (wr.alloc (.cells #[.int .i64 x, .slice a n cap] 24)) :=
          ⟨⟨fun i hi => by simp at hi, hEw.cell p0, hEw.cell p1, hEw.cell q0, by rw [hEw.frozens _ _ hlt2]; exact qf⟩, hE0⟩
        have hCB : (wr.alloc (.cells #[.int .i64 x, .slice a n cap] 24)).cell? ⟨wr.heap.size, 1, none⟩ = some (.slice a n cap) := (BoxV.of_row (heap_alloc_last wr (.cells #[.int .i64 x, .slice a n cap] 24))).cells 1 _ rfl
        have hNl : rs.length ≤ 1000000 := by rw [← HN.out]; omega
        have hz0 : (wr.alloc (.cells #[.int .i64 x, .slice a n cap] 24)).heap.size = wr.heap.size + 1 := World.size_alloc _ _
        have HRn : RowsIn w (.slice a n cap) vs rs := HN.out ▸ HR.out
        refine wpIn_rangeFunc_ownF rfl (by decide) (gf := 39) (lb := #[.pointer (some ⟨wr.heap.size, 0, none⟩)]) rfl trivial (enters_of Tryd.func39 (by kernel_rfl) rfl)
          (clauses_stops Fence.wide (8 - 1) trivial rfl (by decide) wr.heap.size (.slice a n cap) vs rs w _ HRn hNl hE0 (by rw [hz0]; omega) hCB)
          belowK_t (belowK_b (by omega)) (Below.refl _ _) (fun _ => rfl)
          (ChkI w w.heap.size x (.slice a n cap) rs) (ChkX w w.heap.size x rs) (chkI_own (by omega)) (chkX_own (by omega)) hI0 ?a1 ?assign ?body ?done ?stop
        case assign =>
          intro l i W K hK
          gi_wp2
          exact hK
        case body =>
          rintro l pre i W ⟨⟨hc, r0, r1, r2, rf⟩, hB⟩ _
          obtain ⟨y, r, hy, hr, hs⟩ := HRn.at i.2
          have e1 : vs[i.1]?.getD (.slice none 0 0) = y := by rw [hy]; rfl
          have e2 := Lib.hid (show rs.getD i.1 [] = r by rw [List.getD_eq_getElem?_getD, hr]; rfl)
          obtain ⟨ya, ycap, rfl, -, -, hrc⟩ := hs
          have HRC : Hid (∀ (k : Nat) (q : Int), r[k]? = some q → ∃ b o, ya = some ⟨b, o, none⟩ ∧ b < W.heap.size ∧ W.cell? ⟨b, o + k, none⟩ = some (.int .i64 q)) := Lib.hid fun k q hq => by
            obtain ⟨b, o, z1, z2⟩ := hrc k (.int .i64 q) (by simp [i64s, hq])
            have z3 := World.block_lt_of_cell? w _ z2
            exact ⟨b, o, z1, Nat.lt_of_lt_of_le z3 hB.size, (hB.cell (p := ⟨b, o + k, none⟩) z3).trans z2⟩
          obtain ⟨L, hL⟩ : ∃ L, L = r.length := ⟨_, rfl⟩
          have HL := Lib.hid hL
          have hLb : L ≤ 200000 := by have := szF_mem (List.mem_of_getElem? hr); have := HS.out; omega
          have HCC := Lib.hid (And.intro hc hB)
          have y0 := World.block_lt_of_cell? W _ r0
          have y2 := World.block_lt_of_cell? W _ r2
          rw [← hL] at e1
          rw [e1]
          have hx1 : 0 ≤ x ∧ x ≤ 1000000 := ⟨by omega, by omega⟩
          clear hc hB hL hy hr hrc e1 hI0 hEw hE0 hCB hNl HRn p0 p1 q0 qf hz0
          gi_wp2
          gi_loopw [35] (fun k wr' => ∃ j : Nat, j ≤ L ∧ k = .int .i64 j ∧ Ext W wr' ∧ Hid (∀ q ∈ r.take j, litOk x q = true)) (fun k _ => L - (intOf k).toNat)
          case atStart => exact ⟨0, Nat.zero_le _, rfl, Ext.refl _, Lib.hid (by simp)⟩
          case round =>
            obtain ⟨k, hk, rfl, hxr, hok⟩ := hrel
            (first | (with_reducible obtain ⟨t1, rfl⟩ := Ext.tok2 hxr) | (obtain ⟨t1, rfl⟩ := Ext.tok hxr))
            by_cases hlt : k < L
            · obtain ⟨q, hq⟩ : ∃ q, r[k]? = some q := ⟨_, List.getElem?_eq_getElem (by have := HL.out; omega)⟩
              obtain ⟨b, o, rfl, z1, g1⟩ := HRC.out k q hq
              have hki : (k : Int) < (L : Int) := Int.ofNat_lt.2 hlt
              have HQ := Lib.hid hq
              clear hq
              cases hl : litOk x q
              · have HLQ := Lib.hid hl
                gi_wp2_with (refine ⟨trivial, ?_⟩; gi_at_call 26; refine (CallsIn.inRound l (callsIn_wide.2 (literalIs_any x q _ hx1 _))).mono ?_; rintro e w' ⟨rfl, hE'⟩; rw [HLQ.out]; (first | (with_reducible obtain ⟨t2, rfl⟩ := Ext.tok2 hE') | (obtain ⟨t2, rfl⟩ := Ext.tok hE')))
                have hT := Ext.by W t2
                refine ⟨(others_ext hT).trans (KeepsOthers.setCell _ _ _), ⟨rfl, ⟨i, by simp, ?_⟩, World.cell?_setCell_same' _ _ _ (by rw [hT.cell r2]; rfl)⟩, (HCC.out.2.trans (hT.mono HCC.out.2.size)).setCell (p := ⟨w.heap.size + 1, 0, none⟩) (by simp) _⟩
                rw [e2.out]
                exact List.all_eq_false.2 ⟨q, List.mem_of_getElem? HQ.out, by rw [HLQ.out]; simp⟩
              · have HLQ := Lib.hid hl
                gi_wp2_with (refine ⟨trivial, ?_⟩; gi_at_call 26; refine (CallsIn.inRound l (callsIn_wide.2 (literalIs_any x q _ hx1 _))).mono ?_; rintro e w' ⟨rfl, hE'⟩; rw [HLQ.out]; (first | (with_reducible obtain ⟨t2, rfl⟩ := Ext.tok2 hE') | (obtain ⟨t2, rfl⟩ := Ext.tok hE')))
                refine ⟨⟨k + 1, by omega, by simp, Ext.by W t2, Lib.hid fun q' hq' => ?_⟩, by simp [intOf]; omega⟩
                rw [List.take_add_one, HQ.out] at hq'
                rcases List.mem_append.1 hq' with h1 | h1
                · exact hok.out q' h1
                · simp at h1
                  rw [h1]; exact HLQ.out
            · have hki : ¬ (k : Int) < (L : Int) := fun e => hlt (Int.ofNat_lt.1 e)
              gi_wp2
              have hT := Ext.by W t1
              refine ⟨others_ext hT, hT.mono HCC.out.2.size, ⟨fun i' hi' => ?_, hT.cell r0, hT.cell r1, hT.cell r2, by rw [hT.frozens _ _ y2]; exact rf⟩, HCC.out.2.trans (hT.mono HCC.out.2.size)⟩
              rcases List.mem_append.1 hi' with h1 | h1
              · exact HCC.out.1 i' h1
              · simp at h1
                rw [h1, e2.out]
                refine List.all_eq_true.2 fun q hq => hok.out q ?_
                rw [List.take_of_length_le (by have := HL.out; omega)]
                exact hq
        case done =>
          rintro D ys W hD rfl ⟨⟨hc, r0, r1, r2, rf⟩, hB⟩ hK
          have HCC := Lib.hid (And.intro hc hB)
          have HDK := Lib.hid (And.intro hD hK)
          clear hc hB hD hK hI0 hEw hE0 hCB hNl HRn p0 p1 q0 qf hz0
          gi_wp2
          have hz1 : wr.heap.size + 1 ≤ D := by have := HDK.out.1; rwa [World.size_alloc] at this
          have hK' := (KeepsOthers.setCell W ⟨w.heap.size + 1, 0, none⟩ (.int .i64 0)).same D _ HDK.out.2 rfl
          refine ⟨by simp, .inl ⟨_, _, rfl, run_takeDeferred hK', ?_⟩⟩
          have hc5 := cell_kept (World.cell?_setCell_same' W ⟨w.heap.size + 1, 0, none⟩ (.int .i64 0) (by rw [r2]; rfl)) (grownBy_putObj' _ D (.deferred none)) (fun r e => by cases e; exact ⟨_, hK', rfl⟩)
          have hR : R = 0 := by
            rw [HRR.out]
            unfold chkF
            rw [if_neg (by omega), if_pos]
            refine List.all_eq_true.2 fun r hr => ?_
            obtain ⟨k, hk⟩ := List.getElem?_of_mem hr
            have hk2 : k < rs.length := (List.getElem?_eq_some_iff.1 hk).1
            have := HCC.out.1 ⟨k, hk2⟩ (List.mem_finRange _)
            rwa [List.getD_eq_getElem?_getD, hk] at this
          refine ⟨.int .i64 0, ?_, by rw [hR], (HCC.out.2.setCell (p := ⟨w.heap.size + 1, 0, none⟩) (by simp) _).trans (belowK_b (w := w) (Nat.le_refl _) _ D _ _ (by omega) hK' rfl rfl)⟩
          simp [results, Tryd.f10, go_sem, hc5]
        case stop =>
          rintro D c pre W hD hpre ⟨⟨rfl, ⟨i, hi, hno⟩, hc⟩, hB⟩ hK
          have HCC := Lib.hid hB
          have HDK := Lib.hid (And.intro hD hK)
          clear hB hD hK hI0 hEw hE0 hCB hNl HRn p0 p1 q0 qf hz0
          gi_wp2
          have hz1 : wr.heap.size + 1 ≤ D := by have := HDK.out.1; rwa [World.size_alloc] at this
          refine ⟨by simp, .inl ⟨_, _, rfl, run_takeDeferred HDK.out.2, ?_⟩⟩
          have hc5 := cell_kept hc (grownBy_putObj' _ D (.deferred none)) (fun r e => by cases e; exact ⟨_, HDK.out.2, rfl⟩)
          have hR : R = 40 := by
            rw [HRR.out]
            unfold chkF
            rw [if_neg (by omega), if_neg]
            intro hall
            have h1 := List.all_eq_true.1 hall (rs.getD i.1 []) (by rw [List.getD_eq_getElem?_getD, List.getElem?_eq_getElem i.2]; exact List.getElem_mem _)
            rw [hno] at h1; cases h1
          refine ⟨.int .i64 40, ?_, by rw [hR], HCC.out.trans (belowK_b (w := w) (Nat.le_refl _) W D _ _ (by omega) HDK.out.2 rfl rfl)⟩
          simp [results, Tryd.f10, go_sem, hc5]
end Go.Proofs.YtlikmdeplpldlaaDoor

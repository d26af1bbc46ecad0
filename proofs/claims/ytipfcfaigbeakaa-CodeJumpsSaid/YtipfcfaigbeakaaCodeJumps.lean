/-
  The law on the jumps of code: its walk.
  No condition.
-/
import Derived.Test.YtipfcfaigbeakaaCodeStacks
import Derived.Test.YtipfcfaigbeakaaCodePlain4
import Derived.Test.YtipfcfaigbeakaaJLaw
import Derived.Test.YtipfcfaigbeakaaMCodeRefB
import Derived.Laws.OwnMore
import Derived.Deep.RegionHeld3
import Derived.Deep.RegionLaw
namespace Go.Proofs.Ytipfcfaigbeakaa
open Go.RowKit
set_option maxRecDepth 100000

/-- A row of jumps by nought, but for one instruction. -/
def jbq (A : Nat) (q : InsV) (j : Nat) : List InsV := (List.range j).map (fun i => if i = A then q else jmp0)
theorem jbq_succ (A : Nat) (q : InsV) (j : Nat) : jbq A q (j + 1) = jbq A q j ++ [if j = A then q else jmp0] := by unfold jbq; rw [List.range_succ, List.map_append]; rfl
theorem jbq_len (A : Nat) (q : InsV) (j : Nat) : (jbq A q j).length = j := by simp [jbq]
theorem jbq_eq {A N : Nat} (q : InsV) (h : A < N) : jbq A q N = List.replicate A jmp0 ++ q :: List.replicate (N - A - 1) jmp0 := by
  apply List.ext_getElem
  · simp [jbq]; omega
  · intro i h1 h2
    simp only [jbq, List.getElem_map, List.getElem_range]
    rcases Nat.lt_trichotomy i A with h3 | h3 | h3
    · rw [if_neg (by omega), List.getElem_append_left (by simpa using h3)]; simp
    · subst h3; rw [if_pos rfl, List.getElem_append_right (by simp)]; simp
    · rw [if_neg (by omega), List.getElem_append_right (by simp; omega)]
      have : i - (List.replicate A jmp0).length = (i - A - 1) + 1 := by simp; omega
      simp only [this, List.getElem_cons_succ, List.getElem_replicate]
theorem insCells_jmp (k : Nat) : (insCells (List.replicate k jmp0)).length = k * 3 := by rw [insCells_len, List.length_replicate]
theorem insCells_one (l : List InsV) : ∀ u ∈ insCells l, u.oneCell' = true := by
  intro u hu
  unfold insCells at hu
  obtain ⟨q, _, hq⟩ := List.mem_flatMap.1 hu
  simp only [List.mem_cons, List.not_mem_nil, or_false] at hq
  rcases hq with rfl | rfl | rfl <;> rfl
theorem jump_body (A N : Nat) (b : Int) (h : A < N) : jumpBody N A b = jbq A ⟨7, b, 0⟩ N ++ [⟨9, 0, 0⟩] := by rw [jbq_eq _ h]; unfold jumpBody; simp
set_option maxHeartbeats 4000000 in
theorem codeJumps_any (n a b : Int) (wh : Bool) (hn : I64 n) (ha : I64 a) (hb : I64 b) (w : World) : Calls Try.prog 4 #[.int .i64 n, .int .i64 a, .int .i64 b, .bool wh] w fun e w' => e = .returned (.bool true) ∧ Ext w w' := by
  unfold I64 at hn ha hb
  by_cases hbad : n < 2 ∨ 100 < n ∨ a < 0 ∨ n - 1 ≤ a
  · go_enter Try.func4, Try.ntmps4
    go_wp2_with (first | (go_at_call 15; refine (alive_any _).mono ?_; rintro e w1 ⟨rfl, hx1⟩; (first | (with_reducible obtain ⟨t1, rfl⟩ := Ext.tok2 hx1) | (obtain ⟨t1, rfl⟩ := Ext.tok hx1))))
    all_goals first | omega | (go_ret; exact ⟨rfl, (by repeat first | exact Ext.refl _ | assumption | refine Ext.drew ?_ | refine Ext.drewN ?_ _ | refine Ext.extBy ?_ _ | refine Ext.alloc ?_ _ | refine Ext.setCell ?_ (by simp; try omega) _ | (refine Ext.trans ?_ (by assumption)))⟩) | trace_state
  · obtain ⟨N, rfl⟩ : ∃ N : Nat, n = N := ⟨n.toNat, by omega⟩
    obtain ⟨A, rfl⟩ : ∃ A : Nat, a = A := ⟨a.toNat, by omega⟩
    have h1 : 2 ≤ N := by omega
    have h2 : N ≤ 100 := by omega
    have h3 : A + 1 < N := by omega
    clear hbad hn ha
    go_enter Try.func4, Try.ntmps4
    go_wp2_with (first | (go_at_call 15; refine (alive_any _).mono ?_; rintro e w1 ⟨rfl, hx1⟩; (first | (with_reducible obtain ⟨t1, rfl⟩ := Ext.tok2 hx1) | (obtain ⟨t1, rfl⟩ := Ext.tok hx1))))
    all_goals try omega
    go_loopw [11] (fun i wr => ∃ j : Nat, j ≤ N ∧ i = .int .i64 j ∧ Bld w (w.heap.size + t1.n + 1) (w.heap.size + t1.n) (.slice none 0 0) 0 0 0 1 (.slice none 0 0) (jbq A ⟨7, b, 0⟩ j) wr) (fun i _ => N - (intOf i).toNat)
    case atStart =>
      refine ⟨0, Nat.zero_le _, rfl, ⟨.slice none 0 0, ⟨by go_simp, by go_simp, by go_simp, by go_simp, by go_simp, by go_simp, by go_simp, by go_simp⟩, own_nil _ _ _ _, (by repeat first | exact Ext.refl _ | assumption | refine Ext.drew ?_ | refine Ext.drewN ?_ _ | refine Ext.extBy ?_ _ | refine Ext.alloc ?_ _ | refine Ext.setCell ?_ (by simp; try omega) _ | (refine Ext.trans ?_ (by assumption))), by omega, by omega, by simp⟩⟩
    case round =>
      obtain ⟨j, hj, rfl, ⟨v, hbx, hown, hext, hXB, hwX, hBs⟩⟩ := hrel
      rw [jbq_len] at hown
      obtain ⟨q0, q1, q2, q3, q4, q5, q6, q7⟩ := id hbx
      have hXl : w.heap.size + t1.n < wr.heap.size := by omega
      by_cases hlt : j < N
      · by_cases hjA : j = A
        case' pos => have hjb : ((j : Int) == (A : Int)) = true := by simp [hjA]
        case' neg => have hjb : ((j : Int) == (A : Int)) = false := by simp; omega
        case' pos => have HV : Hid ((if j = A then (⟨7, b, 0⟩ : InsV) else jmp0) = ⟨7, b, 0⟩) := Lib.hid (if_pos hjA)
        case' neg => have HV : Hid ((if j = A then (⟨7, b, 0⟩ : InsV) else jmp0) = ⟨7, 0, 0⟩) := Lib.hid (if_neg hjA)
        all_goals
          clear hjA
          go_wp2_with (at_builtin; go_must (first
            | (refine wpList_append_lit rfl _ _ 23 33 rfl (.agg #[.int .i64 0, .int .i64 0, .int .i64 0]) 3 24 Try.underlying23 infoIns rfl (by decide) (w.heap.size + t1.n + 1) _ j _ rfl (hown.alloc _) 1 1 _ #[.int .i64 7, .int .i64 b, .int .i64 0] rfl (by simp) rfl (by simp [Value.oneCell']) (by unfold maxLen; omega) (by omega) (by simp; omega) ?_; intro v2 w2 hown2 hg2 hbw20)
            | (refine wpList_append_lit rfl _ _ 23 33 rfl (.agg #[.int .i64 0, .int .i64 0, .int .i64 0]) 3 24 Try.underlying23 infoIns rfl (by decide) (w.heap.size + t1.n + 1) _ j _ rfl (hown.alloc _) 1 1 _ #[.int .i64 7, .int .i64 0, .int .i64 0] rfl (by simp) rfl (by simp [Value.oneCell']) (by unfold maxLen; omega) (by omega) (by simp; omega) ?_; intro v2 w2 hown2 hg2 hbw20)); obtain ⟨a2, m2, c2, rfl⟩ := own_slice3 hown2; have hbw2 := Below.trans (Below.alloc (Below.refl _ _) hBs _) hbw20; have hbx2 := hbx.below hbw2 hXB; have hs2 := hbw2.size; have hext2 : Ext w w2 := Below.trans hext (Below.mono hbw2 (by omega)); obtain ⟨r0, r1, r2, r3, r4, r5, r6, r7⟩ := id hbx2)
          go_roundw
          case rel =>
            refine ⟨j + 1, by omega, by go_num, ⟨.slice a2 m2 c2, hbx2.body _, ?_, ext_set hext2 hwX _ _, hXB, hwX, by simp; omega⟩⟩
            rw [jbq_len, jbq_succ, insCells_append, HV.out]
            exact ownsRow_setCell_below hown2 hXB _
          case measure => simp [intOf]; omega
      · obtain rfl : j = N := by omega
        clear hlt hj
        have HC : Hid (∀ (w' : World) (v : Value) (l : List InsV), chk (jumpV l) = (if 0 ≤ b ∧ b ≤ (j : Int) - A - 1 then 0 else 50) → SlC w' v l.length (insCells l) → Calls Try.prog 17 #[codeA (jumpV l) (.slice none 0 0) (.slice none 0 0) v] w' fun e w1 => e = .returned (.int .i64 (if 0 ≤ b ∧ b ≤ (j : Int) - A - 1 then 0 else 50)) ∧ Ext w' w1) := Lib.hid fun w' v l hc h => by
          have := check_any (jumpV l) (.slice none 0 0) (.slice none 0 0) v w' ⟨SlC.nil _, SlC.nil _, h⟩
          rw [hc] at this
          exact this
        obtain ⟨x, hxe, hxc⟩ : ∃ x : Int, x = (if 0 ≤ b ∧ b ≤ (j : Int) - A - 1 then 0 else 50) ∧ (0 ≤ b ∧ b ≤ (j : Int) - A - 1 ∧ x = 0 ∨ b < 0 ∧ x = 50 ∨ 0 ≤ b ∧ (j : Int) - A - 1 < b ∧ x = 50) := by
          refine ⟨_, rfl, ?_⟩
          by_cases h64 : 0 ≤ b ∧ b ≤ (j : Int) - A - 1
          · rw [if_pos h64]; exact .inl ⟨h64.1, h64.2, rfl⟩
          · rw [if_neg h64]
            by_cases hk : b < 0
            · exact .inr (.inl ⟨hk, rfl⟩)
            · exact .inr (.inr ⟨by omega, by omega, rfl⟩)
        have HJ : Hid (chk (jumpV (jumpBody j A b)) = x) := Lib.hid (by rw [hxe]; exact chk_jumpBody b h2 h3)
        have HB : Hid (chk (jumpV (branchBody j A b)) = x) := Lib.hid (by rw [hxe]; exact chk_branchBody b h2 h3)
        rw [← hxe] at HC
        clear hxe
        cases wh
        · have HL : Hid (insCells (jumpBody j A b) = insCells (jbq A ⟨7, b, 0⟩ j) ++ insCells [⟨9, 0, 0⟩]) := Lib.hid (by rw [← insCells_append, jump_body _ _ _ (by omega)])
          have HN : Hid ((jumpBody j A b).length = j + 1) := Lib.hid (by rw [jump_body _ _ _ (by omega), List.length_append, jbq_len]; rfl)
          go_upto_region 18 with (at_builtin; go_must (refine wpList_append_lit rfl _ _ 23 33 rfl (.agg #[.int .i64 0, .int .i64 0, .int .i64 0]) 3 24 Try.underlying23 infoIns rfl (by decide) (w.heap.size + t1.n + 1) _ j _ rfl hown 1 1 _ #[.int .i64 9, .int .i64 0, .int .i64 0] rfl rfl rfl (by simp [Value.oneCell']) (by unfold maxLen; omega) (by omega) hBs ?_; intro v2 w2 hown2 hg2 hbw2); obtain ⟨a2, m2, c2, rfl⟩ := own_slice3 hown2; have hbx2 := hbx.below hbw2 hXB; have hs2 := hbw2.size; have hext2 : Ext w w2 := Below.trans hext (Below.mono hbw2 (by omega)); obtain ⟨r0, r1, r2, r3, r4, r5, r6, r7⟩ := id hbx2)
          have hbx3 := hbx2.body (.slice a2 m2 c2)
          have hown3 := ownsRow_setCell_below hown2 (a := ⟨w.heap.size + t1.n, 6, none⟩) hXB (.slice a2 m2 c2)
          have hext3 := ext_set hext2 hwX 6 (.slice a2 m2 c2)
          generalize w2.setCell ⟨w.heap.size + t1.n, 6, none⟩ (.slice a2 m2 c2) = w3 at hbx3 hown3 hext3 ⊢
          have hin : SlC w3 (.slice a2 m2 c2) (jumpBody j A b).length (insCells (jumpBody j A b)) := by rw [HN.out, HL.out]; exact SlC.of_owns hown3
          obtain ⟨p0, p1, p2, p3, p4, p5, p6, p7⟩ := hbx3
          clear hbx hown hext hBs q0 q1 q2 q3 q4 q5 q6 q7 hbx2 hown2 hg2 hbw2 hs2 hext2 r0 r1 r2 r3 r4 r5 r6 r7 hown3 HL HN HB
          rcases hxc with ⟨hb1, hb2, rfl⟩ | ⟨hb1, rfl⟩ | ⟨hb1, hb2, rfl⟩
          all_goals
            go_wp2_with (first | (go_at_call 17; refine (HC.out _ _ _ HJ.out hin).mono ?_; rintro e w4 ⟨rfl, hx4⟩; (first | (with_reducible obtain ⟨t4, rfl⟩ := Ext.tok2 hx4) | (obtain ⟨t4, rfl⟩ := Ext.tok hx4))) | (go_at_call 18; refine (num19_any _ _).mono ?_; rintro e w5 ⟨rfl, rfl⟩))
            all_goals try omega
            go_ret
            exact ⟨rfl, (by repeat first | exact Ext.refl _ | assumption | refine Ext.drew ?_ | refine Ext.drewN ?_ _ | refine Ext.extBy ?_ _ | refine Ext.alloc ?_ _ | refine Ext.setCell ?_ (by simp; try omega) _ | (refine Ext.trans ?_ (by assumption)))⟩
        · obtain ⟨g, cap, rfl, hgB, hNc, hgl⟩ := ownsRow_some hown (by omega)
          have hA3 : A * 3 + 3 ≤ j * 3 := by omega
          obtain ⟨c0, -, -⟩ := insCells_at (jbq A ⟨7, b, 0⟩ j) A ⟨7, b, 0⟩ (by unfold jbq; rw [List.getElem?_map, List.getElem?_range (by omega)]; simp)
          have f0 : wr.cell? ⟨g, A * 3, none⟩ = some (.int .i64 7) := by
            obtain ⟨a', cap', e1, _, _, hc⟩ := SlC.of_owns hown
            simp only [Value.slice.injEq] at e1
            obtain ⟨rfl, -, rfl⟩ := e1
            obtain ⟨b', o', e2, hcell⟩ := hc (A * 3) _ c0
            simp only [Option.some.injEq, Addr.mk.injEq] at e2
            obtain ⟨rfl, rfl, -⟩ := e2
            rw [Nat.zero_add] at hcell
            exact hcell
          have fz := hown.frozenAt
          have hXg : w.heap.size + t1.n < g := by omega
          clear c0
          go_upto_region 14 with fail
          have hown1 := (hown.stored (A * 3) (.int .i64 8)).1
          have hset : (insCells (jbq A ⟨7, b, 0⟩ j)).set (A * 3) (.int .i64 8) = insCells (List.replicate A jmp0) ++ insCells (⟨8, b, 0⟩ :: List.replicate (j - A - 1) jmp0) := by
            rw [jbq_eq _ (show A < j by omega), insCells_append, List.set_append_right _ _ (by rw [insCells_jmp]; exact Nat.le_refl _), insCells_jmp, Nat.sub_self]; rfl
          rw [hset] at hown1
          have hbx1 : BoxC (w.heap.size + t1.n) (.slice none 0 0) 0 0 0 1 (.slice none 0 0) (.slice (some ⟨g, 0, none⟩) j cap) (wr.setCell ⟨g, A * 3, none⟩ (.int .i64 8)) :=
            hbx.below (Below.setCell (Below.refl g wr) (Nat.le_refl _) _) hXg
          have hext1 := ext_set hext (show w.heap.size ≤ g by omega) (A * 3) (.int .i64 8)
          have hs1 : w.heap.size + t1.n + 1 ≤ (wr.setCell ⟨g, A * 3, none⟩ (.int .i64 8)).heap.size := by simp; omega
          generalize wr.setCell ⟨g, A * 3, none⟩ (.int .i64 8) = w1 at hown1 hbx1 hext1 hs1 ⊢
          clear hbx hown hext hBs q0 q1 q2 q3 q4 q5 q6 q7 f0 fz hset hXl hgl
          obtain ⟨a', cap', e1, hn1, hm1, hcc⟩ := SlC.of_owns hown1
          simp only [Value.slice.injEq] at e1
          obtain ⟨rfl, -, rfl⟩ := e1
          have hcell : ∀ i u, (insCells (List.replicate A jmp0) ++ insCells (⟨8, b, 0⟩ :: List.replicate (j - A - 1) jmp0))[i]? = some u → w1.cell? ⟨g, i, none⟩ = some u := fun i u hu => by
            obtain ⟨b', o', e2, hc⟩ := hcc i u hu
            simp only [Option.some.injEq, Addr.mk.injEq] at e2
            obtain ⟨rfl, rfl, -⟩ := e2
            rw [Nat.zero_add] at hc
            exact hc
          have HS1 : Hid (SlC w1 (.slice (some ⟨g, 0, none⟩) A cap) A (insCells (List.replicate A jmp0))) := Lib.hid ⟨_, cap, rfl, by omega, hm1, fun i u hu => ⟨g, 0, rfl, by rw [Nat.zero_add]; exact hcell i u (by rw [List.getElem?_append_left (List.getElem?_eq_some_iff.1 hu).1]; exact hu)⟩⟩
          have HS2 : Hid (SlC w1 (.slice (some ⟨g, A * 3, none⟩) (j - A) (cap - A)) (j - A) (insCells (⟨8, b, 0⟩ :: List.replicate (j - A - 1) jmp0))) := Lib.hid ⟨_, cap - A, rfl, by omega, by omega, fun i u hu => ⟨g, A * 3, rfl, hcell _ u (by rw [List.getElem?_append_right (by rw [insCells_jmp]; omega), insCells_jmp, Nat.add_sub_cancel_left]; exact hu)⟩⟩
          have HX6 := Lib.hid hbx1.2.2.2.2.2.2.1
          have hcA : ¬ cap = A := by omega
          have hAc : A ≤ cap := by omega
          have hAj : A ≤ j := by omega
          have hAji : (A : Int) ≤ (j : Int) := by omega
          have hA0 : (0 : Int) ≤ (A : Int) := by omega
          have HI1 : Hid (∀ u ∈ insCells (List.replicate A jmp0), u.oneCell' = true) := Lib.hid (insCells_one _)
          have HI2 : Hid (∀ u ∈ insCells ((⟨8, b, 0⟩ : InsV) :: List.replicate (j - A - 1) jmp0), u.oneCell' = true) := Lib.hid (insCells_one _)
          have HL1 : Hid ((insCells (List.replicate A jmp0)).length = A * 3) := Lib.hid (insCells_jmp A)
          have HL2 : Hid ((insCells ((⟨8, b, 0⟩ : InsV) :: List.replicate (j - A - 1) jmp0)).length = (j - A) * 3) := Lib.hid (by rw [insCells_len, List.length_cons, List.length_replicate]; congr 1; omega)
          clear hcc hcell hm1 hn1
          go_cut [72] (fun s72 wx => ∃ a3 m3 c3, s72 = .slice a3 m3 c3 ∧ BoxC (w.heap.size + t1.n) (.slice none 0 0) 0 0 0 1 (.slice none 0 0) (.slice a3 m3 c3) wx ∧ wx.ownsRow (w.heap.size + t1.n + 1) 33 3 (.slice a3 m3 c3) (0 + A + 1 + (j - A)) ((([] ++ insCells (List.replicate A jmp0)) ++ [.int .i64 1, .int .i64 1, .int .i64 1]) ++ insCells (⟨8, b, 0⟩ :: List.replicate (j - A - 1) jmp0)) ∧ Ext w wx ∧ w.heap.size + t1.n + 1 ≤ wx.heap.size)
          case first =>
            have hx6 := HX6.out
            have hw1s : w.heap.size + t1.n < w1.heap.size := by omega
            go_region_law (first
                | (refine step_append_slc _ rfl (.const (.slice none 0 0)) (.tmp 63) 23 rfl w1.heap.size 33 (.agg #[.int .i64 0, .int .i64 0, .int .i64 0]) 3 24 Try.underlying23 infoIns rfl (by decide) (.slice none 0 0) 0 [] rfl (own_nil _ _ _ _) _ A (insCells (List.replicate A jmp0)) rfl (HS1.out.ext (by repeat first | exact Ext.refl _ | assumption | refine Ext.drew ?_ | refine Ext.drewN ?_ _ | refine Ext.extBy ?_ _ | refine Ext.alloc ?_ _ | refine Ext.setCell ?_ (by simp; try omega) _ | (refine Ext.trans ?_ (by assumption)))) HL1.out HI1.out (by unfold maxLen; omega) (by omega) (by simp) ?_; intro v1 wA hownA hgA hatA; have hEA : Ext w1 wA := (show Ext w1 _ from (by repeat first | exact Ext.refl _ | assumption | refine Ext.drew ?_ | refine Ext.drewN ?_ _ | refine Ext.extBy ?_ _ | refine Ext.alloc ?_ _ | refine Ext.setCell ?_ (by simp; try omega) _ | (refine Ext.trans ?_ (by assumption)))).trans (ext_grown_nil hgA); have hEA2 := ext_grown_nil hgA; have hA6 := hEA.cell HX6.out; have hAs : w.heap.size + t1.n < wA.heap.size := by have := hEA.size; omega)
                | (refine step_append_slc _ rfl (.tmp 67) (.tmp 71) 23 rfl w1.heap.size 33 (.agg #[.int .i64 0, .int .i64 0, .int .i64 0]) 3 24 Try.underlying23 infoIns rfl (by decide) v2 (0 + A + 1) (([] ++ insCells (List.replicate A jmp0)) ++ [.int .i64 1, .int .i64 1, .int .i64 1]) rfl hownB _ (j - A) (insCells (⟨8, b, 0⟩ :: List.replicate (j - A - 1) jmp0)) rfl (HS2.out.ext hEB) HL2.out HI2.out (by unfold maxLen; omega) (by omega) hEB.size ?_; intro v3 wC hownC hgC hatC; obtain ⟨a3, m3, c3, rfl⟩ := own_slice3 hownC; have hEC : Ext w1 wC := below_grown (base := w1.heap.size) hEB (Nat.le_refl _) hEB.size hownB hgC; have hbxC := hbx1.below hEC (show w.heap.size + t1.n < w1.heap.size by omega); obtain ⟨r0, r1, r2, r3, r4, r5, r6, r7⟩ := id hbxC)
                | (refine step_append_slc _ rfl (.tmp 64) (.tmp 66) 23 rfl w1.heap.size 33 (.agg #[.int .i64 0, .int .i64 0, .int .i64 0]) 3 24 Try.underlying23 infoIns rfl (by decide) v1 (0 + A) ([] ++ insCells (List.replicate A jmp0)) rfl (by first | exact hownA | exact hownA.alloc _) _ 1 [.int .i64 1, .int .i64 1, .int .i64 1] rfl (by first | exact SlC.fresh _ #[.int .i64 1, .int .i64 1, .int .i64 1] _ 1 _ (by simp) (by decide) | exact (fresh_drew _ #[.int .i64 1, .int .i64 1, .int .i64 1] _ 1 _ rfl (by decide)).ext hEA2 | exact (SlC.fresh _ #[.int .i64 1, .int .i64 1, .int .i64 1] _ 1 _ rfl (by decide)).ext hEA2 | exact (fresh_drew _ #[.int .i64 1, .int .i64 1, .int .i64 1] _ 1 _ (by simp) (by decide)).ext hEA2) (by simp) (by simp [Value.oneCell']) (by unfold maxLen; omega) (by omega) (by have := hEA.size; first | omega | (simp at this ⊢; omega)) ?_; intro v2 wB hownB hgB hatB; have hEB : Ext w1 wB := below_grown (base := w1.heap.size) (show Below w1.heap.size w1 _ from (by repeat first | exact Ext.refl _ | assumption | refine Ext.drew ?_ | refine Ext.drewN ?_ _ | refine Ext.extBy ?_ _ | refine Ext.alloc ?_ _ | refine Ext.setCell ?_ (by simp; try omega) _ | (refine Ext.trans ?_ (by assumption)))) (Nat.le_refl _) (by have := hEA.size; first | omega | (simp at this ⊢; omega)) (by first | exact hownA | exact hownA.alloc _) hgB; have hB6 := hEB.cell HX6.out; have hBsz : w.heap.size + t1.n < wB.heap.size := by have := hEB.size; omega))
            all_goals
              go_wp2_with fail
              go_meet
              exact ⟨a3, m3, c3, rfl, hbxC.body _, ownsRow_setCell_below (ownsRow_base hownC hs1) hXB _, ext_set (hext1.trans hEC) hwX 6 _, by have := hEC.size; simp; omega⟩
          case rest =>
            obtain ⟨a3, m3, c3, rfl, hbx3, hown3, hext3, hs3⟩ := hcut
            clear hbx1 hown1 hext1 HS1 HS2 HX6 HI1 HI2 HL1 HL2
            obtain ⟨q0, q1, q2, q3, q4, q5, q6, q7⟩ := id hbx3
            have HL : Hid (insCells (branchBody j A b) = (([] ++ insCells (List.replicate A jmp0)) ++ [.int .i64 1, .int .i64 1, .int .i64 1]) ++ insCells (⟨8, b, 0⟩ :: List.replicate (j - A - 1) jmp0) ++ insCells [⟨9, 0, 0⟩]) := Lib.hid (by
              unfold branchBody
              rw [insCells_append, List.nil_append]
              simp [insCells])
            have HN : Hid ((branchBody j A b).length = 0 + A + 1 + (j - A) + 1) := Lib.hid (by unfold branchBody; simp; omega)
            go_upto_region 18 with (at_builtin; go_must (refine wpList_append_lit rfl _ _ 23 33 rfl (.agg #[.int .i64 0, .int .i64 0, .int .i64 0]) 3 24 Try.underlying23 infoIns rfl (by decide) (w.heap.size + t1.n + 1) _ (0 + A + 1 + (j - A)) _ rfl hown3 1 1 _ #[.int .i64 9, .int .i64 0, .int .i64 0] rfl rfl rfl (by simp [Value.oneCell']) (by unfold maxLen; omega) (by omega) hs3 ?_; intro v2 w2 hown2 hg2 hbw2); obtain ⟨a2, m2, c2, rfl⟩ := own_slice3 hown2; have hbx2 := hbx3.below hbw2 hXB; have hs2 := hbw2.size; have hext2 : Ext w w2 := Below.trans hext3 (Below.mono hbw2 (by omega)); obtain ⟨r0, r1, r2, r3, r4, r5, r6, r7⟩ := id hbx2)
            have hbx4 := hbx2.body (.slice a2 m2 c2)
            have hown4 := ownsRow_setCell_below hown2 (a := ⟨w.heap.size + t1.n, 6, none⟩) hXB (.slice a2 m2 c2)
            have hext4 := ext_set hext2 hwX 6 (.slice a2 m2 c2)
            generalize w2.setCell ⟨w.heap.size + t1.n, 6, none⟩ (.slice a2 m2 c2) = w4 at hbx4 hown4 hext4 ⊢
            have hin : SlC w4 (.slice a2 m2 c2) (branchBody j A b).length (insCells (branchBody j A b)) := by rw [HN.out, HL.out]; exact SlC.of_owns hown4
            obtain ⟨p0, p1, p2, p3, p4, p5, p6, p7⟩ := hbx4
            clear hbx3 hown3 hext3 q0 q1 q2 q3 q4 q5 q6 q7 hbx2 hown2 hg2 hbw2 hs2 hext2 r0 r1 r2 r3 r4 r5 r6 r7 hown4 HL HN HJ
            rcases hxc with ⟨hb1, hb2, rfl⟩ | ⟨hb1, rfl⟩ | ⟨hb1, hb2, rfl⟩
            all_goals
              go_wp2_with (first | (go_at_call 17; refine (HC.out _ _ _ HB.out hin).mono ?_; rintro e w5 ⟨rfl, hx5⟩; (first | (with_reducible obtain ⟨t5, rfl⟩ := Ext.tok2 hx5) | (obtain ⟨t5, rfl⟩ := Ext.tok hx5))) | (go_at_call 18; refine (num19_any _ _).mono ?_; rintro e w6 ⟨rfl, rfl⟩))
              all_goals try omega
              go_ret
              exact ⟨rfl, (by repeat first | exact Ext.refl _ | assumption | refine Ext.drew ?_ | refine Ext.drewN ?_ _ | refine Ext.extBy ?_ _ | refine Ext.alloc ?_ _ | refine Ext.setCell ?_ (by simp; try omega) _ | (refine Ext.trans ?_ (by assumption)))⟩
end Go.Proofs.Ytipfcfaigbeakaa

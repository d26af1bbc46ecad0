/-
  The walk: sched.Order and sched.Levels.
  Conditions: the program lies in memory; its numbers are small.
  The walk: metronomelaw15's own small functions.
  Conditions: the lists lie in memory.
  The walk: metronomelaw15.alive.
  No condition.
-/
import Derived.Test.YtmommjagndadjaaJcR
import Derived.Test.YtmommjagndadjaaJcN
import Derived.Deep.RegionHeld3
namespace Go.Proofs.Ytmommjagndadjaa.Sc
open Go.RowKit Go.Maps Go.Proofs.Ytmommjagndadjaa
set_option linter.unusedSimpArgs false
set_option linter.unusedVariables false
set_option maxRecDepth 100000

/-- A list that is told with no error. -/
theorem levV_len : ∀ (l : List Int) (i : Int) (lev : List Int), (levV l i lev).length = lev.length
  | [], _, _ => rfl
  | k :: l, i, lev => by rw [levV, levV_len l]; simp
theorem goL_len : ∀ (f : Nat) (b : List (List Int)) (W h lev : List Int), (goL f b W h lev).length = lev.length
  | 0, _, _, _, _ => rfl
  | f + 1, b, W, h, lev => by
    rw [goL]
    split
    · rfl
    · rw [goL_len f, levV_len]
theorem levelsV_len (on : List (List Int)) : (levelsV on).length = on.length := by unfold levelsV; rw [goL_len]; simp
def RetW (l : List Int) (w : World) (e : Ending) (w' : World) : Prop := ∃ p cap, e = .returned (.tuple #[.slice p l.length cap, .int .i64 0]) ∧ Hid (SlC w' (.slice p l.length cap) l.length (i64s l) ∧ Ext w w')
theorem hangs_ord {c : CP} {x : S4} {w : World} (hc : CPIn w c x) (hok : okC c) (hsm : smC c) (h0 : chkC c = 0) :
    Calls Try.prog 25 #[coreA x] w (fun e w' => ∃ O, e = .returned (.slice (some ⟨O, 0, none⟩) c.eqs.length c.eqs.length) ∧ Hid (Ext w w' ∧ Calls Try.prog 24 #[.slice (some ⟨O, 0, none⟩) c.eqs.length c.eqs.length] w' (RetO c.eqs.length (sortV (hangsV c)) (levelsV (hangsV c)) w'))) := by
  obtain ⟨hg, hll⟩ := chk_good hok h0
  have hl1 := hg.l1
  have hl2 := hg.l2
  have hl4 := hg.l4
  have hF := changs_any (c := c) (x := x) hc hok ⟨by omega, by omega, by omega⟩ (by omega) (fun q hq hf => by have := hsm.cnt q hq hf; omega) (fun n => by
    have := clkT_le (t := clksH c) (n := n) (fun v hv => hsm.clk v (List.mem_reverse.1 hv))
    omega)
  exact hF.mono (fun e w' ⟨O, vs, h1, h2⟩ => ⟨O, h1, Lib.hid ⟨h2.out.2, ordered_any h2.out.1 (hangs_len c).symm (by omega) (hangs_sum hsm (by omega)) (hangs_in c)⟩⟩)
set_option maxHeartbeats 1600000 in
theorem order_any {c : CP} {x : S4} {w : World} (hc : CPIn w c x) (hok : okC c) (hsm : smC c) :
    Calls Try.prog 11 #[coreA x] w (fun e w' => (chkC c = 0 → RetW (sortV (hangsV c)) w e w') ∧ (chkC c ≠ 0 → e = .returned (.tuple #[.slice none 0 0, .int .i64 40]) ∧ Ext w w')) := by
  obtain ⟨er, her⟩ : ∃ e, e = chkC c := ⟨_, rfl⟩
  have HER := Lib.hid her
  obtain ⟨Q, hQ⟩ : ∃ Q : Ending → World → Prop, Q = (fun e w' => (chkC c = 0 → RetW (sortV (hangsV c)) w e w') ∧ (chkC c ≠ 0 → e = .returned (.tuple #[.slice none 0 0, .int .i64 40]) ∧ Ext w w')) := ⟨_, rfl⟩
  rw [← hQ]
  have HQ := Lib.hid hQ
  obtain ⟨iv, ov, lv, ev⟩ := x
  have HCH : Hid (∀ w1, Ext w w1 → Calls Try.prog 20 #[.agg #[iv, ov, lv, ev]] w1 (RetI er w1)) := Lib.hid (fun w1 hx1 => by
    rw [her]
    have h9 := ccheck_any c ⟨iv, ov, lv, ev⟩ w1 (hc.ext hx1) hok hsm
    exact h9)
  have HHG : Hid (er = 0 → ∀ w1, Ext w w1 → Calls Try.prog 25 #[.agg #[iv, ov, lv, ev]] w1 (fun e w' => ∃ O, e = .returned (.slice (some ⟨O, 0, none⟩) c.eqs.length c.eqs.length) ∧ Hid (Ext w1 w' ∧ Calls Try.prog 24 #[.slice (some ⟨O, 0, none⟩) c.eqs.length c.eqs.length] w' (RetO c.eqs.length (sortV (hangsV c)) (levelsV (hangsV c)) w')))) := Lib.hid (fun h0 w1 hx1 => by
    have h9 := hangs_ord (x := ⟨iv, ov, lv, ev⟩) (hc.ext hx1) hok hsm (by rw [← her]; exact h0)
    exact h9)
  obtain ⟨n, hn⟩ : ∃ n, n = c.eqs.length := ⟨_, rfl⟩
  obtain ⟨so, hso⟩ : ∃ z, z = sortV (hangsV c) := ⟨_, rfl⟩
  obtain ⟨le, hle⟩ : ∃ z, z = levelsV (hangsV c) := ⟨_, rfl⟩
  rw [← hn, ← hso, ← hle] at HHG
  obtain ⟨ol, hol⟩ : ∃ z, z = so.length := ⟨_, rfl⟩
  have HOL := Lib.hid (And.intro hol (And.intro hso (And.intro hle hn)))
  clear hQ hc hok hsm her hn hso hle hol
  have hbB : BoxV w.heap.size [iv, ov, lv, ev] (w.alloc (.cells #[iv, ov, lv, ev] 26)) := BoxV.of_row (heap_alloc_last w _)
  have hxB : Ext w (w.alloc (.cells #[iv, ov, lv, ev] 26)) := (Ext.refl w).alloc _
  have HXB := Lib.hid (And.intro hxB hbB)
  go_enter Try.func11, Try.ntmps11
  go_upto_region 1 with fail
  generalize (w.alloc (.cells #[iv, ov, lv, ev] 26)) = wb at hbB hxB HXB ⊢
  obtain ⟨BC, hB⟩ : ∃ B, B = w.heap.size := ⟨_, rfl⟩
  rw [← hB] at hbB HXB ⊢
  have b0 := hbB.cells 0 _ rfl
  have b1 := hbB.cells 1 _ rfl
  have b2 := hbB.cells 2 _ rfl
  have b3 := hbB.cells 3 _ rfl
  have bl := hbB.lt
  clear hbB hxB hB
  by_cases h0 : er = 0
  case neg =>
    have q0 : (er != 0) = true := by simpa using h0
    have HC : Hid (chkC c ≠ 0) := Lib.hid (by rw [← HER.out]; exact h0)
    clear h0
    go_wp2_with (first | (go_at_call 20; refine (HCH.out _ HXB.out.1).mono ?_; rintro e1 w1 ⟨rfl, H1⟩) | fail)
    try go_ret
    rw [HQ.out]
    exact ⟨fun h => absurd h HC.out, fun _ => ⟨rfl, HXB.out.1.trans H1.out⟩⟩
  case pos =>
    subst h0
    have HHG2 := Lib.hid (HHG.out rfl)
    clear HHG
    go_upto_region 3 with (first | (go_at_call 20; refine (HCH.out _ HXB.out.1).mono ?_; rintro e1 w1 ⟨rfl, H1⟩) | fail)
    have HX1 : Hid (Ext w w1 ∧ BoxV BC [iv, ov, lv, ev] w1) := Lib.hid ⟨HXB.out.1.trans H1.out, HXB.out.2.ext H1.out⟩
    clear b0 b1 b2 b3 bl
    have b0 := HX1.out.2.cells 0 _ rfl
    have b1 := HX1.out.2.cells 1 _ rfl
    have b2 := HX1.out.2.cells 2 _ rfl
    have b3 := HX1.out.2.cells 3 _ rfl
    have bl := HX1.out.2.lt
    go_upto_region 4 with (first | (go_at_call 25; refine (HHG2.out _ HX1.out.1).mono ?_; rintro e1 w2 ⟨O, rfl, H2⟩) | (go_at_call 24; refine H2.out.2.mono ?_; rintro e1 w3 ⟨po, co, qo, rfl, H3⟩) | fail)
    go_wp2
    try go_ret
    rw [HQ.out]
    refine ⟨fun _ => ?_, fun h => absurd HER.out.symm h⟩
    have hx3 : Ext w w3 := (HX1.out.1.trans H2.out.1).trans H3.out.2.2
    have h9 := H3.out.1
    rw [HOL.out.2.1] at h9
    exact ⟨po, co, by rw [HOL.out.2.1]; rfl, Lib.hid ⟨h9, hx3⟩⟩
set_option maxHeartbeats 1600000 in
theorem levels_any {c : CP} {x : S4} {w : World} (hc : CPIn w c x) (hok : okC c) (hsm : smC c) :
    Calls Try.prog 12 #[coreA x] w (fun e w' => (chkC c = 0 → RetW (levelsV (hangsV c)) w e w') ∧ (chkC c ≠ 0 → e = .returned (.tuple #[.slice none 0 0, .int .i64 40]) ∧ Ext w w')) := by
  obtain ⟨er, her⟩ : ∃ e, e = chkC c := ⟨_, rfl⟩
  have HER := Lib.hid her
  obtain ⟨Q, hQ⟩ : ∃ Q : Ending → World → Prop, Q = (fun e w' => (chkC c = 0 → RetW (levelsV (hangsV c)) w e w') ∧ (chkC c ≠ 0 → e = .returned (.tuple #[.slice none 0 0, .int .i64 40]) ∧ Ext w w')) := ⟨_, rfl⟩
  rw [← hQ]
  have HQ := Lib.hid hQ
  obtain ⟨iv, ov, lv, ev⟩ := x
  have HCH : Hid (∀ w1, Ext w w1 → Calls Try.prog 20 #[.agg #[iv, ov, lv, ev]] w1 (RetI er w1)) := Lib.hid (fun w1 hx1 => by
    rw [her]
    have h9 := ccheck_any c ⟨iv, ov, lv, ev⟩ w1 (hc.ext hx1) hok hsm
    exact h9)
  have HHG : Hid (er = 0 → ∀ w1, Ext w w1 → Calls Try.prog 25 #[.agg #[iv, ov, lv, ev]] w1 (fun e w' => ∃ O, e = .returned (.slice (some ⟨O, 0, none⟩) c.eqs.length c.eqs.length) ∧ Hid (Ext w1 w' ∧ Calls Try.prog 24 #[.slice (some ⟨O, 0, none⟩) c.eqs.length c.eqs.length] w' (RetO c.eqs.length (sortV (hangsV c)) (levelsV (hangsV c)) w')))) := Lib.hid (fun h0 w1 hx1 => by
    have h9 := hangs_ord (x := ⟨iv, ov, lv, ev⟩) (hc.ext hx1) hok hsm (by rw [← her]; exact h0)
    exact h9)
  obtain ⟨n, hn⟩ : ∃ n, n = c.eqs.length := ⟨_, rfl⟩
  obtain ⟨so, hso⟩ : ∃ z, z = sortV (hangsV c) := ⟨_, rfl⟩
  obtain ⟨le, hle⟩ : ∃ z, z = levelsV (hangsV c) := ⟨_, rfl⟩
  rw [← hn, ← hso, ← hle] at HHG
  obtain ⟨ol, hol⟩ : ∃ z, z = so.length := ⟨_, rfl⟩
  have HOL := Lib.hid (And.intro hol (And.intro hso (And.intro hle hn)))
  clear hQ hc hok hsm her hn hso hle hol
  have hbB : BoxV w.heap.size [iv, ov, lv, ev] (w.alloc (.cells #[iv, ov, lv, ev] 26)) := BoxV.of_row (heap_alloc_last w _)
  have hxB : Ext w (w.alloc (.cells #[iv, ov, lv, ev] 26)) := (Ext.refl w).alloc _
  have HXB := Lib.hid (And.intro hxB hbB)
  go_enter Try.func12, Try.ntmps12
  go_upto_region 1 with fail
  generalize (w.alloc (.cells #[iv, ov, lv, ev] 26)) = wb at hbB hxB HXB ⊢
  obtain ⟨BC, hB⟩ : ∃ B, B = w.heap.size := ⟨_, rfl⟩
  rw [← hB] at hbB HXB ⊢
  have b0 := hbB.cells 0 _ rfl
  have b1 := hbB.cells 1 _ rfl
  have b2 := hbB.cells 2 _ rfl
  have b3 := hbB.cells 3 _ rfl
  have bl := hbB.lt
  clear hbB hxB hB
  by_cases h0 : er = 0
  case neg =>
    have q0 : (er != 0) = true := by simpa using h0
    have HC : Hid (chkC c ≠ 0) := Lib.hid (by rw [← HER.out]; exact h0)
    clear h0
    go_wp2_with (first | (go_at_call 20; refine (HCH.out _ HXB.out.1).mono ?_; rintro e1 w1 ⟨rfl, H1⟩) | fail)
    try go_ret
    rw [HQ.out]
    exact ⟨fun h => absurd h HC.out, fun _ => ⟨rfl, HXB.out.1.trans H1.out⟩⟩
  case pos =>
    subst h0
    have HHG2 := Lib.hid (HHG.out rfl)
    clear HHG
    go_upto_region 3 with (first | (go_at_call 20; refine (HCH.out _ HXB.out.1).mono ?_; rintro e1 w1 ⟨rfl, H1⟩) | fail)
    have HX1 : Hid (Ext w w1 ∧ BoxV BC [iv, ov, lv, ev] w1) := Lib.hid ⟨HXB.out.1.trans H1.out, HXB.out.2.ext H1.out⟩
    clear b0 b1 b2 b3 bl
    have b0 := HX1.out.2.cells 0 _ rfl
    have b1 := HX1.out.2.cells 1 _ rfl
    have b2 := HX1.out.2.cells 2 _ rfl
    have b3 := HX1.out.2.cells 3 _ rfl
    have bl := HX1.out.2.lt
    go_upto_region 4 with (first | (go_at_call 25; refine (HHG2.out _ HX1.out.1).mono ?_; rintro e1 w2 ⟨O, rfl, H2⟩) | (go_at_call 24; refine H2.out.2.mono ?_; rintro e1 w3 ⟨po, co, qo, rfl, H3⟩) | fail)
    go_wp2
    try go_ret
    rw [HQ.out]
    refine ⟨fun _ => ?_, fun h => absurd HER.out.symm h⟩
    have hx3 : Ext w w3 := (HX1.out.1.trans H2.out.1).trans H3.out.2.2
    have h9 := H3.out.2.1
    rw [HOL.out.2.2.1] at h9
    have hlen : (levelsV (hangsV c)).length = n := by have := h9; obtain ⟨a', c', e, h1, h2, h3⟩ := this; exact levelsV_len _ |>.trans (by rw [hangs_len, HOL.out.2.2.2])
    exact ⟨qo, n, by rw [hlen]; rfl, Lib.hid ⟨by rw [hlen]; exact h9, hx3⟩⟩
end Go.Proofs.Ytmommjagndadjaa.Sc
namespace Go.Proofs.Ytmommjagndadjaa.Sc
open Go.RowKit Go.Maps Go.Proofs.Ytmommjagndadjaa
set_option linter.unusedSimpArgs false
set_option linter.unusedVariables false
set_option maxRecDepth 100000

theorem num15_any (x : Int) (w : World) : Calls Try.prog 13 #[.int .i64 x] w fun e w' => e = .returned (.int .i64 x) ∧ w' = w := by
  go_enter Try.func13, Try.ntmps13
  go_wp2
  go_ret
  exact ⟨rfl, rfl⟩
set_option maxHeartbeats 2000000 in
theorem same15_any {w : World} {pa pb : Option Addr} {na nb ca cb : Nat} {la lb : List Int} (ha : SlC w (.slice pa na ca) na (i64s la)) (hb : SlC w (.slice pb nb cb) nb (i64s lb)) (hna : na = la.length) (hnb : nb = lb.length) :
    Calls Try.prog 23 #[.slice pa na ca, .slice pb nb cb] w fun e w' => e = .returned (.bool (decide (la = lb))) ∧ Hid (Ext w w') := by
  obtain ⟨R, hR⟩ : ∃ R, R = decide (la = lb) := ⟨_, rfl⟩
  rw [← hR]
  obtain ⟨Q, hQ⟩ : ∃ Q : Ending → World → Prop, Q = (fun e w' => e = .returned (.bool R) ∧ Hid (Ext w w')) := ⟨_, rfl⟩
  rw [← hQ]
  have HQ := Lib.hid hQ
  have HR := Lib.hid hR
  have HN := Lib.hid (And.intro hna hnb)
  have hcc : na ≤ ca ∧ (ca : Int) ≤ 9223372036854775807 ∧ nb ≤ cb ∧ (cb : Int) ≤ 9223372036854775807 := by
    obtain ⟨a', c', e, h1, h2, -⟩ := ha
    obtain ⟨a3, c3, e3, h3, h4, -⟩ := hb
    simp only [Value.slice.injEq] at e e3
    unfold maxLen at h2 h4
    omega
  obtain ⟨hca, hcaI, hcb, hcbI⟩ := hcc
  have HS := Lib.hid (And.intro ha hb)
  clear hQ hR ha hb hna hnb
  go_enter Try.func23, Try.ntmps23
  by_cases hl : na = nb
  · subst hl
    have hlq : ((na : Int) != (na : Int)) = false := by simp
    go_wp2
    go_loopw [5] (fun iv wr => ∃ (i : Nat), i ≤ na ∧ iv = .int .i64 (i : Int) ∧ Ext w wr ∧ Hid (la.take i = lb.take i)) (fun iv _ => na - (intOf iv).toNat)
    case atStart => exact ⟨0, Nat.zero_le _, rfl, Ext.refl _, Lib.hid rfl⟩
    case round =>
      obtain ⟨i, hi, rfl, hx, HT⟩ := hrel
      by_cases hlt : i < na
      · have hii : (i : Int) < (na : Int) := Int.ofNat_lt.2 hlt
        obtain ⟨x, hxa⟩ : ∃ x, la[i]? = some x := ⟨_, List.getElem?_eq_getElem (by rw [← HN.out.1]; exact hlt)⟩
        obtain ⟨y, hyb⟩ : ∃ y, lb[i]? = some y := ⟨_, List.getElem?_eq_getElem (by rw [← HN.out.2]; exact hlt)⟩
        obtain ⟨a', c', e, h1, h2, h3⟩ := HS.out.1
        obtain ⟨a5, c5, e5, h5, h6, h7⟩ := HS.out.2
        simp only [Value.slice.injEq] at e e5
        obtain ⟨b1, o1, e1, d1⟩ := h3 i (.int .i64 x) (by simp [i64s, hxa])
        obtain ⟨b2, o2, e2, d2⟩ := h7 i (.int .i64 y) (by simp [i64s, hyb])
        have epa : pa = some ⟨b1, o1, none⟩ := by rw [e.1, e1]
        have epb : pb = some ⟨b2, o2, none⟩ := by rw [e5.1, e2]
        have d1 := hx.cell d1
        have d2 := hx.cell d2
        have m1 := World.block_lt_of_cell? _ _ d1
        have m2 := World.block_lt_of_cell? _ _ d2
        have hic : i < ca := by omega
        have hic2 : i < cb := by omega
        have HX := Lib.hid (And.intro hxa (And.intro hyb hx))
        clear hxa hyb e e5 e1 e2 h1 h2 h3 h5 h6 h7 hx
        subst epa epb
        by_cases hxy : x = y
        · subst hxy
          have hq : (x != x) = false := by simp
          have HE : Hid (la.take (i + 1) = lb.take (i + 1)) := Lib.hid (by rw [List.take_add_one, List.take_add_one, HX.out.1, HX.out.2.1, HT.out])
          go_upto_region 6 with fail
          (refine region_drew (by kernel_rfl) (by kernel_rfl) ?_; (repeat (go_big_quiet_step (fail))); refine wpQuiet_nil ?_; rintro _ ⟨nq, rfl⟩)
          go_wp2
          exact ⟨⟨i + 1, by omega, by go_num, HX.out.2.2.trans ((Ext.refl wr).drewN nq), HE⟩, by simp [intOf]; omega⟩
        · have hq : (x != y) = true := by simpa using hxy
          have HE : Hid (R = false) := Lib.hid (by
            rw [HR.out]
            refine decide_eq_false (fun e => ?_)
            subst e
            have := HX.out.1.symm.trans HX.out.2.1
            simp at this
            exact hxy this)
          clear hxy
          go_upto_region 6 with fail
          (refine region_drew (by kernel_rfl) (by kernel_rfl) ?_; (repeat (go_big_quiet_step (fail))); refine wpQuiet_nil ?_; rintro _ ⟨nq, rfl⟩)
          go_wp2
          try go_ret
          rw [HQ.out, HE.out]
          exact ⟨rfl, Lib.hid (HX.out.2.2.trans ((Ext.refl wr).drewN nq))⟩
      · have hii : ¬ (i : Int) < (na : Int) := fun e => hlt (Int.ofNat_lt.1 e)
        obtain rfl : i = na := by omega
        have HE : Hid (R = true) := Lib.hid (by
          rw [HR.out]
          have h1 := HT.out
          rw [List.take_of_length_le (by rw [← HN.out.1]; exact Nat.le_refl _), List.take_of_length_le (by rw [← HN.out.2]; exact Nat.le_refl _)] at h1
          exact decide_eq_true h1)
        have HX := Lib.hid hx
        clear hx
        go_wp2
        try go_ret
        rw [HQ.out, HE.out]
        exact ⟨rfl, HX⟩
  · have hlq : ((na : Int) != (nb : Int)) = true := by simp; omega
    have HE : Hid (R = false) := Lib.hid (by
      rw [HR.out]
      exact decide_eq_false (fun e => hl (by rw [HN.out.1, HN.out.2, e])))
    go_wp2
    try go_ret
    rw [HQ.out, HE.out]
    exact ⟨rfl, Lib.hid (Ext.refl _)⟩
end Go.Proofs.Ytmommjagndadjaa.Sc
namespace Go.Proofs.Ytmommjagndadjaa.Sc
open Go.RowKit Go.Maps Go.Proofs.Ytmommjagndadjaa
set_option linter.unusedSimpArgs false
set_option linter.unusedVariables false
set_option maxRecDepth 100000

theorem small_sort : sortV (hangsV smallC) = [1, 0] := by decide +kernel
theorem small_lev : levelsV (hangsV smallC) = [1, 0] := by decide +kernel
def RetW2 (l : List Int) (w : World) (e : Ending) (w' : World) : Prop := ∃ p cap, e = .returned (.tuple #[.slice p 2 cap, .int .i64 0]) ∧ Hid (SlC w' (.slice p 2 cap) 2 (i64s l) ∧ Ext w w')
theorem sm_order {g : Nat} {w : World} (h : LikeC g (smQs g) w) (w' : World) (hx : Ext w w') : Calls Try.prog 11 #[.agg (smCA g)] w' (RetW2 [1, 0] w') := by
  have h9 := order_any (c := smallC) (x := smX4 g) (w := w') ((h.ext hx).small) small_okC small_smC
  refine h9.mono ?_
  rintro e w2 ⟨h1, -⟩
  have h2 := h1 smallC_chk
  rw [small_sort] at h2
  exact h2
theorem sm_levels {g : Nat} {w : World} (h : LikeC g (smQs g) w) (w' : World) (hx : Ext w w') : Calls Try.prog 12 #[.agg (smCA g)] w' (RetW2 [1, 0] w') := by
  have h9 := levels_any (c := smallC) (x := smX4 g) (w := w') ((h.ext hx).small) small_okC small_smC
  refine h9.mono ?_
  rintro e w2 ⟨h1, -⟩
  have h2 := h1 smallC_chk
  rw [small_lev] at h2
  exact h2
theorem sl10 (w : World) : SlC (w.alloc (.cells #[.int .i64 1, .int .i64 0] 3)) (.slice (some ⟨w.heap.size, 0, none⟩) 2 2) 2 (i64s [1, 0]) := SlC.fresh w #[.int .i64 1, .int .i64 0] _ 2 _ rfl (by decide)
theorem same10 {w w' : World} {p : Option Addr} {cap : Nat} (h : SlC w (.slice p 2 cap) 2 (i64s [1, 0])) (hx : Ext w w') : Calls Try.prog 23 #[.slice p 2 cap, .slice (some ⟨w'.heap.size, 0, none⟩) 2 2] (w'.alloc (.cells #[.int .i64 1, .int .i64 0] 3)) fun e w2 => e = .returned (.bool true) ∧ Hid (Ext w' w2) := by
  have h9 := same15_any (la := [1, 0]) (lb := [1, 0]) (h.ext (hx.trans ((Ext.refl w').alloc (.cells #[.int .i64 1, .int .i64 0] 3)))) (sl10 w') rfl rfl
  exact h9.mono (fun e w2 ⟨h1, h2⟩ => ⟨h1, Lib.hid (((Ext.refl w').alloc _).trans h2.out)⟩)
set_option maxHeartbeats 4000000 in
theorem alive15_any (w : World) : Calls Try.prog 9 #[] w fun e w' => e = .returned (.bool true) ∧ Hid (Ext w w') := by
  obtain ⟨Q, hQ⟩ : ∃ Q : Ending → World → Prop, Q = (fun e w' => e = .returned (.bool true) ∧ Hid (Ext w w')) := ⟨_, rfl⟩
  rw [← hQ]
  have HQ := Lib.hid hQ
  clear hQ
  go_enter Try.func9, Try.ntmps9
  go_upto_region 2 with (first | (go_at_call 18; refine (smallC_any _).mono ?_; rintro e1 w1 ⟨g1, rfl, H1⟩) | (go_at_call 11; refine (sm_order H1.out.2.2 _ (Ext.refl _)).mono ?_; rintro e2 w2 ⟨p2, c2, rfl, H2⟩) | fail)
  go_upto_region 3 with (first | (go_at_call 18; refine (smallC_any _).mono ?_; rintro e3 w3 ⟨g3, rfl, H3⟩) | (go_at_call 12; refine (sm_levels H3.out.2.2 _ (Ext.refl _)).mono ?_; rintro e4 w4 ⟨p4, c4, rfl, H4⟩) | fail)
  have HSA : Hid (SlC w4 (.slice p2 2 c2) 2 (i64s [1, 0])) := Lib.hid (H2.out.1.ext (H3.out.1.trans H4.out.2))
  have HX : Hid (Ext w w4) := Lib.hid (((H1.out.1.trans H2.out.2).trans H3.out.1).trans H4.out.2)
  go_wp2_with (first | (go_at_call 13; refine (num15_any _ _).mono ?_; rintro e5 w5 ⟨rfl, rfl⟩) | (go_at_call 23; refine (same10 H4.out.1 H6.out).mono ?_; rintro e7 w7 ⟨rfl, H7⟩) | (go_at_call 23; refine (same10 HSA.out (Ext.refl _)).mono ?_; rintro e6 w6 ⟨rfl, H6⟩) | fail)
  try go_ret
  rw [HQ.out]
  exact ⟨rfl, Lib.hid (HX.out.trans (H6.out.trans H7.out))⟩
end Go.Proofs.Ytmommjagndadjaa.Sc

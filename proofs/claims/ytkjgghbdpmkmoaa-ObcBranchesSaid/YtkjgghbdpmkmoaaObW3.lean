/-
  The walk: how long and how deep an expression is.
  Condition: the expression lies in memory.
-/
import Derived.Test.YtkjgghbdpmkmoaaObW1
namespace Go.Proofs.Ytkjgghbdpmkmoaa
open Go.RowKit
set_option linter.unusedSimpArgs false
set_option linter.unusedVariables false
set_option maxRecDepth 100000

theorem sizeK_step {l : List CE} {j : Nat} {x : CE} (h : l[j]? = some x) (most deep n : Int) : sizeK (l.drop j) most deep n = if (sizeE x (most - n) (deep + 1)).2 = false ∨ most < n + (sizeE x (most - n) (deep + 1)).1 then (n + (sizeE x (most - n) (deep + 1)).1, false) else sizeK (l.drop (j + 1)) most deep (n + (sizeE x (most - n) (deep + 1)).1) := by
  obtain ⟨h1, rfl⟩ := List.getElem?_eq_some_iff.1 h
  rw [List.drop_eq_getElem_cons h1, sizeK]
theorem sizeK_no {l : List CE} {j : Nat} {x : CE} (h : l[j]? = some x) {most deep n m : Int} (h2 : (m, false) = sizeE x (most - n) (deep + 1)) : sizeK (l.drop j) most deep n = (n + m, false) := by
  rw [sizeK_step h, ← h2]; simp
theorem sizeK_much {l : List CE} {j : Nat} {x : CE} (h : l[j]? = some x) {most deep n m : Int} (h2 : (m, true) = sizeE x (most - n) (deep + 1)) (h3 : most < n + m) : sizeK (l.drop j) most deep n = (n + m, false) := by
  rw [sizeK_step h, ← h2]; simp [h3]
theorem sizeK_yes {l : List CE} {j : Nat} {x : CE} (h : l[j]? = some x) {most deep n m : Int} (h2 : (m, true) = sizeE x (most - n) (deep + 1)) (h3 : ¬ most < n + m) : sizeK (l.drop j) most deep n = sizeK (l.drop (j + 1)) most deep (n + m) := by
  rw [sizeK_step h, ← h2]; simp [h3]
theorem sizeK_end {l : List CE} {j : Nat} {most deep n : Int} (h : j = l.length) : sizeK (l.drop j) most deep n = (n, decide (n ≤ most)) := by
  rw [h, List.drop_length, sizeK]
theorem sizeE_deep (e : CE) {most deep : Int} (h : 400 < deep) : sizeE e most deep = (0, false) := by
  cases e with
  | mk f s k n nm ks => rw [sizeE, if_pos h]
theorem sizeE_kids (e : CE) {most deep : Int} (h : ¬ 400 < deep) : sizeE e most deep = sizeK e.kids most deep 1 := by
  cases e with
  | mk f s k n nm ks => rw [sizeE, if_neg h]; rfl
def RetIB (r : Int × Bool) (w : World) (e : Ending) (w' : World) : Prop := e = .returned (.tuple #[.int .i64 r.1, .bool r.2]) ∧ Hid (Ext w w')
/-- What a question tells that leaves the old memory alone. -/
def RetQ (b : Bool) (w : World) (e : Ending) (w' : World) : Prop := e = .returned (.bool b) ∧ Hid (Ext w w')
set_option maxHeartbeats 8000000 in
theorem size_any : ∀ (N : Nat) (e : CE), SizeOf.sizeOf e < N → ∀ (kv : Value) (most deep : Int) (w : World), KIn w e kv → 1 ≤ deep → deep ≤ 401 → -deep ≤ most → most ≤ 2000 →
    Calls Try.prog 48 #[eVal e kv, .int .i64 most, .int .i64 deep] w (RetIB (sizeE e most deep) w) := by
  intro N
  induction N with
  | zero => intro e h; omega
  | succ N ih =>
    intro e hN kv most deep w hk hd1 hd2 hm1 hm2
    have HIH := Lib.hid ih
    have HW := Lib.hid (And.intro hN hk)
    obtain ⟨R, hR⟩ : ∃ R, R = sizeE e most deep := ⟨_, rfl⟩
    rw [← hR]
    obtain ⟨Q, hQ⟩ : ∃ Q, Q = RetIB R w := ⟨_, rfl⟩
    rw [← hQ]
    have HQ := Lib.hid hQ
    have HR := Lib.hid hR
    obtain ⟨p, c, rfl, hkc, hcm⟩ := hk.slice
    obtain ⟨n, hn⟩ : ∃ n, n = e.kids.length := ⟨_, rfl⟩
    rw [← hn] at hkc ⊢
    have hcI : (c : Int) ≤ 9223372036854775807 := by unfold maxLen at hcm; omega
    clear hcm
    have HN := Lib.hid hn
    obtain ⟨f, hf⟩ : ∃ f, f = e.form := ⟨_, rfl⟩
    obtain ⟨s, hs⟩ : ∃ s, s = e.sub := ⟨_, rfl⟩
    obtain ⟨k, hk2⟩ : ∃ s, s = e.kind := ⟨_, rfl⟩
    obtain ⟨nn, hnn⟩ : ∃ s, s = e.n := ⟨_, rfl⟩
    obtain ⟨nm, hnm⟩ : ∃ s, s = e.name := ⟨_, rfl⟩
    have HE := Lib.hid (show eVal e (.slice p n c) = .agg #[.int .i64 f, .int .i64 s, .int .i64 k, .int .i64 nn, .string nm, .slice p n c] by rw [hf, hs, hk2, hnn, hnm]; rfl)
    rw [HE.out]
    clear hQ hR hn hf hs hk2 hnn hnm hk hN ih
    go_enter Try.func48, Try.ntmps48
    go_upto_region 1 with fail
    have hbx : BoxV w.heap.size [.int .i64 f, .int .i64 s, .int .i64 k, .int .i64 nn, .string nm, .slice p n c] (w.alloc (.cells #[.int .i64 f, .int .i64 s, .int .i64 k, .int .i64 nn, .string nm, .slice p n c] 35)) := BoxV.of_row (heap_alloc_last w _)
    have hxb : Ext w (w.alloc (.cells #[.int .i64 f, .int .i64 s, .int .i64 k, .int .i64 nn, .string nm, .slice p n c] 35)) := (Ext.refl w).alloc _
    generalize w.alloc (.cells #[.int .i64 f, .int .i64 s, .int .i64 k, .int .i64 nn, .string nm, .slice p n c] 35) = wb at hbx hxb ⊢
    generalize w.heap.size = X at hbx ⊢
    have HB := Lib.hid hxb
    have p5 := hbx.cells 5 _ rfl
    have hxl := hbx.lt
    clear hbx hxb
    by_cases hdp : 400 < deep
    · go_wp2
      rw [HQ.out, HR.out, sizeE_deep e hdp]
      exact ⟨rfl, HB⟩
    have HDP := Lib.hid hdp
    have hR2 : Hid (R = sizeK e.kids most deep 1) := Lib.hid (by rw [HR.out, sizeE_kids e hdp])
    have hd3 : deep ≤ 400 := by omega
    clear hd2
    go_upto_region 5 with fail
    go_loopw [8, 18] (fun v i wr => ∃ (j : Nat) (a : Int), j ≤ n ∧ i = .int .i64 (j : Int) ∧ v = .int .i64 a ∧ 1 ≤ a ∧ a ≤ max most 1 ∧ Hid (Ext wb wr) ∧ Hid (R = sizeK (e.kids.drop j) most deep a)) (fun _ i _ => n - (intOf i).toNat)
    case atStart => exact ⟨0, 1, Nat.zero_le _, rfl, rfl, Int.le_refl _, by omega, Lib.hid (Ext.refl _), Lib.hid (by rw [hR2.out]; rfl)⟩
    case round =>
      obtain ⟨j, a, hj, rfl, rfl, ha1, ha2, HS, HRR⟩ := hrel
      have ha3 : a ≤ 2000 := by omega
      by_cases hlt : j < n
      · have hki : (j : Int) < (n : Int) := Int.ofNat_lt.2 hlt
        obtain ⟨x, hx⟩ : ∃ x, e.kids[j]? = some x := ⟨_, List.getElem?_eq_getElem (by have := HN.out; omega)⟩
        have hxw : Ext w wr := HB.out.trans HS.out
        have hkw := HW.out.2
        rw [← HN.out] at hkw
        obtain ⟨-, -, -, b, o, xv, rfl, hkx, c0, c1, c2, c3, c4, c5, hbl⟩ := (hkw.ext hxw).at hx
        obtain ⟨q, d, rfl, -, -⟩ := hkx.slice
        obtain ⟨m, hm⟩ : ∃ m, m = x.kids.length := ⟨_, rfl⟩
        have hjc : j < c := by omega
        have HX := Lib.hid (And.intro hx (And.intro hxw (And.intro hkx hm)))
        have HEX := Lib.hid (show eVal x (.slice q x.kids.length d) = .agg #[.int .i64 x.form, .int .i64 x.sub, .int .i64 x.kind, .int .i64 x.n, .string x.name, .slice q m d] by rw [hm]; rfl)
        rw [← hm] at c5
        clear hx hxw hkx hkw hm
        have hsub : Hid (-(deep + 1) ≤ most - a) := Lib.hid (by omega)
        have hbd := sizeE_bd x (most - a) (deep + 1) (by omega)
        obtain ⟨r, hr⟩ : ∃ r, r = sizeE x (most - a) (deep + 1) := ⟨_, rfl⟩
        rw [← hr] at hbd
        have HRx := Lib.hid hr
        go_upto_region 7 with fail
        have hxa : Ext wr (wr.alloc (.cells #[.int .i64 x.form, .int .i64 x.sub, .int .i64 x.kind, .int .i64 x.n, .string x.name, .slice q m d] 35)) := (Ext.refl wr).alloc _
        have HXA := Lib.hid hxa
        have HF : Hid (Calls Try.prog 48 #[.agg #[.int .i64 x.form, .int .i64 x.sub, .int .i64 x.kind, .int .i64 x.n, .string x.name, .slice q m d], .int .i64 (most - a), .int .i64 (deep + 1)] (wr.alloc (.cells #[.int .i64 x.form, .int .i64 x.sub, .int .i64 x.kind, .int .i64 x.n, .string x.name, .slice q m d] 35)) (RetIB r (wr.alloc (.cells #[.int .i64 x.form, .int .i64 x.sub, .int .i64 x.kind, .int .i64 x.n, .string x.name, .slice q m d] 35)))) := Lib.hid (by
          rw [hr, ← HEX.out]
          have hs1 := CE.size_kids e
          have hs2 := size_at HX.out.1
          have hN := HW.out.1
          exact HIH.out x (by omega) _ _ _ _ (HX.out.2.2.1.ext hxa) (by omega) (by omega) hsub.out (by omega))
        clear hr hxa
        rcases r with ⟨t, ok⟩
        simp only at hbd
        have ht0 := hbd.1
        have ht1 : t ≤ 3000 := by omega
        clear hbd
        cases ok with
        | false =>
          go_wp2_with (first | (go_at_call 48; refine HF.out.mono ?_; rintro e1 w2 ⟨rfl, H2⟩) | fail)
          rw [HQ.out, HRR.out, sizeK_no HX.out.1 HRx.out]
          exact ⟨rfl, Lib.hid ((HB.out.trans HS.out).trans (HXA.out.trans H2.out))⟩
        | true =>
          by_cases hmt : most < a + t
          · go_wp2_with (first | (go_at_call 48; refine HF.out.mono ?_; rintro e1 w2 ⟨rfl, H2⟩) | fail)
            rw [HQ.out, HRR.out, sizeK_much HX.out.1 HRx.out hmt]
            exact ⟨rfl, Lib.hid ((HB.out.trans HS.out).trans (HXA.out.trans H2.out))⟩
          · go_wp2_with (first | (go_at_call 48; refine HF.out.mono ?_; rintro e1 w2 ⟨rfl, H2⟩) | fail)
            refine ⟨⟨j + 1, a + t, by omega, by go_num, rfl, by omega, by omega, Lib.hid (HS.out.trans (HXA.out.trans H2.out)), Lib.hid ?_⟩, by simp [intOf]; omega⟩
            rw [HRR.out, sizeK_yes HX.out.1 HRx.out (Int.not_lt.2 hmt)]
      · have hki : ¬ (j : Int) < (n : Int) := fun e => hlt (Int.ofNat_lt.1 e)
        obtain rfl : j = n := by omega
        go_wp2
        rw [HQ.out, HRR.out, sizeK_end HN.out]
        exact ⟨by simp, Lib.hid (HB.out.trans HS.out)⟩
set_option maxHeartbeats 4000000 in
/-- Fits. -/
theorem fitsE_any (e : CE) (kv : Value) (w : World) (hk : KIn w e kv) :
    Calls Try.prog 42 #[eVal e kv] w (RetQ (fitsE e) w) := by
  obtain ⟨R, hR⟩ : ∃ R, R = fitsE e := ⟨_, rfl⟩
  rw [← hR]
  obtain ⟨Q, hQ⟩ : ∃ Q, Q = RetQ R w := ⟨_, rfl⟩
  rw [← hQ]
  have HQ := Lib.hid hQ
  clear hQ
  have HR := Lib.hid hR
  have HK := Lib.hid hk
  obtain ⟨p, c, rfl, -, -⟩ := hk.slice
  obtain ⟨n, hn⟩ : ∃ n, n = e.kids.length := ⟨_, rfl⟩
  have HE := Lib.hid (show eVal e (.slice p e.kids.length c) = .agg #[.int .i64 e.form, .int .i64 e.sub, .int .i64 e.kind, .int .i64 e.n, .string e.name, .slice p n c] by rw [hn]; rfl)
  rw [HE.out]
  have HX : Hid (Ext w (w.alloc (.cells #[.int .i64 e.form, .int .i64 e.sub, .int .i64 e.kind, .int .i64 e.n, .string e.name, .slice p n c] 35))) := Lib.hid ((Ext.refl w).alloc _)
  have HF : Hid (Calls Try.prog 48 #[.agg #[.int .i64 e.form, .int .i64 e.sub, .int .i64 e.kind, .int .i64 e.n, .string e.name, .slice p n c], .int .i64 2000, .int .i64 1] (w.alloc (.cells #[.int .i64 e.form, .int .i64 e.sub, .int .i64 e.kind, .int .i64 e.n, .string e.name, .slice p n c] 35)) (RetIB (sizeE e 2000 1) (w.alloc (.cells #[.int .i64 e.form, .int .i64 e.sub, .int .i64 e.kind, .int .i64 e.n, .string e.name, .slice p n c] 35)))) := Lib.hid (by
    rw [← HE.out]
    exact size_any _ e (Nat.lt_succ_self _) _ _ _ _ (HK.out.ext HX.out) (by decide) (by decide) (by decide) (by decide))
  obtain ⟨t, ht⟩ : ∃ t, t = (sizeE e 2000 1).1 := ⟨_, rfl⟩
  have hr2 : sizeE e 2000 1 = (t, R) := by rw [ht, hR]; rfl
  rw [hr2] at HF
  clear hR hk hn ht hr2
  go_enter Try.func42, Try.ntmps42
  go_upto_region 1 with fail
  go_wp2_with (first | (go_at_call 48; refine HF.out.mono ?_; rintro e1 w2 ⟨rfl, H2⟩) | fail)
  rw [HQ.out]
  exact ⟨rfl, Lib.hid (HX.out.trans H2.out)⟩
end Go.Proofs.Ytkjgghbdpmkmoaa

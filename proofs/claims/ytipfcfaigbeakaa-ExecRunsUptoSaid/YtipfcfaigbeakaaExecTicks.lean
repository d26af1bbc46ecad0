/-
  The law on ticks: its walk.
  No condition.
-/
import Derived.Test.YtipfcfaigbeakaaMExecBound
import Derived.Test.YtipfcfaigbeakaaExecZ
import Derived.Deep.RegionHeld3
namespace Go.Proofs.Ytipfcfaigbeakaa
open Go.RowKit
set_option linter.unusedSimpArgs false
set_option linter.unusedVariables false
set_option maxRecDepth 100000

theorem own_room1 {w : World} {base g n cap : Nat} {e : TypeId} {xs : List Value} (h : w.ownsRow base e 1 (.slice (some ⟨g, 0, none⟩) n cap) n xs) (j : Nat) (hj : j < n) : ∃ y, w.cell? ⟨g, j, none⟩ = some y ∧ w.frozen? ⟨g, j, none⟩ = false := by
  obtain ⟨h1, h2⟩ := h
  rcases h2 with ⟨h2, _⟩ | ⟨g', cap', cur, hv, hg, hh, hn, hc, hs, ht⟩
  · cases h2
  · simp only [Value.slice.injEq, Option.some.injEq, Addr.mk.injEq] at hv
    obtain ⟨⟨rfl, -, -⟩, -, rfl⟩ := hv
    refine ⟨cur[j]'(by omega), ?_, frozen_of_row _ _ _ _ _ hh⟩
    rw [cell_of_row w g _ cur e (0, 0) hh, Array.getElem?_eq_getElem]
/-- What is not too much is small. -/
theorem bigR_small : ∀ (rs : List (List Int)) (k : Int), 0 ≤ k → k ≤ 2000 → (∀ r ∈ rs, r.length ≤ 1000000000000000) → bigR k rs = false → ∀ r ∈ rs, r.length ≤ 2000
  | [], _, _, _, _, _, r, hr => by cases hr
  | a :: rs, k, h0, h1, hb, h, r, hr => by
    rw [bigR, if_pos h1] at h
    have ha := hb a (List.mem_cons.2 (.inl rfl))
    rw [wrap64_id (x := k + 1) (by omega) (by omega), wrap64_id (by omega) (by omega)] at h
    have hk : k + 1 + (a.length : Int) ≤ 2000 := by
      by_cases hk : k + 1 + (a.length : Int) ≤ 2000
      · exact hk
      · cases rs with
        | nil => rw [bigR] at h; simp at h; omega
        | cons b rs => rw [bigR, if_neg hk] at h; cases h
    rcases List.mem_cons.1 hr with e | e
    · subst e; omega
    · exact bigR_small rs _ (by omega) hk (fun r hr => hb r (List.mem_cons.2 (.inr hr))) h r e
set_option maxHeartbeats 4000000 in
theorem ticks_live (c : CodeV) (kv iv bv v : Value) (vs : List Value) (rs : List (List Int)) (w : World) (h : CodeIn w kv iv bv c) (hr : RowsIn w v vs rs) (hb : bigV c = true ∨ bigR 0 rs = true ∨ 30 < rs.length) :
    Calls Try.prog 12 #[codeA c kv iv bv, v] w fun e w' => e = .returned (.bool true) ∧ Ext w w' := by
  have HL := LawC.of h
  have HB := Lib.hid HL.big
  have HG : Hid (∀ w', Ext w w' → Calls Try.prog 27 #[v] w' fun e w1 => e = .returned (.bool (bigR 0 rs)) ∧ Ext w' w1) := Lib.hid fun w' hx => big11_any (hr.ext hx)
  obtain ⟨b1, hb1⟩ : ∃ b, b = bigV c := ⟨_, rfl⟩
  obtain ⟨b2, hb2⟩ : ∃ b, b = bigR 0 rs := ⟨_, rfl⟩
  obtain ⟨n, hn⟩ : ∃ n, n = rs.length := ⟨_, rfl⟩
  obtain ⟨a, cap, rfl, h1, h2, -⟩ := id hr.top
  have hw := nat64 h1 h2
  rw [← hb1] at HB hb
  rw [← hb2] at HG hb
  rw [← hn] at hb hw h1 HG ⊢
  unfold maxLen at h2
  clear hb1 hb2 HL h hr hn
  simp only [codeA] at HB ⊢
  cases b1
  · cases b2
    · have h30 : 30 < n := by
        rcases hb with h | h | h
        · cases h
        · cases h
        · exact h
      clear hb
      go_enter Try.func12, Try.ntmps12
      go_wp2_with (first | (go_at_call 26; refine (live21 _).mono ?_; rintro e w1 ⟨rfl, hx1⟩; (first | (with_reducible obtain ⟨t1, rfl⟩ := Ext.tok2 hx1) | (obtain ⟨t1, rfl⟩ := Ext.tok hx1))) | (go_at_call 16; refine (HB.out _ (by repeat first | exact Ext.refl _ | assumption | refine Ext.drew ?_ | refine Ext.drewN ?_ _ | refine Ext.extBy ?_ _ | refine Ext.alloc ?_ _ | refine Ext.setCell ?_ (by simp; try omega) _ | (refine Ext.trans ?_ (by assumption)))).mono ?_; rintro e w2 ⟨rfl, hx2⟩; (first | (with_reducible obtain ⟨t2, rfl⟩ := Ext.tok2 hx2) | (obtain ⟨t2, rfl⟩ := Ext.tok hx2))) | (go_at_call 27; refine (HG.out _ (by repeat first | exact Ext.refl _ | assumption | refine Ext.drew ?_ | refine Ext.drewN ?_ _ | refine Ext.extBy ?_ _ | refine Ext.alloc ?_ _ | refine Ext.setCell ?_ (by simp; try omega) _ | (refine Ext.trans ?_ (by assumption)))).mono ?_; rintro e w3 ⟨rfl, hx3⟩; (first | (with_reducible obtain ⟨t3, rfl⟩ := Ext.tok2 hx3) | (obtain ⟨t3, rfl⟩ := Ext.tok hx3))))
      go_ret
      exact ⟨rfl, (by repeat first | exact Ext.refl _ | assumption | refine Ext.drew ?_ | refine Ext.drewN ?_ _ | refine Ext.extBy ?_ _ | refine Ext.alloc ?_ _ | refine Ext.setCell ?_ (by simp; try omega) _ | (refine Ext.trans ?_ (by assumption)))⟩
    · clear hb
      go_enter Try.func12, Try.ntmps12
      go_wp2_with (first | (go_at_call 26; refine (live21 _).mono ?_; rintro e w1 ⟨rfl, hx1⟩; (first | (with_reducible obtain ⟨t1, rfl⟩ := Ext.tok2 hx1) | (obtain ⟨t1, rfl⟩ := Ext.tok hx1))) | (go_at_call 16; refine (HB.out _ (by repeat first | exact Ext.refl _ | assumption | refine Ext.drew ?_ | refine Ext.drewN ?_ _ | refine Ext.extBy ?_ _ | refine Ext.alloc ?_ _ | refine Ext.setCell ?_ (by simp; try omega) _ | (refine Ext.trans ?_ (by assumption)))).mono ?_; rintro e w2 ⟨rfl, hx2⟩; (first | (with_reducible obtain ⟨t2, rfl⟩ := Ext.tok2 hx2) | (obtain ⟨t2, rfl⟩ := Ext.tok hx2))) | (go_at_call 27; refine (HG.out _ (by repeat first | exact Ext.refl _ | assumption | refine Ext.drew ?_ | refine Ext.drewN ?_ _ | refine Ext.extBy ?_ _ | refine Ext.alloc ?_ _ | refine Ext.setCell ?_ (by simp; try omega) _ | (refine Ext.trans ?_ (by assumption)))).mono ?_; rintro e w3 ⟨rfl, hx3⟩; (first | (with_reducible obtain ⟨t3, rfl⟩ := Ext.tok2 hx3) | (obtain ⟨t3, rfl⟩ := Ext.tok hx3))))
      go_ret
      exact ⟨rfl, (by repeat first | exact Ext.refl _ | assumption | refine Ext.drew ?_ | refine Ext.drewN ?_ _ | refine Ext.extBy ?_ _ | refine Ext.alloc ?_ _ | refine Ext.setCell ?_ (by simp; try omega) _ | (refine Ext.trans ?_ (by assumption)))⟩
  · clear hb
    go_enter Try.func12, Try.ntmps12
    go_wp2_with (first | (go_at_call 26; refine (live21 _).mono ?_; rintro e w1 ⟨rfl, hx1⟩; (first | (with_reducible obtain ⟨t1, rfl⟩ := Ext.tok2 hx1) | (obtain ⟨t1, rfl⟩ := Ext.tok hx1))) | (go_at_call 16; refine (HB.out _ (by repeat first | exact Ext.refl _ | assumption | refine Ext.drew ?_ | refine Ext.drewN ?_ _ | refine Ext.extBy ?_ _ | refine Ext.alloc ?_ _ | refine Ext.setCell ?_ (by simp; try omega) _ | (refine Ext.trans ?_ (by assumption)))).mono ?_; rintro e w2 ⟨rfl, hx2⟩; (first | (with_reducible obtain ⟨t2, rfl⟩ := Ext.tok2 hx2) | (obtain ⟨t2, rfl⟩ := Ext.tok hx2))))
    go_ret
    exact ⟨rfl, (by repeat first | exact Ext.refl _ | assumption | refine Ext.drew ?_ | refine Ext.drewN ?_ _ | refine Ext.extBy ?_ _ | refine Ext.alloc ?_ _ | refine Ext.setCell ?_ (by simp; try omega) _ | (refine Ext.trans ?_ (by assumption)))⟩
set_option maxHeartbeats 4000000 in
theorem ticks_bad (c : CodeV) (kv iv bv v : Value) (vs : List Value) (rs : List (List Int)) (w : World) (h : CodeIn w kv iv bv c) (hr : RowsIn w v vs rs) (hb1 : bigV c = false) (hb2 : bigR 0 rs = false) (h30 : rs.length ≤ 30) (hc : chk c ≠ 0) :
    Calls Try.prog 12 #[codeA c kv iv bv, v] w fun e w' => e = .returned (.bool true) ∧ Ext w w' := by
  have HL := LawC.of h
  have HB := Lib.hid HL.big
  have HC := Lib.hid HL.chk
  have HG : Hid (∀ w', Ext w w' → Calls Try.prog 27 #[v] w' fun e w1 => e = .returned (.bool (bigR 0 rs)) ∧ Ext w' w1) := Lib.hid fun w' hx => big11_any (hr.ext hx)
  have HN : Hid (∀ w', Ext w w' → Calls Try.prog 28 #[codeA c kv iv bv] w' fun e w1 => e = .returned (.tuple #[.pointer none, .int .i64 40]) ∧ Ext w' w1) := Lib.hid fun w' hx => new_bad c kv iv bv w' (h.ext hx) hc
  obtain ⟨x, hx⟩ : ∃ x, x = chk c := ⟨_, rfl⟩
  obtain ⟨n, hn⟩ : ∃ n, n = rs.length := ⟨_, rfl⟩
  obtain ⟨a, cap, rfl, h1, h2, -⟩ := id hr.top
  have hw := nat64 h1 h2
  rw [← hx] at HC hc
  rw [hb1] at HB
  rw [hb2] at HG
  rw [← hn] at h30 hw h1 HG ⊢
  have hx0 : (x != 0) = true := by simpa using hc
  unfold maxLen at h2
  clear hb1 hb2 HL h hr hn hx hc
  simp only [codeA] at HB HC HN ⊢
  go_enter Try.func12, Try.ntmps12
  go_wp2_with (first | (go_at_call 26; refine (live21 _).mono ?_; rintro e w1 ⟨rfl, hx1⟩; (first | (with_reducible obtain ⟨t1, rfl⟩ := Ext.tok2 hx1) | (obtain ⟨t1, rfl⟩ := Ext.tok hx1))) | (go_at_call 16; refine (HB.out _ (by repeat first | exact Ext.refl _ | assumption | refine Ext.drew ?_ | refine Ext.drewN ?_ _ | refine Ext.extBy ?_ _ | refine Ext.alloc ?_ _ | refine Ext.setCell ?_ (by simp; try omega) _ | (refine Ext.trans ?_ (by assumption)))).mono ?_; rintro e w2 ⟨rfl, hx2⟩; (first | (with_reducible obtain ⟨t2, rfl⟩ := Ext.tok2 hx2) | (obtain ⟨t2, rfl⟩ := Ext.tok hx2))) | (go_at_call 27; refine (HG.out _ (by repeat first | exact Ext.refl _ | assumption | refine Ext.drew ?_ | refine Ext.drewN ?_ _ | refine Ext.extBy ?_ _ | refine Ext.alloc ?_ _ | refine Ext.setCell ?_ (by simp; try omega) _ | (refine Ext.trans ?_ (by assumption)))).mono ?_; rintro e w3 ⟨rfl, hx3⟩; (first | (with_reducible obtain ⟨t3, rfl⟩ := Ext.tok2 hx3) | (obtain ⟨t3, rfl⟩ := Ext.tok hx3))) | (go_at_call 28; refine (HN.out _ (by repeat first | exact Ext.refl _ | assumption | refine Ext.drew ?_ | refine Ext.drewN ?_ _ | refine Ext.extBy ?_ _ | refine Ext.alloc ?_ _ | refine Ext.setCell ?_ (by simp; try omega) _ | (refine Ext.trans ?_ (by assumption)))).mono ?_; rintro e w4 ⟨rfl, hx4⟩; (first | (with_reducible obtain ⟨t4, rfl⟩ := Ext.tok2 hx4) | (obtain ⟨t4, rfl⟩ := Ext.tok hx4))) | (go_at_call 19; refine (HC.out _ (by repeat first | exact Ext.refl _ | assumption | refine Ext.drew ?_ | refine Ext.drewN ?_ _ | refine Ext.extBy ?_ _ | refine Ext.alloc ?_ _ | refine Ext.setCell ?_ (by simp; try omega) _ | (refine Ext.trans ?_ (by assumption)))).mono ?_; rintro e w3 ⟨rfl, hx3⟩; (first | (with_reducible obtain ⟨t5, rfl⟩ := Ext.tok2 hx3) | (obtain ⟨t5, rfl⟩ := Ext.tok hx3))) | (go_at_call 32; refine (num21_any _ _).mono ?_; rintro e w6 ⟨rfl, rfl⟩))
  go_ret
  exact ⟨rfl, (by repeat first | exact Ext.refl _ | assumption | refine Ext.drew ?_ | refine Ext.drewN ?_ _ | refine Ext.extBy ?_ _ | refine Ext.alloc ?_ _ | refine Ext.setCell ?_ (by simp; try omega) _ | (refine Ext.trans ?_ (by assumption)))⟩
set_option maxHeartbeats 8000000 in
theorem ticks_good (c : CodeV) (kv iv bv v : Value) (vs : List Value) (rs : List (List Int)) (w : World) (h : CodeIn w kv iv bv c) (wf : CodeWf c) (hr : RowsIn w v vs rs) (hI : ∀ r ∈ rs, ∀ n ∈ r, I64 n) (hb1 : bigV c = false) (hb2 : bigR 0 rs = false) (h30 : rs.length ≤ 30) (hc : chk c = 0) (hsz : ∀ r ∈ rs, r.length ≤ 2000) :
    Calls Try.prog 12 #[codeA c kv iv bv, v] w fun e w' => e = .returned (.bool true) ∧ Ext w w' := by
  have hg : GoodC c := ⟨hc, wf.body⟩
  obtain ⟨s1, s2, s3⟩ := chk_sizes hc
  obtain ⟨G, -⟩ := chk_fin hc
  have hcok := init_ok G wf.init
  have HL := LawC.of h
  have HB := Lib.hid HL.big
  have HC := Lib.hid HL.chk
  have HG : Hid (∀ w', Ext w w' → Calls Try.prog 27 #[v] w' fun e w1 => e = .returned (.bool (bigR 0 rs)) ∧ Ext w' w1) := Lib.hid fun w' hx => big11_any (hr.ext hx)
  have HNW : Hid (∀ w', Ext w w' → Calls Try.prog 28 #[codeA c kv iv bv] w' fun e w2 => ∃ g S, e = .returned (.tuple #[.pointer (some ⟨g, 0, none⟩), .int .i64 0]) ∧ MI g w'.heap.size c c.init S w2 ∧ Ext w' w2) := Lib.hid fun w' hx => new_mi hg wf (h.ext hx)
  have HRN : Hid (∀ w', Ext w w' → Calls Try.prog 29 #[codeA c kv iv bv] w' fun e w2 => ∃ g S, e = .returned (.pointer (some ⟨g, 0, none⟩)) ∧ RI g c kv iv bv c.init S w2 ∧ (∀ k ∈ S, w'.heap.size ≤ k) ∧ Ext w' w2) := Lib.hid fun w' hx => (refNew_any c kv iv bv w' (h.ext hx) (by omega)).mono fun e w2 hm => hm.ri (h.ext hx) hcok
  obtain ⟨n, hn⟩ : ∃ n, n = rs.length := ⟨_, rfl⟩
  have HR := Lib.hid hr
  have HI := Lib.hid h
  obtain ⟨a, cap, rfl, h1, h2, htc⟩ := id hr.top
  have HT := Lib.hid htc
  have hw := nat64 h1 h2
  obtain ⟨⟨ka, kcap, rfl, -⟩, ⟨ia, icap, rfl, -⟩, ⟨ba, bcap, rfl, -⟩⟩ := id h
  rw [hc] at HC
  rw [hb1] at HB
  rw [hb2] at HG
  rw [← hn] at hw h1 h30 HG ⊢
  have HY := Lib.hid (And.intro hg (And.intro hI (And.intro hsz (And.intro hn (And.intro hcok (show c.kinds.length ≤ 1000000 by omega))))))
  clear hb1 hb2 HL h hr hn hc hI hg htc wf G hcok hsz h1 h2 hw
  simp only [codeA] at HC HB HNW HRN ⊢
  go_enter Try.func12, Try.ntmps12
  go_upto_region 1 with fail
  have hbX : BoxV w.heap.size [.slice ka c.kinds.length kcap, .int .i64 c.ins, .int .i64 c.outs, .int .i64 c.cells, .int .i64 c.stack, .slice ia c.init.length icap, .slice ba c.body.length bcap] (w.alloc (.cells #[.slice ka c.kinds.length kcap, .int .i64 c.ins, .int .i64 c.outs, .int .i64 c.cells, .int .i64 c.stack, .slice ia c.init.length icap, .slice ba c.body.length bcap] 25)) := BoxV.of_row (heap_alloc_last w _)
  have hE : Ext w (w.alloc (.cells #[.slice ka c.kinds.length kcap, .int .i64 c.ins, .int .i64 c.outs, .int .i64 c.cells, .int .i64 c.stack, .slice ia c.init.length icap, .slice ba c.body.length bcap] 25)) := (Ext.refl w).alloc _
  generalize w.alloc (.cells #[.slice ka c.kinds.length kcap, .int .i64 c.ins, .int .i64 c.outs, .int .i64 c.cells, .int .i64 c.stack, .slice ia c.init.length icap, .slice ba c.body.length bcap] 25) = w1 at hbX hE ⊢
  obtain ⟨X, hX⟩ : ∃ X, X = w.heap.size := ⟨_, rfl⟩
  rw [← hX] at hbX ⊢
  clear hX
  have p0 := hbX.cells 0 _ rfl
  have p1 := hbX.cells 1 _ rfl
  have p2 := hbX.cells 2 _ rfl
  have p3 := hbX.cells 3 _ rfl
  have p4 := hbX.cells 4 _ rfl
  have p5 := hbX.cells 5 _ rfl
  have p6 := hbX.cells 6 _ rfl
  have hXl := hbX.lt
  go_upto_region 5 with (first | (go_at_call 26; refine (live21 _).mono ?_; rintro e w2 ⟨rfl, hx1⟩; (first | (with_reducible obtain ⟨t1, rfl⟩ := Ext.tok2 hx1) | (obtain ⟨t1, rfl⟩ := Ext.tok hx1))) | (go_at_call 16; refine (HB.out _ (by repeat first | exact Ext.refl _ | assumption | refine Ext.drew ?_ | refine Ext.drewN ?_ _ | refine Ext.extBy ?_ _ | refine Ext.alloc ?_ _ | refine Ext.setCell ?_ (by simp; try omega) _ | (refine Ext.trans ?_ (by assumption)))).mono ?_; rintro e w2 ⟨rfl, hx2⟩; (first | (with_reducible obtain ⟨t2, rfl⟩ := Ext.tok2 hx2) | (obtain ⟨t2, rfl⟩ := Ext.tok hx2))) | (go_at_call 27; refine (HG.out _ (by repeat first | exact Ext.refl _ | assumption | refine Ext.drew ?_ | refine Ext.drewN ?_ _ | refine Ext.extBy ?_ _ | refine Ext.alloc ?_ _ | refine Ext.setCell ?_ (by simp; try omega) _ | (refine Ext.trans ?_ (by assumption)))).mono ?_; rintro e w3 ⟨rfl, hx3⟩; (first | (with_reducible obtain ⟨t3, rfl⟩ := Ext.tok2 hx3) | (obtain ⟨t3, rfl⟩ := Ext.tok hx3))))
  have hx5 : Ext w1 (w1.extBy t3) := (by repeat first | exact Ext.refl _ | assumption | refine Ext.drew ?_ | refine Ext.drewN ?_ _ | refine Ext.extBy ?_ _ | refine Ext.alloc ?_ _ | refine Ext.setCell ?_ (by simp; try omega) _ | (refine Ext.trans ?_ (by assumption)))
  have hbX5 := hbX.ext hx5
  have hE5 := hE.trans hx5
  generalize w1.extBy t3 = W at hbX5 hE5 ⊢
  clear p0 p1 p2 p3 p4 p5 p6 hXl hbX hE hx5
  have p0 := hbX5.cells 0 _ rfl
  have p1 := hbX5.cells 1 _ rfl
  have p2 := hbX5.cells 2 _ rfl
  have p3 := hbX5.cells 3 _ rfl
  have p4 := hbX5.cells 4 _ rfl
  have p5 := hbX5.cells 5 _ rfl
  have p6 := hbX5.cells 6 _ rfl
  have HIW := Lib.hid (HI.out.ext hE5)
  have HRW := Lib.hid (HR.out.ext hE5)
  have HTW : Hid (∀ (j : Nat) (u : Value), vs[j]? = some u → ∃ b o, a = some ⟨b, o, none⟩ ∧ W.cell? ⟨b, o + j, none⟩ = some u) := Lib.hid fun j u hu => by obtain ⟨b, o, e1, e2⟩ := HT.out j u hu; exact ⟨b, o, e1, hE5.cell e2⟩
  have HNX := Lib.hid (HNW.out W hE5)
  have HCW : Hid (∀ w', Ext W w' → Calls Try.prog 19 #[.agg #[.slice ka c.kinds.length kcap, .int .i64 c.ins, .int .i64 c.outs, .int .i64 c.cells, .int .i64 c.stack, .slice ia c.init.length icap, .slice ba c.body.length bcap]] w' fun e w1 => e = .returned (.int .i64 0) ∧ Ext w' w1) := Lib.hid fun w' hx => HC.out w' (hE5.trans hx)
  have HRX : Hid (∀ w', Ext W w' → Calls Try.prog 29 #[.agg #[.slice ka c.kinds.length kcap, .int .i64 c.ins, .int .i64 c.outs, .int .i64 c.cells, .int .i64 c.stack, .slice ia c.init.length icap, .slice ba c.body.length bcap]] w' fun e w2 => ∃ g S, e = .returned (.pointer (some ⟨g, 0, none⟩)) ∧ RI g c (.slice ka c.kinds.length kcap) (.slice ia c.init.length icap) (.slice ba c.body.length bcap) c.init S w2 ∧ (∀ k ∈ S, w'.heap.size ≤ k) ∧ Ext w' w2) := Lib.hid fun w' hx => HRN.out w' (hE5.trans hx)
  have HBX := Lib.hid hbX5
  have HE := Lib.hid hE5
  clear hbX5 hE5 HNW HC HRN HB HG HR HI HT
  go_upto_region 6 with (go_at_call 28; refine HNX.out.mono ?_; rintro e w6 ⟨g1, S1, rfl, hm1, hx6⟩)
  have HHF : Hid (MI g1 W.heap.size c c.init S1 w6 ∧ Ext W w6) := Lib.hid ⟨hm1, hx6⟩
  have hb6 := HBX.out.ext hx6
  clear p0 p1 p2 p3 p4 p5 p6 hm1
  have p0 := hb6.cells 0 _ rfl
  have p1 := hb6.cells 1 _ rfl
  have p2 := hb6.cells 2 _ rfl
  have p3 := hb6.cells 3 _ rfl
  have p4 := hb6.cells 4 _ rfl
  have p5 := hb6.cells 5 _ rfl
  have p6 := hb6.cells 6 _ rfl
  go_wp2_with (first | (go_at_call 19; refine (HCW.out _ (by repeat first | exact Ext.refl _ | assumption | refine Ext.drew ?_ | refine Ext.drewN ?_ _ | refine Ext.extBy ?_ _ | refine Ext.alloc ?_ _ | refine Ext.setCell ?_ (by simp; try omega) _ | (refine Ext.trans ?_ (by assumption)))).mono ?_; rintro e w7 ⟨rfl, hx7⟩) | (go_at_call 32; refine (num21_any _ _).mono ?_; rintro e w8 ⟨rfl, rfl⟩))
  have HHG : Hid (MI g1 W.heap.size c c.init S1 w7 ∧ Ext W w7) := Lib.hid ⟨HHF.out.1.ext hx7, HHF.out.2.trans hx7⟩
  clear p0 p1 p2 p3 p4 p5 p6 hb6 hx6 hx7 HHF HNX HCW
  go_loopw [9] (fun i wr => ∃ (k : Nat) (S1 : List Nat), k ≤ 2 ∧ i = .int .i64 k ∧ Hid (MI g1 W.heap.size c c.init S1 wr ∧ Ext W wr)) (fun i _ => 2 - (intOf i).toNat)
  case atStart => exact ⟨0, _, Nat.zero_le _, rfl, HHG⟩
  case round =>
    obtain ⟨k, S1', hk, rfl, HK⟩ := hrel
    clear HHG
    by_cases hk2 : k < 2
    · have hki : (k : Int) < 2 := by omega
      have hbr := HBX.out.ext HK.out.2
      have p0 := hbr.cells 0 _ rfl
      have p1 := hbr.cells 1 _ rfl
      have p2 := hbr.cells 2 _ rfl
      have p3 := hbr.cells 3 _ rfl
      have p4 := hbr.cells 4 _ rfl
      have p5 := hbr.cells 5 _ rfl
      have p6 := hbr.cells 6 _ rfl
      have HRR := Lib.hid (HRX.out _ HK.out.2)
      clear hbr
      go_upto_region 14 with (go_at_call 29; refine HRR.out.mono ?_; rintro e w8 ⟨g3, S3, rfl, hri, hlo3, hx8⟩)
      have HD : Hid (Duo W c (.slice ka c.kinds.length kcap) (.slice ia c.init.length icap) (.slice ba c.body.length bcap) g1 W.heap.size g3 c.init c.init S1' S3 w8) := Lib.hid ⟨HK.out.1.ext hx8, hri, Nat.le_refl _, fun k hk => Nat.le_trans HK.out.2.size (hlo3 k hk), fun k h1 h3 => by have := hlo3 k h3; have := (HK.out.1.lt k h1).2; omega, HK.out.2.trans hx8⟩
      clear p0 p1 p2 p3 p4 p5 p6 hri hlo3 hx8 HK HRR
      go_wp2
      go_loopw [11] (fun i wr => ∃ (j : Nat) (cs : List Int) (S1 S3 : List Nat), j ≤ n ∧ i = .int .i64 j ∧ Hid (Duo W c (.slice ka c.kinds.length kcap) (.slice ia c.init.length icap) (.slice ba c.body.length bcap) g1 W.heap.size g3 cs cs S1 S3 wr)) (fun i _ => n - (intOf i).toNat)
      case atStart => exact ⟨0, _, _, _, Nat.zero_le _, rfl, HD⟩
      case round =>
        obtain ⟨j, cs, S1', S3', hj, rfl, HDr⟩ := hrel
        clear HD
        by_cases hlt : j < n
        · obtain ⟨x, r, hx, hr, hs⟩ := HRW.out.at (j := j) (by have := HY.out.2.2.2.1; omega)
          have hm := List.mem_of_getElem? hr
          have HIR := Lib.hid (HY.out.2.1 r hm)
          have hlr : r.length ≤ 2000 := HY.out.2.2.1 r hm
          obtain ⟨b, o, rfl, f0⟩ := HTW.out j x hx
          have HF0 := Lib.hid f0
          have hji : (j : Int) < (n : Int) := Int.ofNat_lt.2 hlt
          have HSX := Lib.hid hs
          obtain ⟨xa, xcap, rfl, -⟩ := hs
          obtain ⟨R, hR⟩ : ∃ R, R = tickV c cs r := ⟨_, rfl⟩
          have HRV := Lib.hid hR
          obtain ⟨L, hL⟩ : ∃ L, L = r.length := ⟨_, rfl⟩
          have HLL := Lib.hid hL
          rw [← hL] at hlr HSX f0
          replace HF0 := Lib.hid f0
          have f1 := HDr.out.ext.cell f0
          have HS1 := Lib.hid (HSX.out.ext HDr.out.ext)
          clear hx hr hm f0 hR hL
          go_upto_region 18 with (first | (at_builtin; (refine wpList_append_slc _ rfl (.const (.slice none 0 0)) (.tmp 75) 22 rfl wr.heap.size 3 (.int .i64 0) 1 8 Try.underlying22 infoInt rfl (by decide) (.slice none 0 0) 0 [] rfl (own_nil _ _ _ _) _ L (i64s r) rfl HS1.out (by simp [HLL.out]) (one_i64s _) (by unfold maxLen; omega) (by omega) (Nat.le_refl _) ?_; intro v1 u1 hown1 hg1 hat1; rw [Nat.zero_add, List.nil_append] at hown1; have hE1 := ext_grown_nil hg1; have hlow1 := fun b hb => (hown1.lt b hb).1; have HO1 := Lib.hid (ownsRow_ext hown1 ((Ext.refl u1).alloc (.cells #[.int .i64 (-71)] 3))); clear hown1 hg1 hat1)) | (at_builtin; (refine wpList_append_slc _ rfl (.tmp 76) (.tmp 77) 22 rfl wr.heap.size 3 (.int .i64 0) 1 8 Try.underlying22 infoInt rfl (by decide) _ L (i64s r) rfl HO1.out _ 1 [.int .i64 (-71)] rfl (SlC.of_block (heap_alloc_last u1 _) 1 1 _ (Nat.le_refl _) (by decide) rfl) rfl (by simp [Value.oneCell']) (by unfold maxLen; omega) (by omega) (by have := hE1.size; simp; omega) ?_; intro v2 u2 hown2 hg2 hat2)))
          have hx2 : Ext wr u2 := (Kb.grown (S := v1.ownBlock.toList) hg2 (fun g hg => Option.mem_toList.2 hg)).ext (hE1.alloc _) (fun k hk => hlow1 k (Option.mem_toList.1 hk))
          obtain ⟨lb, lcap, rfl, hlb, hlc, hll⟩ := ownsRow_some hown2 (by omega)
          have HD2 := Lib.hid (HDr.out.more hx2)
          have HLO : Hid (u2.ownsRow wr.heap.size 3 1 (.slice (some ⟨lb, 0, none⟩) (L + 1) lcap) (L + 1) (i64s (r ++ [-71]))) := Lib.hid (by simpa using hown2)
          have HLB : Hid (wr.heap.size ≤ lb ∧ lb < u2.heap.size ∧ (∀ k ∈ S1', k < wr.heap.size) ∧ ∀ k ∈ S3', k < wr.heap.size) := Lib.hid ⟨hlb, hll, fun k hk => (HDr.out.m.lt k hk).2, fun k hk => HDr.out.r.lt.2 k hk⟩
          have f2 := hx2.cell f1
          have hcut := run_cut_h (P := Try.prog) 22 (by kernel_rfl) sizeInt lb (L + 1) lcap L (by omega)
          have HSC : Hid (SlC u2 (.slice (some ⟨lb, 0, none⟩) L lcap) L (i64s r)) := Lib.hid (by
            have := SlC.of_owns (own_shorter HLO.out L (by omega))
            rwa [show (i64s (r ++ [-71])).take L = i64s r by rw [HLL.out, ← List.map_take, List.take_left' rfl]] at this)
          have HT1 := Lib.hid (HD2.out.tick1 HY.out.1 HIW.out (insv := .slice (some ⟨lb, 0, none⟩) L lcap) (by rw [← HLL.out]; exact HSC.out) HIR.out (fun _ k hk e => by
            have h1 := HLB.out.2.2.1 k hk
            have h2 := HLB.out.1
            simp only [Value.ownBlock, Option.some.injEq] at e
            omega))
          rw [← HRV.out] at HT1
          clear hx2 hown2 hg2 hat2 hE1 hlow1 HO1 hlb hll f1 HS1 HDr
          go_upto_region 19 with (go_at_call 30; refine HT1.out.mono ?_; rintro e w3 ⟨v3, S1n, base3, rfl, hd3, hk3, hs3, hb3, hown3, hv3⟩)
          have HD3 := Lib.hid hd3
          have f3 := hd3.ext.cell HF0.out
          have HSX3 := Lib.hid (HSX.out.ext hd3.ext)
          have HT3 := Lib.hid (hd3.tick3 HY.out.1 (insv := .slice xa L xcap) (by rw [← HLL.out]; exact HSX3.out) HIR.out)
          rw [← HRV.out] at HT3
          have HV3 : Hid (w3.ownsRow W.heap.size 3 1 v3 R.outs.length (i64s R.outs) ∧ (∀ b, v3.ownBlock = some b → b ∉ S1n ∧ (∀ k ∈ S3', k < b) ∧ b < w3.heap.size)) := Lib.hid (by
            have e1 := HLB.out
            have e2 := HD2.out.ext.size
            have e3 : u2.heap.size ≤ base3 := hb3
            refine ⟨ownsRow_base hown3 (by omega), fun b hb => ⟨hv3 b hb, fun k hk => ?_, (hown3.lt b hb).2⟩⟩
            have := e1.2.2.2 k hk
            have := (hown3.lt b hb).1
            omega)
          have HL3 : Hid (w3.ownsRow wr.heap.size 3 1 (.slice (some ⟨lb, 0, none⟩) (L + 1) lcap) (L + 1) (i64s (r ++ [-71])) ∧ lb < w3.heap.size) := Lib.hid (by
            have e1 := HLB.out
            have h1 := hk3.row HLO.out (fun g hg e => by
              have := e1.2.2.1 g hg
              simp only [Value.ownBlock, Option.some.injEq] at e
              omega)
            exact ⟨h1, (h1.lt lb rfl).2⟩)
          have HG3 : Hid (g3 ∈ S3') := Lib.hid hd3.r.lt.1
          clear hd3 hk3 hs3 hb3 hown3 hv3 HT1 HLO HSC HD2 f2
          go_upto_region 20 with (go_at_call 31; refine HT3.out.mono ?_; rintro e w4 ⟨v4, S3n, rfl, hd4, hk4, hs4, hv4⟩)
          have HD4 := Lib.hid hd4
          have f4 := hd4.ext.cell HF0.out
          have HSX4 := Lib.hid (HSX.out.ext hd4.ext)
          have HV4 : Hid (DuoR W c (.slice ka c.kinds.length kcap) (.slice ia c.init.length icap) (.slice ba c.body.length bcap) g1 W.heap.size g3 R.cells R.cells S1n S3n v3 R.outs.length w4) := Lib.hid (by
            obtain ⟨h1, h2⟩ := HV3.out
            refine ⟨hd4, ⟨_, hk4.row h1 (fun g hg e => ?_)⟩, fun b hb => ⟨(h2 b hb).1, fun hk => ?_⟩⟩
            · rw [List.mem_singleton.1 hg] at e
              have := (h2 g3 e).2.1 g3 HG3.out
              omega
            · obtain ⟨-, h3, h4⟩ := h2 b hb
              rcases hs4 b hk with e | e
              · have := h3 b e; omega
              · omega)
          have HVS : Hid (SlC w4 v3 R.outs.length (i64s R.outs)) := Lib.hid (by
            obtain ⟨h1, h2⟩ := HV3.out
            exact SlC.of_owns (hk4.row h1 (fun g hg e => by
              rw [List.mem_singleton.1 hg] at e
              have := (h2 g3 e).2.1 g3 HG3.out
              omega)))
          have hl4 : w4.ownsRow wr.heap.size 3 1 (.slice (some ⟨lb, 0, none⟩) (L + 1) lcap) (L + 1) (i64s (r ++ [-71])) := hk4.row HL3.out.1 (fun g hg e => by
            rw [List.mem_singleton.1 hg] at e
            simp only [Value.ownBlock, Option.some.injEq] at e
            have := HLB.out.1
            have := HLB.out.2.2.2 g3 HG3.out
            omega)
          have hlast := own_cell1 hl4 L (.int .i64 (-71)) (by rw [List.getElem?_map, HLL.out, List.getElem?_append_right (Nat.le_refl _), Nat.sub_self]; rfl)
          have HLC : Hid (SlC w4 (.slice (some ⟨lb, 0, none⟩) L lcap) L (i64s r)) := Lib.hid (by
            have := SlC.of_owns (own_shorter hl4 L (by omega))
            rwa [show (i64s (r ++ [-71])).take L = i64s r by rw [HLL.out, ← List.map_take, List.take_left' rfl]] at this)
          have hlbs := (hl4.lt lb rfl).2
          obtain ⟨ra, rcap, hr7, hrs⟩ := hd4.rcells
          have hg3s := World.block_lt_of_cell? w4 _ hr7
          have hbs := World.block_lt_of_cell? w4 _ f4
          obtain ⟨N, hN⟩ : ∃ N, N = R.cells.length := ⟨_, rfl⟩
          rw [← hN] at hr7 hrs
          have HSA : Hid (∀ w', Ext w4 w' → Calls Try.prog 33 #[v3, v4] w' fun e w1 => e = .returned (.bool true) ∧ Ext w' w1) := Lib.hid fun w' hx => by
            have := same21_any R.outs R.outs v3 v4 w' (HVS.out.ext hx) (hv4.ext hx)
            rwa [show decide (R.outs = R.outs) = true from decide_eq_true rfl] at this
          have HSL : Hid (∀ w', Ext w4 w' → Calls Try.prog 33 #[.slice (some ⟨lb, 0, none⟩) L lcap, .slice xa L xcap] w' fun e w1 => e = .returned (.bool true) ∧ Ext w' w1) := Lib.hid fun w' hx => by
            have := same21_any r r _ _ w' (by rw [← HLL.out]; exact HLC.out.ext hx) (by rw [← HLL.out]; exact HSX4.out.ext hx)
            rwa [show decide (r = r) = true from decide_eq_true rfl] at this
          have HCE : Hid (∀ w', Ext w4 w' → Calls Try.prog 34 #[.pointer (some ⟨g1, 0, none⟩)] w' fun e w1 => ∃ a cap, e = .returned (.slice a N cap) ∧ SlC w1 (.slice a N cap) N (i64s R.cells) ∧ Ext w' w1) := Lib.hid fun w' hx => by
            refine (mcells (HD4.out.m.ext hx) HY.out.2.2.2.2.2).mono ?_
            rintro e w1 ⟨u, rfl, hu, hx1⟩
            rw [← hN] at hu
            obtain ⟨ua, ucap, rfl⟩ := own_n hu
            exact ⟨ua, ucap, rfl, SlC.of_owns hu, hx1⟩
          have HSB : Hid (∀ (w' : World) (ua : Option Addr) (ucap : Nat), SlC w' (.slice ua N ucap) N (i64s R.cells) → Ext w4 w' → Calls Try.prog 33 #[.slice ua N ucap, .slice ra N rcap] w' fun e w1 => e = .returned (.bool true) ∧ Ext w' w1) := Lib.hid fun w' ua ucap h1 hx => by
            have := same21_any R.cells R.cells _ _ w' (by rw [← hN]; exact h1) (by rw [← hN]; exact hrs.ext hx)
            rwa [show decide (R.cells = R.cells) = true from decide_eq_true rfl] at this
          obtain ⟨q1, q3, rfl⟩ := (show ∃ a cap, v3 = .slice a R.outs.length cap from by obtain ⟨a, cap, e, -⟩ := id HVS.out; exact ⟨a, cap, e⟩)
          obtain ⟨y1, y2, rfl, -⟩ := id hv4
          clear hd4 hk4 hs4 hv4 HT3 HD3 HV3 HL3 hl4 hrs HSX3 HG3 HLB f3 hN
          have HSK : Hid (∀ w', Ext w4 w' → w'.cell? ⟨b, o + j, none⟩ = some (.slice xa L xcap) ∧ w'.cell? ⟨g3, 7, none⟩ = some (.slice ra N rcap) ∧ w'.cell? ⟨lb, L, none⟩ = some (.int .i64 (-71))) := Lib.hid fun w' hx => ⟨hx.cell f4, hx.cell hr7, hx.cell hlast.1⟩
          have hx0 : Ext w4 w4 := Ext.refl _
          have hL0 : (0 : Int) ≤ (L : Int) := Int.natCast_nonneg _
          have hL1 : (L : Int) < ((L + 1 : Nat) : Int) := Int.ofNat_lt.2 (Nat.lt_succ_self _)
          have hL2 : (L : Int) < (L : Int) + 1 := Int.lt_succ _
          go_upto_region 20 with fail
          go_region_held3 (fun w' => w'.cell? ⟨b, o + j, none⟩ = some (.slice xa L xcap) ∧ w'.cell? ⟨g3, 7, none⟩ = some (.slice ra N rcap) ∧ w'.cell? ⟨lb, L, none⟩ = some (.int .i64 (-71)))
            (first | exact HSK.out _ (by repeat first | exact Ext.refl _ | assumption | refine Ext.drew ?_ | refine Ext.drewN ?_ _ | refine Ext.extBy ?_ _ | refine Ext.alloc ?_ _ | refine Ext.setCell ?_ (by simp; try omega) _ | (refine Ext.trans ?_ (by assumption))))
            (first
              | (go_at_call 32; refine (num21_any _ _).mono ?_; rintro e w8 ⟨rfl, rfl⟩)
              | (go_at_call 34; refine (HCE.out _ (by repeat first | exact Ext.refl _ | assumption | refine Ext.drew ?_ | refine Ext.drewN ?_ _ | refine Ext.extBy ?_ _ | refine Ext.alloc ?_ _ | refine Ext.setCell ?_ (by simp; try omega) _ | (refine Ext.trans ?_ (by assumption)))).mono ?_; rintro e w8 ⟨ua, ucap, rfl, hus, hx8⟩; have HUS := Lib.hid hus; clear hus)
              | (go_at_call 33; (first | (with_reducible refine (HSA.out _ (by repeat first | exact Ext.refl _ | assumption | refine Ext.drew ?_ | refine Ext.drewN ?_ _ | refine Ext.extBy ?_ _ | refine Ext.alloc ?_ _ | refine Ext.setCell ?_ (by simp; try omega) _ | (refine Ext.trans ?_ (by assumption)))).mono ?_) | (with_reducible refine (HSL.out _ (by repeat first | exact Ext.refl _ | assumption | refine Ext.drew ?_ | refine Ext.drewN ?_ _ | refine Ext.extBy ?_ _ | refine Ext.alloc ?_ _ | refine Ext.setCell ?_ (by simp; try omega) _ | (refine Ext.trans ?_ (by assumption)))).mono ?_) | (with_reducible refine (HSB.out _ _ _ HUS.out (by repeat first | exact Ext.refl _ | assumption | refine Ext.drew ?_ | refine Ext.drewN ?_ _ | refine Ext.extBy ?_ _ | refine Ext.alloc ?_ _ | refine Ext.setCell ?_ (by simp; try omega) _ | (refine Ext.trans ?_ (by assumption)))).mono ?_)); rintro e w9 ⟨rfl, hx9⟩))
          have hx10 : Ext w4 w9 := (by repeat first | exact Ext.refl _ | assumption | refine Ext.drew ?_ | refine Ext.drewN ?_ _ | refine Ext.extBy ?_ _ | refine Ext.alloc ?_ _ | refine Ext.setCell ?_ (by simp; try omega) _ | (refine Ext.trans ?_ (by assumption)))
          have HR9 : Hid (DuoR W c (.slice ka c.kinds.length kcap) (.slice ia c.init.length icap) (.slice ba c.body.length bcap) g1 W.heap.size g3 R.cells R.cells S1n S3n (.slice q1 R.outs.length q3) R.outs.length w9) := Lib.hid ⟨HV4.out.duo.more hx10, by obtain ⟨xs, h⟩ := HV4.out.row; exact ⟨xs, ownsRow_ext h hx10⟩, HV4.out.off⟩
          obtain ⟨M, hM⟩ : ∃ M, M = R.outs.length := ⟨_, rfl⟩
          have hMm : M ≤ 9223372036854775807 := by
            obtain ⟨-, capq, -, hq1, hq2, -⟩ := id HVS.out
            rw [hM]; exact Nat.le_trans hq1 hq2
          rw [← hM] at HR9 ⊢
          clear hM f4 HSX4 HV4 HVS hlast HLC hlbs hr7 hg3s hbs HSA HSL HCE HSB hcut HD4 HSK hL0 hL1 hL2
          generalize w9 = w11 at HR9 ⊢
          clear hx10 hx0 hx9
          go_wp2
          go_loopw [19] (fun i wr => ∃ q : Nat, q ≤ M ∧ i = .int .i64 q ∧ Hid (DuoR W c (.slice ka c.kinds.length kcap) (.slice ia c.init.length icap) (.slice ba c.body.length bcap) g1 W.heap.size g3 R.cells R.cells S1n S3n (.slice q1 M q3) M wr)) (fun i _ => M - (intOf i).toNat)
          case atStart => exact ⟨0, Nat.zero_le _, rfl, HR9⟩
          case round =>
            obtain ⟨q, hq, rfl, HRq⟩ := hrel
            clear HR9
            by_cases hqt : q < M
            · obtain ⟨xs, hp⟩ := HRq.out.row
              obtain ⟨g, cp, e1, -, -, hgl⟩ := ownsRow_some hp (Nat.lt_of_le_of_lt (Nat.zero_le _) hqt)
              simp only [Value.slice.injEq] at e1
              obtain ⟨rfl, -, rfl⟩ := e1
              obtain ⟨y0, hy0, hy1⟩ := own_room1 hp q hqt
              have hqi : (q : Int) < (M : Int) := Int.ofNat_lt.2 hqt
              clear hp
              go_wp2
              go_roundw
              case rel => exact ⟨q + 1, by omega, by go_num, Lib.hid (HRq.out.num HIW.out q hqt _)⟩
              case measure => simp [intOf]; omega
            · have hqi : ¬ (q : Int) < (M : Int) := fun e => hqt (Int.ofNat_lt.1 e)
              have HDn := Lib.hid HRq.out.duo
              clear HRq
              go_wp2
              go_roundw
              case rel => exact ⟨j + 1, _, _, _, by omega, by go_num, HDn⟩
              case measure => simp [intOf]; omega
        · have hji : ¬ (j : Int) < (n : Int) := fun e => hlt (Int.ofNat_lt.1 e)
          have HRS := Lib.hid (HDr.out.reset HIW.out HY.out.2.2.2.2.1 HY.out.2.2.2.2.2)
          clear HDr
          go_upto_region 27 with (go_at_call 35; refine HRS.out.mono ?_; rintro e w12 ⟨S1r, rfl, hdr⟩)
          have HDR := Lib.hid hdr
          have HSK : Hid (∀ w', Ext w12 w' → w'.cell? ⟨X, 5, none⟩ = some (.slice ia c.init.length icap)) := Lib.hid fun w' hx => ((HBX.out.ext HDR.out.ext).ext hx).cells 5 _ rfl
          have HCE : Hid (∀ w', Ext w12 w' → Calls Try.prog 34 #[.pointer (some ⟨g1, 0, none⟩)] w' fun e w1 => ∃ a cap, e = .returned (.slice a c.init.length cap) ∧ SlC w1 (.slice a c.init.length cap) c.init.length (i64s c.init) ∧ Ext w' w1) := Lib.hid fun w' hx => by
            refine (mcells (HDR.out.m.ext hx) HY.out.2.2.2.2.2).mono ?_
            rintro e w1 ⟨u, rfl, hu, hx1⟩
            obtain ⟨ua, ucap, rfl⟩ := own_n hu
            exact ⟨ua, ucap, rfl, SlC.of_owns hu, hx1⟩
          have HSB : Hid (∀ (w' : World) (ua : Option Addr) (ucap : Nat), SlC w' (.slice ua c.init.length ucap) c.init.length (i64s c.init) → Ext w12 w' → Calls Try.prog 33 #[.slice ua c.init.length ucap, .slice ia c.init.length icap] w' fun e w1 => e = .returned (.bool true) ∧ Ext w' w1) := Lib.hid fun w' ua ucap h1 hx => by
            have := same21_any c.init c.init _ _ w' h1 (HIW.out.init.ext (HDR.out.ext.trans hx))
            rwa [show decide (c.init = c.init) = true from decide_eq_true rfl] at this
          have hx0 : Ext w12 w12 := Ext.refl _
          clear hdr HRS
          go_region_held3 (fun w' => w'.cell? ⟨X, 5, none⟩ = some (.slice ia c.init.length icap))
            (first | exact HSK.out _ (by repeat first | exact Ext.refl _ | assumption | refine Ext.drew ?_ | refine Ext.drewN ?_ _ | refine Ext.extBy ?_ _ | refine Ext.alloc ?_ _ | refine Ext.setCell ?_ (by simp; try omega) _ | (refine Ext.trans ?_ (by assumption))))
            (first
              | (go_at_call 34; refine (HCE.out _ (by repeat first | exact Ext.refl _ | assumption | refine Ext.drew ?_ | refine Ext.drewN ?_ _ | refine Ext.extBy ?_ _ | refine Ext.alloc ?_ _ | refine Ext.setCell ?_ (by simp; try omega) _ | (refine Ext.trans ?_ (by assumption)))).mono ?_; rintro e w8 ⟨ua, ucap, rfl, hus, hx8⟩; have HUS := Lib.hid hus; clear hus)
              | (go_at_call 33; refine (HSB.out _ _ _ HUS.out (by repeat first | exact Ext.refl _ | assumption | refine Ext.drew ?_ | refine Ext.drewN ?_ _ | refine Ext.extBy ?_ _ | refine Ext.alloc ?_ _ | refine Ext.setCell ?_ (by simp; try omega) _ | (refine Ext.trans ?_ (by assumption)))).mono ?_; rintro e w9 ⟨rfl, hx9⟩))
          have hx10 : Ext w12 w9 := (by repeat first | exact Ext.refl _ | assumption | refine Ext.drew ?_ | refine Ext.drewN ?_ _ | refine Ext.extBy ?_ _ | refine Ext.alloc ?_ _ | refine Ext.setCell ?_ (by simp; try omega) _ | (refine Ext.trans ?_ (by assumption)))
          have HFI : Hid (MI g1 W.heap.size c c.init S1r w9 ∧ Ext W w9) := Lib.hid ⟨HDR.out.m.ext hx10, HDR.out.ext.trans hx10⟩
          go_wp2
          go_roundw
          case rel => exact ⟨k + 1, _, by omega, by go_num, HFI⟩
          case measure => simp [intOf]; omega
    · have hki : ¬ (k : Int) < 2 := by omega
      have hxr := HK.out.2
      have hxw := HE.out.trans hxr
      clear HK
      go_wp2
      go_ret
      exact ⟨rfl, hxw⟩
theorem execTicks_any (c : CodeV) (kv iv bv v : Value) (vs : List Value) (rs : List (List Int)) (w : World) (h : CodeIn w kv iv bv c) (wf : CodeWf c) (hr : RowsIn w v vs rs) (hI : ∀ r ∈ rs, ∀ n ∈ r, I64 n) (hsz : ∀ r ∈ rs, r.length ≤ 1000000000000000) :
    Calls Try.prog 12 #[codeA c kv iv bv, v] w fun e w' => e = .returned (.bool true) ∧ Ext w w' := by
  by_cases hb : bigV c = true ∨ bigR 0 rs = true ∨ 30 < rs.length
  · exact ticks_live c kv iv bv v vs rs w h hr hb
  · simp only [not_or, Bool.not_eq_true, Nat.not_lt] at hb
    by_cases hc : chk c = 0
    · exact ticks_good c kv iv bv v vs rs w h wf hr hI hb.1 hb.2.1 hb.2.2 hc (bigR_small rs 0 (Int.le_refl _) (by omega) hsz hb.2.1)
    · exact ticks_bad c kv iv bv v vs rs w h hr hb.1 hb.2.1 hb.2.2 hc
end Go.Proofs.Ytipfcfaigbeakaa

/-
  The law on runs: its walk.
  No condition.
-/
import Derived.Test.YtipfcfaigbeakaaRunsD
import Derived.Test.YtipfcfaigbeakaaExecTicks
namespace Go.Proofs.Ytipfcfaigbeakaa
open Go.RowKit
set_option linter.unusedSimpArgs false
set_option linter.unusedVariables false
set_option maxRecDepth 100000

set_option maxHeartbeats 4000000 in
theorem runs_live (c : CodeV) (kv iv bv v : Value) (vs : List Value) (rs : List (List Int)) (w : World) (h : CodeIn w kv iv bv c) (hr : RowsIn w v vs rs) (hb : bigV c = true ∨ bigR 0 rs = true) :
    Calls Try.prog 13 #[codeA c kv iv bv, v] w fun e w' => e = .returned (.bool true) ∧ Ext w w' := by
  have HL := LawC.of h
  have HB := Lib.hid HL.big
  have HG : Hid (∀ w', Ext w w' → Calls Try.prog 27 #[v] w' fun e w1 => e = .returned (.bool (bigR 0 rs)) ∧ Ext w' w1) := Lib.hid fun w' hx => big11_any (hr.ext hx)
  obtain ⟨b1, hb1⟩ : ∃ b, b = bigV c := ⟨_, rfl⟩
  obtain ⟨b2, hb2⟩ : ∃ b, b = bigR 0 rs := ⟨_, rfl⟩
  rw [← hb1] at HB hb
  rw [← hb2] at HG hb
  clear hb1 hb2 HL h hr
  simp only [codeA] at HB ⊢
  cases b1
  · obtain rfl : b2 = true := by
      rcases hb with h | h
      · cases h
      · exact h
    clear hb
    go_enter Try.func13, Try.ntmps13
    go_wp2_with (first | (go_at_call 26; refine (live21 _).mono ?_; rintro e w1 ⟨rfl, hx1⟩; (first | (with_reducible obtain ⟨t1, rfl⟩ := Ext.tok2 hx1) | (obtain ⟨t1, rfl⟩ := Ext.tok hx1))) | (go_at_call 16; refine (HB.out _ (by repeat first | exact Ext.refl _ | assumption | refine Ext.drew ?_ | refine Ext.drewN ?_ _ | refine Ext.extBy ?_ _ | refine Ext.alloc ?_ _ | refine Ext.setCell ?_ (by simp; try omega) _ | (refine Ext.trans ?_ (by assumption)))).mono ?_; rintro e w2 ⟨rfl, hx2⟩; (first | (with_reducible obtain ⟨t2, rfl⟩ := Ext.tok2 hx2) | (obtain ⟨t2, rfl⟩ := Ext.tok hx2))) | (go_at_call 27; refine (HG.out _ (by repeat first | exact Ext.refl _ | assumption | refine Ext.drew ?_ | refine Ext.drewN ?_ _ | refine Ext.extBy ?_ _ | refine Ext.alloc ?_ _ | refine Ext.setCell ?_ (by simp; try omega) _ | (refine Ext.trans ?_ (by assumption)))).mono ?_; rintro e w3 ⟨rfl, hx3⟩; (first | (with_reducible obtain ⟨t3, rfl⟩ := Ext.tok2 hx3) | (obtain ⟨t3, rfl⟩ := Ext.tok hx3))))
    go_ret
    exact ⟨rfl, (by repeat first | exact Ext.refl _ | assumption | refine Ext.drew ?_ | refine Ext.drewN ?_ _ | refine Ext.extBy ?_ _ | refine Ext.alloc ?_ _ | refine Ext.setCell ?_ (by simp; try omega) _ | (refine Ext.trans ?_ (by assumption)))⟩
  · clear hb
    go_enter Try.func13, Try.ntmps13
    go_wp2_with (first | (go_at_call 26; refine (live21 _).mono ?_; rintro e w1 ⟨rfl, hx1⟩; (first | (with_reducible obtain ⟨t1, rfl⟩ := Ext.tok2 hx1) | (obtain ⟨t1, rfl⟩ := Ext.tok hx1))) | (go_at_call 16; refine (HB.out _ (by repeat first | exact Ext.refl _ | assumption | refine Ext.drew ?_ | refine Ext.drewN ?_ _ | refine Ext.extBy ?_ _ | refine Ext.alloc ?_ _ | refine Ext.setCell ?_ (by simp; try omega) _ | (refine Ext.trans ?_ (by assumption)))).mono ?_; rintro e w2 ⟨rfl, hx2⟩; (first | (with_reducible obtain ⟨t2, rfl⟩ := Ext.tok2 hx2) | (obtain ⟨t2, rfl⟩ := Ext.tok hx2))))
    go_ret
    exact ⟨rfl, (by repeat first | exact Ext.refl _ | assumption | refine Ext.drew ?_ | refine Ext.drewN ?_ _ | refine Ext.extBy ?_ _ | refine Ext.alloc ?_ _ | refine Ext.setCell ?_ (by simp; try omega) _ | (refine Ext.trans ?_ (by assumption)))⟩
theorem bigR_few : ∀ (rs : List (List Int)) (k : Int), 0 ≤ k → k ≤ 2000 → (∀ r ∈ rs, r.length ≤ 1000000000000000) → bigR k rs = false → k + (rs.length : Int) ≤ 2000
  | [], k, _, h1, _, _ => by simpa using h1
  | a :: rs, k, h0, h1, hb, h => by
    rw [bigR, if_pos h1] at h
    have ha := hb a (List.mem_cons.2 (.inl rfl))
    rw [wrap64_id (x := k + 1) (by omega) (by omega), wrap64_id (by omega) (by omega)] at h
    have hk : k + 1 + (a.length : Int) ≤ 2000 := by
      by_cases hk : k + 1 + (a.length : Int) ≤ 2000
      · exact hk
      · cases rs with
        | nil => rw [bigR] at h; simp at h; omega
        | cons b rs => rw [bigR, if_neg hk] at h; cases h
    have := bigR_few rs _ (by omega) hk (fun r hr => hb r (List.mem_cons.2 (.inr hr))) h
    rw [List.length_cons]
    omega
set_option maxHeartbeats 8000000 in
theorem runs_good (c : CodeV) (kv iv bv v : Value) (vs : List Value) (rs : List (List Int)) (w : World) (h : CodeIn w kv iv bv c) (wf : CodeWf c) (hr : RowsIn w v vs rs) (hI : ∀ r ∈ rs, ∀ n ∈ r, I64 n) (hb1 : bigV c = false) (hb2 : bigR 0 rs = false) (hl : rs.length ≤ 2000) (hsz : ∀ r ∈ rs, r.length ≤ 2000) :
    Calls Try.prog 13 #[codeA c kv iv bv, v] w fun e w' => e = .returned (.bool true) ∧ Ext w w' := by
  have HL := LawC.of h
  have HB := Lib.hid HL.big
  have HG : Hid (∀ w', Ext w w' → Calls Try.prog 27 #[v] w' fun e w1 => e = .returned (.bool (bigR 0 rs)) ∧ Ext w' w1) := Lib.hid fun w' hx => big11_any (hr.ext hx)
  rw [hb1] at HB
  rw [hb2] at HG
  obtain ⟨G, hG⟩ : ∃ G, G = runsV c rs := ⟨_, rfl⟩
  have HLE : Hid (∀ w', Ext w w' → Calls Try.prog 36 #[v] w' fun e w2 => ∃ v' vs', e = .returned v' ∧ Hid (Full w' v' vs' rs w2)) := Lib.hid fun w' hx => (lent_any (hr.ext hx) hl hsz).mono fun e w2 ⟨v', vs', he, hf⟩ => ⟨v', vs', he, Lib.hid hf⟩
  have HER : Hid (∀ (w' : World) (v' : Value) (vs' : List Value), Ext w w' → RowsIn w' v' vs' rs → Calls Try.prog 37 #[codeA c kv iv bv, v'] w' fun e w2 => ∃ (u : Value) (us : List Value), e = .returned (.tuple #[u, .int .i64 G.1]) ∧ Hid (RowsIn w2 u us G.2) ∧ Ext w' w2) := Lib.hid fun w' v' vs' hx hr' => (execRun_any c kv iv bv v' vs' rs w' (h.ext hx) wf hr' hI).mono fun e w2 ⟨u, us, he, hu, hx2⟩ => ⟨u, us, by rw [hG]; exact he, Lib.hid (by rw [hG]; exact hu), hx2⟩
  have HRR : Hid (∀ w', Ext w w' → Calls Try.prog 38 #[codeA c kv iv bv, v] w' fun e w2 => ∃ (u : Value) (us : List Value), e = .returned (.tuple #[u, .int .i64 G.1]) ∧ Hid (RowsIn w2 u us G.2) ∧ Ext w' w2) := Lib.hid fun w' hx => (refRun_any c kv iv bv v vs rs w' (h.ext hx) wf (hr.ext hx) hI).mono fun e w2 ⟨u, us, he, hu, hx2⟩ => ⟨u, us, by rw [hG]; exact he, Lib.hid (by rw [hG]; exact hu), hx2⟩
  have HST : Hid (∀ (W w' : World) (fv : Value) (fs : List Value), Ext w w' → Full W fv fs rs w' → Calls Try.prog 39 #[fv, v] w' fun e w2 => e = .returned (.bool true) ∧ Ext w' w2) := Lib.hid fun W w' fv fs hx hf => stay_any (hr.ext hx) hf hl hsz
  have HSR : Hid (∀ (w' : World) (u u2 : Value) (us us2 : List Value), RowsIn w' u us G.2 → RowsIn w' u2 us2 G.2 → Calls Try.prog 40 #[u, u2] w' fun e w2 => e = .returned (.bool true) ∧ Ext w' w2) := Lib.hid fun w' u u2 us us2 h1 h2 => sameRows_any h1 h2
  obtain ⟨er, her⟩ : ∃ er, er = G.1 := ⟨_, rfl⟩
  rw [← her] at HER HRR
  clear hb1 hb2 HL h hr hG her hI hl hsz wf
  simp only [codeA] at HB HER HRR ⊢
  go_enter Try.func13, Try.ntmps13
  go_upto_region 5 with (first | (go_at_call 26; refine (live21 _).mono ?_; rintro e w1 ⟨rfl, hx1⟩; (first | (with_reducible obtain ⟨t1, rfl⟩ := Ext.tok2 hx1) | (obtain ⟨t1, rfl⟩ := Ext.tok hx1))) | (go_at_call 16; refine (HB.out _ (by repeat first | exact Ext.refl _ | assumption | refine Ext.drew ?_ | refine Ext.drewN ?_ _ | refine Ext.extBy ?_ _ | refine Ext.alloc ?_ _ | refine Ext.setCell ?_ (by simp; try omega) _ | (refine Ext.trans ?_ (by assumption)))).mono ?_; rintro e w2 ⟨rfl, hx2⟩; (first | (with_reducible obtain ⟨t2, rfl⟩ := Ext.tok2 hx2) | (obtain ⟨t2, rfl⟩ := Ext.tok hx2))) | (go_at_call 27; refine (HG.out _ (by repeat first | exact Ext.refl _ | assumption | refine Ext.drew ?_ | refine Ext.drewN ?_ _ | refine Ext.extBy ?_ _ | refine Ext.alloc ?_ _ | refine Ext.setCell ?_ (by simp; try omega) _ | (refine Ext.trans ?_ (by assumption)))).mono ?_; rintro e w3 ⟨rfl, hx3⟩; (first | (with_reducible obtain ⟨t3, rfl⟩ := Ext.tok2 hx3) | (obtain ⟨t3, rfl⟩ := Ext.tok hx3))))
  go_upto_region 6 with (go_at_call 36; refine (HLE.out _ (by repeat first | exact Ext.refl _ | assumption | refine Ext.drew ?_ | refine Ext.drewN ?_ _ | refine Ext.extBy ?_ _ | refine Ext.alloc ?_ _ | refine Ext.setCell ?_ (by simp; try omega) _ | (refine Ext.trans ?_ (by assumption)))).mono ?_; rintro e w4 ⟨fv, fs, rfl, HF⟩; have hx4 := HF.out.ext; have hr4 := HF.out.rows; (first | (with_reducible obtain ⟨t4, rfl⟩ := Ext.tok2 hx4) | (obtain ⟨t4, rfl⟩ := Ext.tok hx4)))
  have HR4 := Lib.hid hr4
  clear hr4
  go_upto_region 7 with (go_at_call 37; refine (HER.out _ _ _ (by repeat first | exact Ext.refl _ | assumption | refine Ext.drew ?_ | refine Ext.drewN ?_ _ | refine Ext.extBy ?_ _ | refine Ext.alloc ?_ _ | refine Ext.setCell ?_ (by simp; try omega) _ | (refine Ext.trans ?_ (by assumption))) HR4.out).mono ?_; rintro e w5 ⟨u5, us5, rfl, HU5, hx5⟩; have HF5 := Lib.hid (HF.out.more hx5); (first | (with_reducible obtain ⟨t5, rfl⟩ := Ext.tok2 hx5) | (obtain ⟨t5, rfl⟩ := Ext.tok hx5)))
  go_upto_region 8 with (go_at_call 38; refine (HRR.out _ (by repeat first | exact Ext.refl _ | assumption | refine Ext.drew ?_ | refine Ext.drewN ?_ _ | refine Ext.extBy ?_ _ | refine Ext.alloc ?_ _ | refine Ext.setCell ?_ (by simp; try omega) _ | (refine Ext.trans ?_ (by assumption)))).mono ?_; rintro e w6 ⟨u6, us6, rfl, HU6, hx6⟩; have HF6 := Lib.hid (HF5.out.more hx6); have HU5' := Lib.hid (HU5.out.ext hx6); (first | (with_reducible obtain ⟨t6, rfl⟩ := Ext.tok2 hx6) | (obtain ⟨t6, rfl⟩ := Ext.tok hx6)))
  go_wp2_with (first | (go_at_call 39; refine (HST.out _ _ _ _ (by repeat first | exact Ext.refl _ | assumption | refine Ext.drew ?_ | refine Ext.drewN ?_ _ | refine Ext.extBy ?_ _ | refine Ext.alloc ?_ _ | refine Ext.setCell ?_ (by simp; try omega) _ | (refine Ext.trans ?_ (by assumption))) HF6.out).mono ?_; rintro e w7 ⟨rfl, hx7⟩; have HS1 := Lib.hid (HU5'.out.ext hx7); have HS2 := Lib.hid (HU6.out.ext hx7); (first | (with_reducible obtain ⟨t7, rfl⟩ := Ext.tok2 hx7) | (obtain ⟨t7, rfl⟩ := Ext.tok hx7))) | (go_at_call 32; refine (num21_any _ _).mono ?_; rintro e w8 ⟨rfl, rfl⟩) | (go_at_call 40; refine (HSR.out _ _ _ _ _ HS1.out HS2.out).mono ?_; rintro e w9 ⟨rfl, hx9⟩; (first | (with_reducible obtain ⟨t9, rfl⟩ := Ext.tok2 hx9) | (obtain ⟨t9, rfl⟩ := Ext.tok hx9))))
  go_ret
  exact ⟨rfl, (by repeat first | exact Ext.refl _ | assumption | refine Ext.drew ?_ | refine Ext.drewN ?_ _ | refine Ext.extBy ?_ _ | refine Ext.alloc ?_ _ | refine Ext.setCell ?_ (by simp; try omega) _ | (refine Ext.trans ?_ (by assumption)))⟩
theorem execRuns_any (c : CodeV) (kv iv bv v : Value) (vs : List Value) (rs : List (List Int)) (w : World) (h : CodeIn w kv iv bv c) (wf : CodeWf c) (hr : RowsIn w v vs rs) (hI : ∀ r ∈ rs, ∀ n ∈ r, I64 n) (hsz : ∀ r ∈ rs, r.length ≤ 1000000000000000) :
    Calls Try.prog 13 #[codeA c kv iv bv, v] w fun e w' => e = .returned (.bool true) ∧ Ext w w' := by
  by_cases hb : bigV c = true ∨ bigR 0 rs = true
  · exact runs_live c kv iv bv v vs rs w h hr hb
  · simp only [not_or, Bool.not_eq_true] at hb
    have hl := bigR_few rs 0 (Int.le_refl _) (by omega) hsz hb.2
    exact runs_good c kv iv bv v vs rs w h wf hr hI hb.1 hb.2 (by omega) (bigR_small rs 0 (Int.le_refl _) (by omega) hsz hb.2)
end Go.Proofs.Ytipfcfaigbeakaa

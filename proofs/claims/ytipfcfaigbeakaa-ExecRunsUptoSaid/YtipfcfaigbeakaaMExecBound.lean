/-
  The law on how many instructions a tick runs: its walk.
  No condition.
-/
import Derived.Test.YtipfcfaigbeakaaJExecU
import Derived.Test.YtipfcfaigbeakaaJMost
import Derived.Test.YtipfcfaigbeakaaMCodeRefH
namespace Go.Proofs.Ytipfcfaigbeakaa
open Go.RowKit
set_option linter.unusedSimpArgs false
set_option linter.unusedVariables false
set_option maxRecDepth 100000

/-- What the laws on ticks begin with. -/
structure LawC (c : CodeV) (kv iv bv : Value) (w : World) : Prop where
  big : ∀ w', Ext w w' → Calls Try.prog 16 #[codeA c kv iv bv] w' fun e w1 => e = .returned (.bool (bigV c)) ∧ Ext w' w1
  chk : ∀ w', Ext w w' → Calls Try.prog 19 #[codeA c kv iv bv] w' fun e w1 => e = .returned (.int .i64 (chk c)) ∧ Ext w' w1
theorem LawC.of {c : CodeV} {kv iv bv : Value} {w : World} (h : CodeIn w kv iv bv c) : LawC c kv iv bv w :=
  ⟨fun w' hx => big_any c kv iv bv w' (h.ext hx), fun w' hx => refCheck_any c kv iv bv w' (h.ext hx)⟩
theorem new_mi {c : CodeV} {kv iv bv : Value} {w : World} (hg : GoodC c) (wf : CodeWf c) (h : CodeIn w kv iv bv c) :
    Calls Try.prog 28 #[codeA c kv iv bv] w fun e w' => ∃ g S, e = .returned (.tuple #[.pointer (some ⟨g, 0, none⟩), .int .i64 0]) ∧ MI g w.heap.size c c.init S w' ∧ Ext w w' := by
  refine (new_good c kv iv bv w h hg.chk).mono fun e w' hm => ?_
  obtain ⟨G, _⟩ := chk_fin hg.chk
  exact hm.mi (init_ok G wf.init)
set_option maxHeartbeats 4000000 in
theorem bound_live (c : CodeV) (kv iv bv v : Value) (vs : List Value) (rs : List (List Int)) (w : World) (h : CodeIn w kv iv bv c) (hr : RowsIn w v vs rs) (hb : bigV c = true ∨ bigR 0 rs = true ∨ 30 < rs.length ∨ chk c ≠ 0) :
    Calls Try.prog 14 #[codeA c kv iv bv, v] w fun e w' => e = .returned (.bool true) ∧ Ext w w' := by
  have HL := LawC.of h
  have HB := Lib.hid HL.big
  have HC := Lib.hid HL.chk
  have HG : Hid (∀ w', Ext w w' → Calls Try.prog 27 #[v] w' fun e w1 => e = .returned (.bool (bigR 0 rs)) ∧ Ext w' w1) := Lib.hid fun w' hx => big11_any (hr.ext hx)
  obtain ⟨x, hx⟩ : ∃ x, x = chk c := ⟨_, rfl⟩
  obtain ⟨b1, hb1⟩ : ∃ b, b = bigV c := ⟨_, rfl⟩
  obtain ⟨b2, hb2⟩ : ∃ b, b = bigR 0 rs := ⟨_, rfl⟩
  obtain ⟨n, hn⟩ : ∃ n, n = rs.length := ⟨_, rfl⟩
  obtain ⟨a, cap, rfl, h1, h2, -⟩ := id hr.top
  have hw := nat64 h1 h2
  rw [← hx] at HC hb
  rw [← hb1] at HB hb
  rw [← hb2] at HG hb
  rw [← hn] at hb hw h1 HG ⊢
  unfold maxLen at h2
  clear hx hb1 hb2 HL h hr hn
  simp only [codeA] at HC HB ⊢
  cases b1
  · cases b2
    · by_cases h30 : 30 < n
      · clear hb
        go_enter Try.func14, Try.ntmps14
        go_wp2_with (first | (go_at_call 26; refine (live21 _).mono ?_; rintro e w1 ⟨rfl, hx1⟩; (first | (with_reducible obtain ⟨t1, rfl⟩ := Ext.tok2 hx1) | (obtain ⟨t1, rfl⟩ := Ext.tok hx1))) | (go_at_call 16; refine (HB.out _ (by repeat first | exact Ext.refl _ | assumption | refine Ext.drew ?_ | refine Ext.drewN ?_ _ | refine Ext.extBy ?_ _ | refine Ext.alloc ?_ _ | refine Ext.setCell ?_ (by simp; try omega) _ | (refine Ext.trans ?_ (by assumption)))).mono ?_; rintro e w2 ⟨rfl, hx2⟩; (first | (with_reducible obtain ⟨t2, rfl⟩ := Ext.tok2 hx2) | (obtain ⟨t2, rfl⟩ := Ext.tok hx2))) | (go_at_call 27; refine (HG.out _ (by repeat first | exact Ext.refl _ | assumption | refine Ext.drew ?_ | refine Ext.drewN ?_ _ | refine Ext.extBy ?_ _ | refine Ext.alloc ?_ _ | refine Ext.setCell ?_ (by simp; try omega) _ | (refine Ext.trans ?_ (by assumption)))).mono ?_; rintro e w3 ⟨rfl, hx3⟩; (first | (with_reducible obtain ⟨t3, rfl⟩ := Ext.tok2 hx3) | (obtain ⟨t3, rfl⟩ := Ext.tok hx3))) | (go_at_call 19; refine (HC.out _ (by repeat first | exact Ext.refl _ | assumption | refine Ext.drew ?_ | refine Ext.drewN ?_ _ | refine Ext.extBy ?_ _ | refine Ext.alloc ?_ _ | refine Ext.setCell ?_ (by simp; try omega) _ | (refine Ext.trans ?_ (by assumption)))).mono ?_; rintro e w3 ⟨rfl, hx3⟩; (first | (with_reducible obtain ⟨t3, rfl⟩ := Ext.tok2 hx3) | (obtain ⟨t3, rfl⟩ := Ext.tok hx3))))
        go_ret
        exact ⟨rfl, (by repeat first | exact Ext.refl _ | assumption | refine Ext.drew ?_ | refine Ext.drewN ?_ _ | refine Ext.extBy ?_ _ | refine Ext.alloc ?_ _ | refine Ext.setCell ?_ (by simp; try omega) _ | (refine Ext.trans ?_ (by assumption)))⟩
      · have hx0 : (x != 0) = true := by
          rcases hb with h | h | h | h
          · cases h
          · cases h
          · exact absurd h h30
          · simpa using h
        clear hb
        go_enter Try.func14, Try.ntmps14
        go_wp2_with (first | (go_at_call 26; refine (live21 _).mono ?_; rintro e w1 ⟨rfl, hx1⟩; (first | (with_reducible obtain ⟨t1, rfl⟩ := Ext.tok2 hx1) | (obtain ⟨t1, rfl⟩ := Ext.tok hx1))) | (go_at_call 16; refine (HB.out _ (by repeat first | exact Ext.refl _ | assumption | refine Ext.drew ?_ | refine Ext.drewN ?_ _ | refine Ext.extBy ?_ _ | refine Ext.alloc ?_ _ | refine Ext.setCell ?_ (by simp; try omega) _ | (refine Ext.trans ?_ (by assumption)))).mono ?_; rintro e w2 ⟨rfl, hx2⟩; (first | (with_reducible obtain ⟨t2, rfl⟩ := Ext.tok2 hx2) | (obtain ⟨t2, rfl⟩ := Ext.tok hx2))) | (go_at_call 27; refine (HG.out _ (by repeat first | exact Ext.refl _ | assumption | refine Ext.drew ?_ | refine Ext.drewN ?_ _ | refine Ext.extBy ?_ _ | refine Ext.alloc ?_ _ | refine Ext.setCell ?_ (by simp; try omega) _ | (refine Ext.trans ?_ (by assumption)))).mono ?_; rintro e w3 ⟨rfl, hx3⟩; (first | (with_reducible obtain ⟨t3, rfl⟩ := Ext.tok2 hx3) | (obtain ⟨t3, rfl⟩ := Ext.tok hx3))) | (go_at_call 19; refine (HC.out _ (by repeat first | exact Ext.refl _ | assumption | refine Ext.drew ?_ | refine Ext.drewN ?_ _ | refine Ext.extBy ?_ _ | refine Ext.alloc ?_ _ | refine Ext.setCell ?_ (by simp; try omega) _ | (refine Ext.trans ?_ (by assumption)))).mono ?_; rintro e w3 ⟨rfl, hx3⟩; (first | (with_reducible obtain ⟨t3, rfl⟩ := Ext.tok2 hx3) | (obtain ⟨t3, rfl⟩ := Ext.tok hx3))))
        go_ret
        exact ⟨rfl, (by repeat first | exact Ext.refl _ | assumption | refine Ext.drew ?_ | refine Ext.drewN ?_ _ | refine Ext.extBy ?_ _ | refine Ext.alloc ?_ _ | refine Ext.setCell ?_ (by simp; try omega) _ | (refine Ext.trans ?_ (by assumption)))⟩
    · clear hb
      go_enter Try.func14, Try.ntmps14
      go_wp2_with (first | (go_at_call 26; refine (live21 _).mono ?_; rintro e w1 ⟨rfl, hx1⟩; (first | (with_reducible obtain ⟨t1, rfl⟩ := Ext.tok2 hx1) | (obtain ⟨t1, rfl⟩ := Ext.tok hx1))) | (go_at_call 16; refine (HB.out _ (by repeat first | exact Ext.refl _ | assumption | refine Ext.drew ?_ | refine Ext.drewN ?_ _ | refine Ext.extBy ?_ _ | refine Ext.alloc ?_ _ | refine Ext.setCell ?_ (by simp; try omega) _ | (refine Ext.trans ?_ (by assumption)))).mono ?_; rintro e w2 ⟨rfl, hx2⟩; (first | (with_reducible obtain ⟨t2, rfl⟩ := Ext.tok2 hx2) | (obtain ⟨t2, rfl⟩ := Ext.tok hx2))) | (go_at_call 27; refine (HG.out _ (by repeat first | exact Ext.refl _ | assumption | refine Ext.drew ?_ | refine Ext.drewN ?_ _ | refine Ext.extBy ?_ _ | refine Ext.alloc ?_ _ | refine Ext.setCell ?_ (by simp; try omega) _ | (refine Ext.trans ?_ (by assumption)))).mono ?_; rintro e w3 ⟨rfl, hx3⟩; (first | (with_reducible obtain ⟨t3, rfl⟩ := Ext.tok2 hx3) | (obtain ⟨t3, rfl⟩ := Ext.tok hx3))))
      go_ret
      exact ⟨rfl, (by repeat first | exact Ext.refl _ | assumption | refine Ext.drew ?_ | refine Ext.drewN ?_ _ | refine Ext.extBy ?_ _ | refine Ext.alloc ?_ _ | refine Ext.setCell ?_ (by simp; try omega) _ | (refine Ext.trans ?_ (by assumption)))⟩
  · clear hb
    go_enter Try.func14, Try.ntmps14
    go_wp2_with (first | (go_at_call 26; refine (live21 _).mono ?_; rintro e w1 ⟨rfl, hx1⟩; (first | (with_reducible obtain ⟨t1, rfl⟩ := Ext.tok2 hx1) | (obtain ⟨t1, rfl⟩ := Ext.tok hx1))) | (go_at_call 16; refine (HB.out _ (by repeat first | exact Ext.refl _ | assumption | refine Ext.drew ?_ | refine Ext.drewN ?_ _ | refine Ext.extBy ?_ _ | refine Ext.alloc ?_ _ | refine Ext.setCell ?_ (by simp; try omega) _ | (refine Ext.trans ?_ (by assumption)))).mono ?_; rintro e w2 ⟨rfl, hx2⟩; (first | (with_reducible obtain ⟨t2, rfl⟩ := Ext.tok2 hx2) | (obtain ⟨t2, rfl⟩ := Ext.tok hx2))))
    go_ret
    exact ⟨rfl, (by repeat first | exact Ext.refl _ | assumption | refine Ext.drew ?_ | refine Ext.drewN ?_ _ | refine Ext.extBy ?_ _ | refine Ext.alloc ?_ _ | refine Ext.setCell ?_ (by simp; try omega) _ | (refine Ext.trans ?_ (by assumption)))⟩
/-- What the law asks of a tick. -/
def BoundT (w0 : World) (c : CodeV) (g B : Nat) (M : Int) (e : Ending) (w' : World) : Prop :=
  ∃ (v : Value) (cs : List Int) (S : List Nat) (nn er : Int), e = .returned (.tuple #[v, .int .i64 nn, .int .i64 er]) ∧ (er = 0 ∧ 1 ≤ nn ∧ nn ≤ M ∨ er ≠ 0 ∧ nn = 0) ∧ MI g B c cs S w' ∧ Ext w0 w'
theorem bound_tick {w0 w : World} {c : CodeV} {g B : Nat} {cs ins : List Int} {S : List Nat} {insv : Value} (hg : GoodC c) (h : MI g B c cs S w) (hx : Ext w0 w) (hB : w0.heap.size ≤ B) (hins : SlC w0 insv ins.length (i64s ins)) (hI : ∀ x ∈ ins, I64 x) :
    Calls Try.prog 30 #[.pointer (some ⟨g, 0, none⟩), insv] w (BoundT w0 c g B ((mostL c.body).getD 0 0)) := by
  refine (mtick hg h (hins.ext hx) hI (fun hne k hk e => by
    have := hins.lt (by simpa using hne) k e
    have := (h.lt k hk).1
    omega)).mono ?_
  rintro e w5 ⟨v, S1', base, rfl, hm, hk, hS', hb, hown, hv⟩
  have hT := tick_kinds hg h.cok hI
  refine ⟨v, _, S1', _, _, rfl, ?_, hm, hk.ext hx (fun k hk1 => Nat.le_trans hB (h.lt k hk1).1)⟩
  by_cases h0 : (tickV c cs ins).err = 0
  · exact .inl ⟨h0, by have := (hT.2.1 h0).1; omega, tick_most hg h.cok hI⟩
  · exact .inr ⟨h0, by rw [(hT.2.2.1 h0).1]; rfl⟩
set_option maxHeartbeats 4000000 in
theorem bound_good (c : CodeV) (kv iv bv v : Value) (vs : List Value) (rs : List (List Int)) (w : World) (h : CodeIn w kv iv bv c) (wf : CodeWf c) (hr : RowsIn w v vs rs) (hI : ∀ r ∈ rs, ∀ n ∈ r, I64 n) (hb1 : bigV c = false) (hb2 : bigR 0 rs = false) (h30 : rs.length ≤ 30) (hc : chk c = 0) :
    Calls Try.prog 14 #[codeA c kv iv bv, v] w fun e w' => e = .returned (.bool true) ∧ Ext w w' := by
  have hg : GoodC c := ⟨hc, wf.body⟩
  have HL := LawC.of h
  have HB := Lib.hid HL.big
  have HC := Lib.hid HL.chk
  have HG : Hid (∀ w', Ext w w' → Calls Try.prog 27 #[v] w' fun e w1 => e = .returned (.bool (bigR 0 rs)) ∧ Ext w' w1) := Lib.hid fun w' hx => big11_any (hr.ext hx)
  have HNW : Hid (∀ w', Ext w w' → Calls Try.prog 28 #[codeA c kv iv bv] w' fun e w2 => ∃ g S B, e = .returned (.tuple #[.pointer (some ⟨g, 0, none⟩), .int .i64 0]) ∧ w.heap.size ≤ B ∧ MI g B c c.init S w2 ∧ Ext w' w2) := Lib.hid fun w' hx => (new_mi hg wf (h.ext hx)).mono fun e w2 ⟨g, S, he, hm, hx2⟩ => ⟨g, S, _, he, hx.size, hm, hx2⟩
  have HMO : Hid (∀ w', Ext w w' → Calls Try.prog 41 #[codeA c kv iv bv] w' fun e w2 => e = .returned (.tuple #[.int .i64 ((mostL c.body).getD 0 0), .int .i64 0]) ∧ Ext w' w2) := Lib.hid fun w' hx => most_any c kv iv bv w' (h.ext hx) hc
  obtain ⟨M, hM⟩ : ∃ M, M = (mostL c.body).getD 0 0 := ⟨_, rfl⟩
  rw [← hM] at HMO
  obtain ⟨n, hn⟩ : ∃ n, n = rs.length := ⟨_, rfl⟩
  have HR := Lib.hid hr
  obtain ⟨a, cap, rfl, h1, h2, htc⟩ := id hr.top
  have HT := Lib.hid htc
  have hw := nat64 h1 h2
  rw [hc] at HC
  rw [hb1] at HB
  rw [hb2] at HG
  rw [← hn] at hw h1 h30 HG ⊢
  unfold maxLen at h2
  have HY := Lib.hid (And.intro hg (And.intro hI (And.intro hM hn)))
  clear hb1 hb2 HL h hr hn hM hc hI hg htc wf
  simp only [codeA] at HC HB HNW HMO ⊢
  go_enter Try.func14, Try.ntmps14
  go_upto_region 5 with (first | (go_at_call 26; refine (live21 _).mono ?_; rintro e w1 ⟨rfl, hx1⟩; (first | (with_reducible obtain ⟨t1, rfl⟩ := Ext.tok2 hx1) | (obtain ⟨t1, rfl⟩ := Ext.tok hx1))) | (go_at_call 16; refine (HB.out _ (by repeat first | exact Ext.refl _ | assumption | refine Ext.drew ?_ | refine Ext.drewN ?_ _ | refine Ext.extBy ?_ _ | refine Ext.alloc ?_ _ | refine Ext.setCell ?_ (by simp; try omega) _ | (refine Ext.trans ?_ (by assumption)))).mono ?_; rintro e w2 ⟨rfl, hx2⟩; (first | (with_reducible obtain ⟨t2, rfl⟩ := Ext.tok2 hx2) | (obtain ⟨t2, rfl⟩ := Ext.tok hx2))) | (go_at_call 27; refine (HG.out _ (by repeat first | exact Ext.refl _ | assumption | refine Ext.drew ?_ | refine Ext.drewN ?_ _ | refine Ext.extBy ?_ _ | refine Ext.alloc ?_ _ | refine Ext.setCell ?_ (by simp; try omega) _ | (refine Ext.trans ?_ (by assumption)))).mono ?_; rintro e w3 ⟨rfl, hx3⟩; (first | (with_reducible obtain ⟨t3, rfl⟩ := Ext.tok2 hx3) | (obtain ⟨t3, rfl⟩ := Ext.tok hx3))) | (go_at_call 19; refine (HC.out _ (by repeat first | exact Ext.refl _ | assumption | refine Ext.drew ?_ | refine Ext.drewN ?_ _ | refine Ext.extBy ?_ _ | refine Ext.alloc ?_ _ | refine Ext.setCell ?_ (by simp; try omega) _ | (refine Ext.trans ?_ (by assumption)))).mono ?_; rintro e w3 ⟨rfl, hx3⟩; (first | (with_reducible obtain ⟨t3, rfl⟩ := Ext.tok2 hx3) | (obtain ⟨t3, rfl⟩ := Ext.tok hx3))))
  go_upto_region 6 with (go_at_call 28; refine (HNW.out _ (by repeat first | exact Ext.refl _ | assumption | refine Ext.drew ?_ | refine Ext.drewN ?_ _ | refine Ext.extBy ?_ _ | refine Ext.alloc ?_ _ | refine Ext.setCell ?_ (by simp; try omega) _ | (refine Ext.trans ?_ (by assumption)))).mono ?_; rintro e w4 ⟨g, S, B, rfl, hB, hmi, hx4⟩; (first | (with_reducible obtain ⟨t4, rfl⟩ := Ext.tok2 hx4) | (obtain ⟨t4, rfl⟩ := Ext.tok hx4)))
  have HBB : Hid (w.heap.size ≤ B) := Lib.hid hB
  clear hB
  go_upto_region 7 with (go_at_call 41; refine (HMO.out _ (by repeat first | exact Ext.refl _ | assumption | refine Ext.drew ?_ | refine Ext.drewN ?_ _ | refine Ext.extBy ?_ _ | refine Ext.alloc ?_ _ | refine Ext.setCell ?_ (by simp; try omega) _ | (refine Ext.trans ?_ (by assumption)))).mono ?_; rintro e w5 ⟨rfl, hx5⟩; replace hmi := hmi.ext hx5; (first | (with_reducible obtain ⟨t5, rfl⟩ := Ext.tok2 hx5) | (obtain ⟨t5, rfl⟩ := Ext.tok hx5)))
  have HMI := Lib.hid hmi
  have hE := ((Ext.refl w).alloc (.cells #[kv, .int .i64 c.ins, .int .i64 c.outs, .int .i64 c.cells, .int .i64 c.stack, iv, bv] 25)).extBy t5
  clear hmi
  go_wp2_with (go_at_call 32; refine (num21_any _ _).mono ?_; rintro e w6 ⟨rfl, rfl⟩)
  go_loopw [11] (fun i wr => ∃ (j : Nat) (cs : List Int) (S : List Nat), j ≤ n ∧ i = .int .i64 j ∧ Ext w wr ∧ Hid (MI g B c cs S wr)) (fun i _ => n - (intOf i).toNat)
  case atStart => exact ⟨0, _, _, Nat.zero_le _, rfl, hE, HMI⟩
  case round =>
    obtain ⟨j, cs, S', hj, rfl, hxr, HMr⟩ := hrel
    clear HMI hE
    by_cases hlt : j < n
    · obtain ⟨x, r, hx, hr, hs⟩ := HR.out.at (j := j) (by have := HY.out.2.2.2; omega)
      obtain ⟨b, o, rfl, g1⟩ := HT.out j x hx
      have z1 : b < w.heap.size := World.block_lt_of_cell? w _ g1
      have HTK := Lib.hid (bound_tick HY.out.1 HMr.out hxr HBB.out hs (fun z hz => HY.out.2.1 r (List.mem_of_getElem? hr) z hz))
      rw [← HY.out.2.2.1] at HTK
      obtain ⟨a', cap', rfl, -⟩ := hs
      clear hx hr HMr
      obtain ⟨t1, rfl⟩ := hxr.tok
      clear hxr
      go_upto_region 13 with (go_at_call 30; refine HTK.out.mono ?_; rintro e w6 ⟨v6, cs6, S6, nn, er, rfl, hor, hm6, hx6⟩; have HOR := Lib.hid hor; have HM6 := Lib.hid hm6; have HX6 := Lib.hid hx6; clear hor hm6 hx6)
      clear HTK
      obtain ⟨t6, rfl⟩ := HX6.out.tok
      rcases HOR.out with ⟨rfl, hn1, hn2⟩ | ⟨her, rfl⟩
      · go_wp2_with (go_at_call 32; refine (num21_any _ _).mono ?_; rintro e w6 ⟨rfl, rfl⟩)
        go_roundw
        case rel => exact ⟨j + 1, cs6, S6, by omega, by go_num, (by repeat first | exact Ext.refl _ | assumption | refine Ext.drew ?_ | refine Ext.drewN ?_ _ | refine Ext.extBy ?_ _ | refine Ext.alloc ?_ _ | refine Ext.setCell ?_ (by simp; try omega) _ | (refine Ext.trans ?_ (by assumption))), HM6⟩
        case measure => simp [intOf]; omega
      · have her' : (er == 0) = false := by simpa using her
        go_wp2_with (go_at_call 32; refine (num21_any _ _).mono ?_; rintro e w6 ⟨rfl, rfl⟩)
        go_roundw
        case rel => exact ⟨j + 1, cs6, S6, by omega, by go_num, (by repeat first | exact Ext.refl _ | assumption | refine Ext.drew ?_ | refine Ext.drewN ?_ _ | refine Ext.extBy ?_ _ | refine Ext.alloc ?_ _ | refine Ext.setCell ?_ (by simp; try omega) _ | (refine Ext.trans ?_ (by assumption))), HM6⟩
        case measure => simp [intOf]; omega
    · obtain ⟨t1, rfl⟩ := hxr.tok
      clear hxr
      go_wp2
      go_ret
      exact ⟨rfl, (by repeat first | exact Ext.refl _ | assumption | refine Ext.drew ?_ | refine Ext.drewN ?_ _ | refine Ext.extBy ?_ _ | refine Ext.alloc ?_ _ | refine Ext.setCell ?_ (by simp; try omega) _ | (refine Ext.trans ?_ (by assumption)))⟩
theorem execBound_any (c : CodeV) (kv iv bv v : Value) (vs : List Value) (rs : List (List Int)) (w : World) (h : CodeIn w kv iv bv c) (wf : CodeWf c) (hr : RowsIn w v vs rs) (hI : ∀ r ∈ rs, ∀ n ∈ r, I64 n) :
    Calls Try.prog 14 #[codeA c kv iv bv, v] w fun e w' => e = .returned (.bool true) ∧ Ext w w' := by
  by_cases hb : bigV c = true ∨ bigR 0 rs = true ∨ 30 < rs.length ∨ chk c ≠ 0
  · exact bound_live c kv iv bv v vs rs w h hr hb
  · simp only [not_or, Bool.not_eq_true, Nat.not_lt, Decidable.not_not, ne_eq] at hb
    exact bound_good c kv iv bv v vs rs w h wf hr hI hb.1 hb.2.1 hb.2.2.1 hb.2.2.2
end Go.Proofs.Ytipfcfaigbeakaa

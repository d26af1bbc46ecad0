/-
  Runs of code: the machine's and the document's.
  Conditions: the code is code, the rows lie in memory.
-/
import Derived.Test.YtipfcfaigbeakaaRunsC
import Derived.Test.YtipfcfaigbeakaaMExecBound
namespace Go.Proofs.Ytipfcfaigbeakaa
open Go.RowKit
set_option linter.unusedSimpArgs false
set_option linter.unusedVariables false
set_option maxRecDepth 100000

/-- What a run of code tells. -/
def runsV (c : CodeV) (rs : List (List Int)) : Int × List (List Int) := if chk c = 0 then if 1000 < rs.length then (2, []) else goV c c.init [] rs else (40, [])
set_option maxHeartbeats 4000000 in
theorem execRun_any (c : CodeV) (kv iv bv v : Value) (vs : List Value) (rs : List (List Int)) (w : World) (h : CodeIn w kv iv bv c) (wf : CodeWf c) (hr : RowsIn w v vs rs) (hI : ∀ r ∈ rs, ∀ n ∈ r, I64 n) :
    Calls Try.prog 37 #[codeA c kv iv bv, v] w (RunP w (runsV c rs)) := by
  obtain ⟨G, hG⟩ : ∃ G, G = runsV c rs := ⟨_, rfl⟩
  rw [← hG]
  obtain ⟨Q, hQ⟩ : ∃ Q, Q = RunP w G := ⟨_, rfl⟩
  rw [← hQ]
  have HQ := Lib.hid hQ
  have HR := Lib.hid hr
  obtain ⟨a, cap, e, h1, h2, -⟩ := id hr.top
  have hnm := Nat.le_trans h1 h2
  unfold maxLen at hnm
  by_cases hc : chk c = 0
  · have hg : GoodC c := ⟨hc, wf.body⟩
    have HN : Hid (∀ w', Ext w w' → Calls Try.prog 28 #[codeA c kv iv bv] w' fun e w2 => ∃ g S B, e = .returned (.tuple #[.pointer (some ⟨g, 0, none⟩), .int .i64 0]) ∧ Hid (w.heap.size ≤ B ∧ MI g B c c.init S w2) ∧ Ext w' w2) := Lib.hid fun w' hx => (new_mi hg wf (h.ext hx)).mono fun e w2 ⟨g, S, he, hm, hx2⟩ => ⟨g, S, _, he, Lib.hid ⟨hx.size, hm⟩, hx2⟩
    simp only [codeA] at HN ⊢
    by_cases hn : 1000 < rs.length
    · have HG : Hid (G = (2, [])) := Lib.hid (by rw [hG]; unfold runsV; rw [if_pos hc, if_pos hn])
      subst e
      obtain ⟨n, hnn⟩ : ∃ n, n = rs.length := ⟨_, rfl⟩
      rw [← hnn] at hn hnm ⊢
      clear hG hQ hr hI hc hg wf h hnn h1 h2
      go_enter Try.func37, Try.ntmps37
      go_wp2_with (go_at_call 28; refine (HN.out _ (by repeat first | exact Ext.refl _ | assumption | refine Ext.drew ?_ | refine Ext.drewN ?_ _ | refine Ext.extBy ?_ _ | refine Ext.alloc ?_ _ | refine Ext.setCell ?_ (by simp; try omega) _ | (refine Ext.trans ?_ (by assumption)))).mono ?_; rintro e w4 ⟨g, S, B, rfl, HM, hx4⟩)
      have hE : Ext w w4 := (by repeat first | exact Ext.refl _ | assumption | refine Ext.drew ?_ | refine Ext.drewN ?_ _ | refine Ext.extBy ?_ _ | refine Ext.alloc ?_ _ | refine Ext.setCell ?_ (by simp; try omega) _ | (refine Ext.trans ?_ (by assumption)))
      (try go_ret2)
      rw [HQ.out]
      exact RunP.no hE HG.out
    · have HG : Hid (G = goV c c.init [] rs) := Lib.hid (by rw [hG]; unfold runsV; rw [if_pos hc, if_neg hn])
      have HT : Hid (∀ (g B : Nat) (S : List Nat) (w2 : World), w.heap.size ≤ B → MI g B c c.init S w2 → Ext w w2 → Calls Try.prog 63 #[.func (.func 30) #[.pointer (some ⟨g, 0, none⟩)] #[], v] w2 (RunP w G)) := Lib.hid fun g B S w2 hB hm hx => by rw [HG.out]; exact ticks_any hg hm hB hx hr hI (by omega)
      subst e
      obtain ⟨n, hnn⟩ : ∃ n, n = rs.length := ⟨_, rfl⟩
      rw [← hnn] at hn hnm HT ⊢
      clear hG hQ hr hI hc hg wf h hnn h1 h2
      go_enter Try.func37, Try.ntmps37
      go_upto_region 2 with (go_at_call 28; refine (HN.out _ (by repeat first | exact Ext.refl _ | assumption | refine Ext.drew ?_ | refine Ext.drewN ?_ _ | refine Ext.extBy ?_ _ | refine Ext.alloc ?_ _ | refine Ext.setCell ?_ (by simp; try omega) _ | (refine Ext.trans ?_ (by assumption)))).mono ?_; rintro e w4 ⟨g, S, B, rfl, HM, hx4⟩)
      have HTT := Lib.hid (HT.out g B S w4 HM.out.1 HM.out.2 (by repeat first | exact Ext.refl _ | assumption | refine Ext.drew ?_ | refine Ext.drewN ?_ _ | refine Ext.extBy ?_ _ | refine Ext.alloc ?_ _ | refine Ext.setCell ?_ (by simp; try omega) _ | (refine Ext.trans ?_ (by assumption))))
      clear hx4
      go_wp2_with (go_at_call 63; refine HTT.out.mono ?_; rintro e w5 ⟨v5, vs5, rfl, hr5, hx5⟩; have HR5 := Lib.hid hr5; have HX5 := Lib.hid hx5; clear hr5 hx5)
      (try go_ret2)
      rw [HQ.out]
      exact ⟨_, _, rfl, HR5.out, HX5.out⟩
  · have HN : Hid (∀ w', Ext w w' → Calls Try.prog 28 #[codeA c kv iv bv] w' fun e w1 => e = .returned (.tuple #[.pointer none, .int .i64 40]) ∧ Ext w' w1) := Lib.hid fun w' hx => new_bad c kv iv bv w' (h.ext hx) hc
    have HG : Hid (G = (40, [])) := Lib.hid (by rw [hG]; unfold runsV; rw [if_neg hc])
    simp only [codeA] at HN ⊢
    clear hG hQ hr hI hc wf h h1 h2 hnm e
    go_enter Try.func37, Try.ntmps37
    go_wp2_with (go_at_call 28; refine (HN.out _ (by repeat first | exact Ext.refl _ | assumption | refine Ext.drew ?_ | refine Ext.drewN ?_ _ | refine Ext.extBy ?_ _ | refine Ext.alloc ?_ _ | refine Ext.setCell ?_ (by simp; try omega) _ | (refine Ext.trans ?_ (by assumption)))).mono ?_; rintro e w4 ⟨rfl, hx4⟩)
    have hE : Ext w w4 := (by repeat first | exact Ext.refl _ | assumption | refine Ext.drew ?_ | refine Ext.drewN ?_ _ | refine Ext.extBy ?_ _ | refine Ext.alloc ?_ _ | refine Ext.setCell ?_ (by simp; try omega) _ | (refine Ext.trans ?_ (by assumption)))
    (try go_ret2)
    rw [HQ.out]
    exact RunP.no hE HG.out
section
variable {W w w2 : World} {ov ov2 x insv kv iv bv : Value} {vs : List Value} {os : List (List Int)} {S : List Nat} {r ins cs : List Int} {c : CodeV} {g : Nat}
/-- What the document's run keeps. -/
structure RTickL (W : World) (c : CodeV) (kv iv bv : Value) (g : Nat) (cs : List Int) (vs : List Value) (os : List (List Int)) (S : List Nat) (ov : Value) (w : World) : Prop where
  m : RI g c kv iv bv cs S w
  outs : OutsA W ov vs os [g] S w
  low : ∀ k ∈ S, W.heap.size ≤ k
def RTickLP (W : World) (c : CodeV) (kv iv bv : Value) (g : Nat) (R : TickV) (vs : List Value) (os : List (List Int)) (ov : Value) (e : Ending) (w' : World) : Prop :=
  ∃ (v : Value) (S' : List Nat), e = .returned (.tuple #[v, .int .i64 R.n, .int .i64 R.err]) ∧ Hid (RTickL W c kv iv bv g R.cells vs os S' ov w' ∧ w'.ownsRow W.heap.size 3 1 v R.outs.length (i64s R.outs) ∧ (∀ b, v.ownBlock = some b → b ∉ [g] ∧ ov.ownBlock ≠ some b))
theorem RTickL.tick (hg : GoodC c) (h : RTickL W c kv iv bv g cs vs os S ov w) (hins : SlC W insv ins.length (i64s ins)) (hI : ∀ x ∈ ins, I64 x) :
    Calls Try.prog 31 #[.pointer (some ⟨g, 0, none⟩), insv] w (RTickLP W c kv iv bv g (tickV c cs ins) vs os ov) := by
  refine (rtick hg h.m (hins.ext h.outs.ext) hI).mono ?_
  rintro e w5 ⟨v, S', rfl, hm, hk, hS', hown⟩
  have hgl := h.m.lt.2 g h.m.lt.1
  refine ⟨v, S', rfl, Lib.hid ⟨⟨hm, h.outs.tick hk (fun k hk1 => ⟨hk1, by rw [List.mem_singleton.1 hk1]; exact h.m.lt.1, by rw [List.mem_singleton.1 hk1]; exact h.low g h.m.lt.1⟩) (fun k hk1 => .inl hk1) hS', fun k hk1 => ?_⟩, ownsRow_base hown h.outs.ext.size, fun b hb1 => ⟨fun e => ?_, fun e => ?_⟩⟩⟩
  · rcases hS' k hk1 with e | e
    · exact h.low k e
    · exact Nat.le_trans h.outs.ext.size e
  · have := (hown.lt b hb1).1
    rw [List.mem_singleton.1 e] at this
    omega
  · have := (hown.lt b hb1).1
    have := (h.outs.top.lt b e).2
    omega
theorem RTickL.push (h : RTickL W c kv iv bv g cs vs os S ov w) (hc : CodeIn W kv iv bv c) (hx : w.ownsRow W.heap.size 3 1 x r.length (i64s r)) (hoff : ∀ b, x.ownBlock = some b → b ∉ [g] ∧ ov.ownBlock ≠ some b) {o : Obj}
    (hg : (w.alloc o).grownBy w2 ov.ownBlock) (hown : w2.ownsRow W.heap.size 22 1 ov2 (vs.length + 1) (vs ++ [x])) (hat : ov2.ownBlock = ov.ownBlock ∨ ov2.ownBlock = some (w.alloc o).heap.size) : RTickL W c kv iv bv g cs (vs ++ [x]) (os ++ [r]) S ov2 w2 := by
  obtain ⟨ho, hk⟩ := h.outs.push hx (Nat.le_refl _) hoff (fun k hk => by rw [List.mem_singleton.1 hk]; exact h.m.lt.2 g h.m.lt.1) (fun k hk => h.m.lt.2 k hk) hg hown hat
  exact ⟨h.m.kb hk (fun k hk1 hk2 => h.outs.off k (Option.mem_toList.1 hk2) hk1) (hc.ext ho.ext), ho, h.low⟩
end
set_option maxHeartbeats 4000000 in
theorem refRun_any (c : CodeV) (kv iv bv v : Value) (vs : List Value) (rs : List (List Int)) (w : World) (h : CodeIn w kv iv bv c) (wf : CodeWf c) (hr : RowsIn w v vs rs) (hI : ∀ r ∈ rs, ∀ n ∈ r, I64 n) :
    Calls Try.prog 38 #[codeA c kv iv bv, v] w (RunP w (runsV c rs)) := by
  obtain ⟨G, hG⟩ : ∃ G, G = runsV c rs := ⟨_, rfl⟩
  rw [← hG]
  obtain ⟨Q, hQ⟩ : ∃ Q, Q = RunP w G := ⟨_, rfl⟩
  rw [← hQ]
  have HQ := Lib.hid hQ
  have HC := Lib.hid (LawC.of h).chk
  have HFT : Hid (∀ w', Ext w w' → Calls Try.prog 64 #[.slice none 0 0, v] w' fun e w1 => ∃ x : Int, e = .returned (.int .i64 x) ∧ (x = 2 ↔ 1000 < rs.length) ∧ Ext w' w1) := Lib.hid fun w' hx => fits_any (hr.ext hx)
  have HR := Lib.hid hr
  have HIN := Lib.hid h
  obtain ⟨ka, kcap, rfl, -⟩ := id h.kinds
  obtain ⟨ia, icap, rfl, -⟩ := id h.init
  obtain ⟨ba, bcap, rfl, -⟩ := id h.body
  obtain ⟨a, cap, rfl, h1, h2, htc⟩ := id hr.top
  have HT := Lib.hid htc
  obtain ⟨n, hnn⟩ : ∃ n, n = rs.length := ⟨_, rfl⟩
  by_cases hc : chk c = 0
  · have hg : GoodC c := ⟨hc, wf.body⟩
    obtain ⟨s1, s2, s3⟩ := chk_sizes hc
    obtain ⟨G', -⟩ := chk_fin hc
    have hcok := init_ok G' wf.init
    rw [hc] at HC
    have HRN : Hid (∀ w', Ext w w' → Calls Try.prog 29 #[codeA c (.slice ka c.kinds.length kcap) (.slice ia c.init.length icap) (.slice ba c.body.length bcap)] w' fun e w2 => ∃ g S, e = .returned (.pointer (some ⟨g, 0, none⟩)) ∧ Hid (RI g c (.slice ka c.kinds.length kcap) (.slice ia c.init.length icap) (.slice ba c.body.length bcap) c.init S w2 ∧ (∀ k ∈ S, w.heap.size ≤ k)) ∧ Ext w' w2) := Lib.hid fun w' hx => (refNew_any c _ _ _ w' (h.ext hx) (by omega)).mono fun e w2 hm => by
      obtain ⟨g, S, he, h1, h2, h3⟩ := hm.ri (h.ext hx) hcok
      exact ⟨g, S, he, Lib.hid ⟨h1, fun k hk => Nat.le_trans hx.size (h2 k hk)⟩, h3⟩
    have HY := Lib.hid (And.intro hg (And.intro hI hnn))
    simp only [codeA] at HC HRN ⊢
    by_cases hn : 1000 < rs.length
    · have HG : Hid (G = (2, [])) := Lib.hid (by rw [hG]; unfold runsV; rw [if_pos hc, if_pos hn])
      rw [← hnn] at hn HFT ⊢
      clear hG hQ hr hI hc hg wf h hnn h1 h2 htc s1 s2 s3 G' hcok
      go_enter Try.func38, Try.ntmps38
      go_wp2_with (first | (go_at_call 19; refine (HC.out _ (by repeat first | exact Ext.refl _ | assumption | refine Ext.drew ?_ | refine Ext.drewN ?_ _ | refine Ext.extBy ?_ _ | refine Ext.alloc ?_ _ | refine Ext.setCell ?_ (by simp; try omega) _ | (refine Ext.trans ?_ (by assumption)))).mono ?_; rintro e w4 ⟨rfl, hx4⟩; (first | (with_reducible obtain ⟨t4, rfl⟩ := Ext.tok2 hx4) | (obtain ⟨t4, rfl⟩ := Ext.tok hx4))) | (go_at_call 64; refine (HFT.out _ (by repeat first | exact Ext.refl _ | assumption | refine Ext.drew ?_ | refine Ext.drewN ?_ _ | refine Ext.extBy ?_ _ | refine Ext.alloc ?_ _ | refine Ext.setCell ?_ (by simp; try omega) _ | (refine Ext.trans ?_ (by assumption)))).mono ?_; rintro e w5 ⟨x, rfl, hx2, hx5⟩; obtain rfl : x = 2 := hx2.2 hn; (first | (with_reducible obtain ⟨t5, rfl⟩ := Ext.tok2 hx5) | (obtain ⟨t5, rfl⟩ := Ext.tok hx5))))
      (try go_ret2)
      rw [HQ.out]
      exact RunP.no (by repeat first | exact Ext.refl _ | assumption | refine Ext.drew ?_ | refine Ext.drewN ?_ _ | refine Ext.extBy ?_ _ | refine Ext.alloc ?_ _ | refine Ext.setCell ?_ (by simp; try omega) _ | (refine Ext.trans ?_ (by assumption))) HG.out
    · have HG0 : Hid (goV c c.init [] (rs.drop 0) = G) := Lib.hid (by rw [hG]; unfold runsV; rw [if_pos hc, if_neg hn, List.drop_zero])
      rw [← hnn] at hn HFT ⊢
      replace hn : n ≤ 1000 := by omega
      clear hG hQ hr hI hc hg wf h hnn h1 h2 htc s1 s2 s3 G' hcok
      go_enter Try.func38, Try.ntmps38
      go_upto_region 4 with (first | (go_at_call 19; refine (HC.out _ (by repeat first | exact Ext.refl _ | assumption | refine Ext.drew ?_ | refine Ext.drewN ?_ _ | refine Ext.extBy ?_ _ | refine Ext.alloc ?_ _ | refine Ext.setCell ?_ (by simp; try omega) _ | (refine Ext.trans ?_ (by assumption)))).mono ?_; rintro e w4 ⟨rfl, hx4⟩; (first | (with_reducible obtain ⟨t4, rfl⟩ := Ext.tok2 hx4) | (obtain ⟨t4, rfl⟩ := Ext.tok hx4))) | (go_at_call 64; refine (HFT.out _ (by repeat first | exact Ext.refl _ | assumption | refine Ext.drew ?_ | refine Ext.drewN ?_ _ | refine Ext.extBy ?_ _ | refine Ext.alloc ?_ _ | refine Ext.setCell ?_ (by simp; try omega) _ | (refine Ext.trans ?_ (by assumption)))).mono ?_; rintro e w5 ⟨x, rfl, hx2, hx5⟩; have hx2' : (x == 2) = false := by (have : x ≠ 2 := fun e => absurd (hx2.1 e) (by omega)); simpa using this))
      clear hx2
      (first | (with_reducible obtain ⟨t5, rfl⟩ := Ext.tok2 hx5) | (obtain ⟨t5, rfl⟩ := Ext.tok hx5))
      go_upto_region 7 with (go_at_call 29; refine (HRN.out _ (by repeat first | exact Ext.refl _ | assumption | refine Ext.drew ?_ | refine Ext.drewN ?_ _ | refine Ext.extBy ?_ _ | refine Ext.alloc ?_ _ | refine Ext.setCell ?_ (by simp; try omega) _ | (refine Ext.trans ?_ (by assumption)))).mono ?_; rintro e w6 ⟨g, S0, rfl, HRI, hx6⟩)
      have hE6 : Ext w w6 := (by repeat first | exact Ext.refl _ | assumption | refine Ext.drew ?_ | refine Ext.drewN ?_ _ | refine Ext.extBy ?_ _ | refine Ext.alloc ?_ _ | refine Ext.setCell ?_ (by simp; try omega) _ | (refine Ext.trans ?_ (by assumption)))
      have HL0 : Hid (RTickL w c (.slice ka c.kinds.length kcap) (.slice ia c.init.length icap) (.slice ba c.body.length bcap) g c.init [] [] S0 (.slice none 0 0) w6) := Lib.hid ⟨HRI.out.1, ⟨hE6, own_nil _ _ _ _, rfl, fun j x r h1 => by simp at h1, fun b hb => by simp [Value.ownBlock] at hb⟩, HRI.out.2⟩
      clear hE6 hx6 HRI
      generalize w6 = W at HL0 ⊢
      go_wp2
      go_loopw [8, 9] (fun o i wr => ∃ (j : Nat) (us : List Value) (os : List (List Int)) (cs : List Int) (S : List Nat), j ≤ n ∧ i = .int .i64 j ∧ Hid (RTickL w c (.slice ka c.kinds.length kcap) (.slice ia c.init.length icap) (.slice ba c.body.length bcap) g cs us os S o wr) ∧ Hid (goV c cs os (rs.drop j) = G) ∧ us.length = j ∧ ∃ x y z, o = .slice x y z) (fun _ i _ => n - (intOf i).toNat)
      case atStart => exact ⟨0, [], [], _, _, Nat.zero_le _, rfl, HL0, HG0, rfl, _, _, _, rfl⟩
      case round =>
        obtain ⟨j, us, os, cs, S, hj, rfl, HL, HG, hul, oa, ol, oc, rfl⟩ := hrel
        clear HL0 HG0
        by_cases hlt : j < n
        · obtain ⟨x, r, hx, hr, hs⟩ := HR.out.at (j := j) (by have := HY.out.2.2; omega)
          obtain ⟨b, o, rfl, f0⟩ := HT.out j x hx
          have f1 := HL.out.outs.ext.cell f0
          have HTK := Lib.hid (HL.out.tick HY.out.1 hs (HY.out.2.1 r (List.mem_of_getElem? hr)))
          have hji : (j : Int) < (n : Int) := Int.ofNat_lt.2 hlt
          obtain ⟨a', cap', rfl, -⟩ := hs
          obtain ⟨R, hR⟩ : ∃ R, R = tickV c cs r := ⟨_, rfl⟩
          rw [← hR] at HTK
          have HRV := Lib.hid hR
          have HRJ := Lib.hid hr
          clear hx hr hR f0 HL
          go_upto_region 12 with (go_at_call 31; refine HTK.out.mono ?_; rintro e w5 ⟨v5, S5, rfl, HT5⟩)
          obtain ⟨er, her⟩ : ∃ er, er = R.err := ⟨_, rfl⟩
          rw [← her]
          have HER := Lib.hid her
          obtain ⟨vn, hvn⟩ : ∃ k, k = (R.n : Int) := ⟨_, rfl⟩
          obtain ⟨va, vc, rfl⟩ := own_n HT5.out.2.1
          have HTOP := Lib.hid HT5.out.1.outs.top
          have hos := HT5.out.1.outs.ext.size
          clear her hvn f1 HTK
          by_cases h0 : er = 0
          · subst h0
            have HG2 : Hid (goV c R.cells (os ++ [R.outs]) (rs.drop (j + 1)) = G) := Lib.hid (by rw [← HG.out, HRV.out]; exact (goV_step HRJ.out (by rw [← HRV.out]; exact HER.out.symm)).symm)
            go_wp2_with (at_builtin; (refine wpList_append_slc _ rfl (.tmp 41) (.tmp 43) 51 rfl w.heap.size 22 (.slice none 0 0) 1 24 Try.underlying51 infoInts rfl (by decide) (.slice oa ol oc) us.length us rfl (ownsRow_ext HTOP.out (by repeat first | exact Ext.refl _ | assumption | refine Ext.drew ?_ | refine Ext.drewN ?_ _ | refine Ext.extBy ?_ _ | refine Ext.alloc ?_ _ | refine Ext.setCell ?_ (by simp; try omega) _ | (refine Ext.trans ?_ (by assumption)))) _ 1 [.slice va R.outs.length vc] rfl (SlC.fresh _ #[.slice va R.outs.length vc] _ 1 _ (by simp) (by decide)) rfl (by simp [Value.oneCell']) (by unfold maxLen; omega) (by omega) (by simp; omega) ?_; intro v3 w3 hown3 hg3 hat3; have HP := Lib.hid (HT5.out.1.push HIN.out HT5.out.2.1 HT5.out.2.2 hg3 hown3 hat3); have HS3 := Lib.hid (own_slice3 hown3); clear hown3 hg3 hat3))
            go_roundw
            case rel => exact ⟨j + 1, _, _, _, _, by omega, by go_num, HP, HG2, by simp [hul], HS3.out⟩
            case measure => simp [intOf]; omega
          · have he : (er != 0) = true := by simpa using h0
            have HG2 : Hid (G = (er, [])) := Lib.hid (by rw [← HG.out, goV_stop HRJ.out (by rw [← HRV.out, ← HER.out]; exact h0), ← HRV.out, ← HER.out])
            have hxe := HT5.out.1.outs.ext
            clear h0
            go_wp2
            (try go_ret2)
            rw [HQ.out]
            exact RunP.no hxe HG2.out
        · have hji : ¬ (j : Int) < (n : Int) := fun e => hlt (Int.ofNat_lt.1 e)
          have HG2 : Hid (G = (0, os)) := Lib.hid (by rw [← HG.out, List.drop_of_length_le (by have := HY.out.2.2; omega), goV])
          have HRI := Lib.hid HL.out.outs.rows
          have hxe := HL.out.outs.ext
          clear HL
          go_wp2
          (try go_ret2)
          rw [HQ.out]
          exact RunP.yes HG2.out HRI.out hxe
  · have HG : Hid (G = (40, [])) := Lib.hid (by rw [hG]; unfold runsV; rw [if_neg hc])
    obtain ⟨ch, hch⟩ : ∃ x, x = chk c := ⟨_, rfl⟩
    rw [← hch] at HC hc
    have hcb : (ch != 0) = true := by simpa using hc
    simp only [codeA] at HC ⊢
    clear hG hQ hr hI hc wf h h1 h2 htc hch
    go_enter Try.func38, Try.ntmps38
    go_wp2_with (go_at_call 19; refine (HC.out _ (by repeat first | exact Ext.refl _ | assumption | refine Ext.drew ?_ | refine Ext.drewN ?_ _ | refine Ext.extBy ?_ _ | refine Ext.alloc ?_ _ | refine Ext.setCell ?_ (by simp; try omega) _ | (refine Ext.trans ?_ (by assumption)))).mono ?_; rintro e w4 ⟨rfl, hx4⟩; (first | (with_reducible obtain ⟨t4, rfl⟩ := Ext.tok2 hx4) | (obtain ⟨t4, rfl⟩ := Ext.tok hx4)))
    (try go_ret2)
    rw [HQ.out]
    exact RunP.no (by repeat first | exact Ext.refl _ | assumption | refine Ext.drew ?_ | refine Ext.drewN ?_ _ | refine Ext.extBy ?_ _ | refine Ext.alloc ?_ _ | refine Ext.setCell ?_ (by simp; try omega) _ | (refine Ext.trans ?_ (by assumption))) HG.out
end Go.Proofs.Ytipfcfaigbeakaa

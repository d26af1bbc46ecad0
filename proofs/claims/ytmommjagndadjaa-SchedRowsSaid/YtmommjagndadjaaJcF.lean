/-
  The walk: each goes over an expression's parts.
  Condition: the expression lies in memory.
  The walk: whether a name is a variable's, its kind; whether all kinds are kinds; the parts of all expressions.
  Condition: the program and its checker lie in memory.
  The walk: the parts of all expressions are asked.
  Condition: the program and its checker lie in memory.
  The walk: what is asked of an expression's parts: names, forms.
  Condition: the program and its checker lie in memory.
  The walk: whether an equation is missing.
  Condition: the program and its checker lie in memory.
  The walk: whether a name is there twice.
  Condition: the program and its checker lie in memory.
-/
import Derived.Test.YtmommjagndadjaaJcE
import Derived.Test.YtmommjagndadjaaJcB
namespace Go.Proofs.Ytmommjagndadjaa
open Go.RowKit
set_option linter.unusedSimpArgs false
set_option linter.unusedVariables false
set_option maxRecDepth 100000

set_option maxHeartbeats 8000000 in
theorem ceach_at {σ : Type} (W0 : World) (S : List Nat) (St : σ → World → Prop) (step : σ → CE → σ × Bool) (fn : FuncId) (caps : Array Value) (HC : CloP W0 S St step fn caps) :
    ∀ (N : Nat) (e : CE), SizeOf.sizeOf e < N → ∀ (kv : Value) (a : σ) (w : World), Ext W0 w → St a w → KIn W0 e kv → okE e →
    Calls Try.prog 45 #[eVal e kv, .func (.func fn) #[] caps] w (RetB S St (gpE step e a) w) := by
  intro N
  induction N with
  | zero => intro e h; omega
  | succ N ih =>
    intro e hN kv a w hx hst hk hok
    have HIH := Lib.hid ih
    have HW := Lib.hid (And.intro HC (And.intro hN (And.intro hx (And.intro hst (And.intro hk hok)))))
    obtain ⟨R, hR⟩ : ∃ R, R = gpE step e a := ⟨_, rfl⟩
    rw [← hR]
    obtain ⟨Q, hQ⟩ : ∃ Q, Q = RetB S St R w := ⟨_, rfl⟩
    rw [← hQ]
    have HQ := Lib.hid hQ
    have HR := Lib.hid hR
    obtain ⟨p, c, rfl, hkc, hcm⟩ := hk.slice
    obtain ⟨n, hn⟩ : ∃ n, n = e.kids.length := ⟨_, rfl⟩
    rw [← hn] at hkc ⊢
    have hcI : (c : Int) ≤ 9223372036854775807 := by unfold maxLen at hcm; omega
    clear hcm
    have HN := Lib.hid hn
    obtain ⟨f, hf⟩ : ∃ f, f = e.form := ⟨_, rfl⟩
    obtain ⟨s, hs⟩ : ∃ s, s = e.sub := ⟨_, rfl⟩
    obtain ⟨k, hk2⟩ : ∃ s, s = e.kind := ⟨_, rfl⟩
    obtain ⟨nn, hnn⟩ : ∃ s, s = e.n := ⟨_, rfl⟩
    obtain ⟨nm, hnm⟩ : ∃ s, s = e.name := ⟨_, rfl⟩
    have HE := Lib.hid (show eVal e (.slice p n c) = .agg #[.int .i64 f, .int .i64 s, .int .i64 k, .int .i64 nn, .string nm, .slice p n c] by rw [hf, hs, hk2, hnn, hnm]; rfl)
    rw [HE.out]
    have hcf := HC.enter
    clear hQ hR hn hf hs hk2 hnn hnm hx hst hk hok hN HC ih
    go_enter Try.func45, Try.ntmps45
    go_upto_region 1 with fail
    have hbx : BoxV w.heap.size [.int .i64 f, .int .i64 s, .int .i64 k, .int .i64 nn, .string nm, .slice p n c] (w.alloc (.cells #[.int .i64 f, .int .i64 s, .int .i64 k, .int .i64 nn, .string nm, .slice p n c] 33)) := BoxV.of_row (heap_alloc_last w _)
    have hxb : Ext w (w.alloc (.cells #[.int .i64 f, .int .i64 s, .int .i64 k, .int .i64 nn, .string nm, .slice p n c] 33)) := (Ext.refl w).alloc _
    have hXS : w.heap.size ∉ S := fun e1 => absurd (HW.out.1.lts a w HW.out.2.2.2.1 _ e1) (Nat.lt_irrefl _)
    generalize w.alloc (.cells #[.int .i64 f, .int .i64 s, .int .i64 k, .int .i64 nn, .string nm, .slice p n c] 33) = wb at hbx hxb ⊢
    generalize w.heap.size = X at hbx hXS ⊢
    have HB := Lib.hid (And.intro hbx (And.intro hxb hXS))
    have p0 := hbx.cells 0 _ rfl
    have p1 := hbx.cells 1 _ rfl
    have p2 := hbx.cells 2 _ rfl
    have p3 := hbx.cells 3 _ rfl
    have p4 := hbx.cells 4 _ rfl
    have p5 := hbx.cells 5 _ rfl
    have hxl := hbx.lt
    obtain ⟨r, hr⟩ : ∃ r, r = step a e := ⟨_, rfl⟩
    have HF : Hid (Calls Try.prog fn (#[.agg #[.int .i64 f, .int .i64 s, .int .i64 k, .int .i64 nn, .string nm, .slice p n c]] ++ caps) wb (RetB S St r wb)) := Lib.hid (by
      have h1 := HW.out.2.2.2.2
      have h2 := HE.out
      rw [HN.out] at h2
      rw [hr, HN.out, ← h2]
      exact HW.out.1.call a wb e _ (HW.out.2.2.1.trans hxb) (HW.out.1.st a w wb HW.out.2.2.2.1 hxb) h1.1 h1.2)
    clear hbx hxb hXS
    have HRr := Lib.hid hr
    clear hr
    rcases r with ⟨a1, ok⟩
    cases ok with
    | false =>
      go_upto_region 2 with first | (refine HF.out.mono ?_; rintro e1 w1 ⟨rfl, H1⟩) | fail
      go_wp2
      rw [HQ.out]
      have h1 := gpE_no HRr.out
      rw [HR.out, h1]
      exact ⟨rfl, Lib.hid ⟨(Kb.of_ext HB.out.2.1).trans H1.out.1, H1.out.2⟩⟩
    | true =>
      go_upto_region 2 with first | (refine HF.out.mono ?_; rintro e1 w1 ⟨rfl, H1⟩; have q5 := H1.out.1.cell HB.out.2.2 p5; have hxl1 : X < w1.heap.size := Nat.lt_of_lt_of_le hxl H1.out.1.size) | fail
      go_wp2
      have hE1 : R = gpL step e.kids a1 := by
        rw [HR.out, gpE_yes HRr.out]
      have HE1 := Lib.hid hE1
      clear hE1
      go_loopw [14] (fun i wr => ∃ (k : Nat) (a' : σ), k ≤ n ∧ i = .int .i64 (k : Int) ∧ Hid (Kb S w1 wr ∧ St a' wr) ∧ Hid (R = gpL step (e.kids.drop k) a')) (fun i _ => n - (intOf i).toNat)
      case atStart => exact ⟨0, a1, Nat.zero_le _, rfl, Lib.hid ⟨Kb.refl _ _, H1.out.2⟩, Lib.hid (by rw [HE1.out]; rfl)⟩
      case round =>
        obtain ⟨j, a', hj, rfl, HS, HRR⟩ := hrel
        by_cases hlt : j < n
        · have hki : (j : Int) < (n : Int) := Int.ofNat_lt.2 hlt
          obtain ⟨x, hx⟩ : ∃ x, e.kids[j]? = some x := ⟨_, List.getElem?_eq_getElem (by have := HN.out; omega)⟩
          have hxw : Ext W0 wr := HS.out.1.ext (H1.out.1.ext (HW.out.2.2.1.trans HB.out.2.1) HW.out.1.off) HW.out.1.off
          have hkw := HW.out.2.2.2.2.1
          rw [← HN.out] at hkw
          obtain ⟨-, -, -, b, o, xv, rfl, hkx, c0, c1, c2, c3, c4, c5, hbl⟩ := hkw.at hx
          replace c0 := hxw.cell c0
          replace c1 := hxw.cell c1
          replace c2 := hxw.cell c2
          replace c3 := hxw.cell c3
          replace c4 := hxw.cell c4
          replace c5 := hxw.cell c5
          replace hbl := Nat.lt_of_lt_of_le hbl hxw.size
          have hjc : j < c := by omega
          obtain ⟨q, d, rfl, -, -⟩ := hkx.slice
          obtain ⟨m, hm⟩ : ∃ m, m = x.kids.length := ⟨_, rfl⟩
          have HX := Lib.hid (And.intro hx (And.intro hxw (And.intro hkx hm)))
          have HEX := Lib.hid (show eVal x (.slice q x.kids.length d) = .agg #[.int .i64 x.form, .int .i64 x.sub, .int .i64 x.kind, .int .i64 x.n, .string x.name, .slice q m d] by rw [hm]; rfl)
          rw [← hm] at c5
          clear hx hxw hkx hkw hm
          go_upto_region 6 with fail
          obtain ⟨r2, hr2⟩ : ∃ r2, r2 = gpE step x a' := ⟨_, rfl⟩
          have HR2 := Lib.hid hr2
          have hxa : Ext wr (wr.alloc (.cells #[.int .i64 x.form, .int .i64 x.sub, .int .i64 x.kind, .int .i64 x.n, .string x.name, .slice q m d] 33)) := (Ext.refl wr).alloc _
          have HXA := Lib.hid hxa
          have HF2 : Hid (Calls Try.prog 45 #[.agg #[.int .i64 x.form, .int .i64 x.sub, .int .i64 x.kind, .int .i64 x.n, .string x.name, .slice q m d], .func (.func fn) #[] caps] (wr.alloc (.cells #[.int .i64 x.form, .int .i64 x.sub, .int .i64 x.kind, .int .i64 x.n, .string x.name, .slice q m d] 33)) (RetB S St r2 (wr.alloc (.cells #[.int .i64 x.form, .int .i64 x.sub, .int .i64 x.kind, .int .i64 x.n, .string x.name, .slice q m d] 33)))) := Lib.hid (by
            rw [hr2, ← HEX.out]
            have hk1 := HX.out.2.2.1
            have hs1 := CE.size_kids e
            have hs2 := size_at HX.out.1
            have hN := HW.out.2.1
            refine HIH.out x (by omega) _ a' _ (HX.out.2.1.trans hxa) (HW.out.1.st a' _ _ HS.out.2 hxa) HX.out.2.2.1 (HW.out.2.2.2.2.2.kids.at HX.out.1))
          clear hr2 hxa
          rcases r2 with ⟨a2, ok2⟩
          cases ok2 with
          | false =>
            go_wp2_with (first | (go_at_call 45; refine HF2.out.mono ?_; rintro e1 w2 ⟨rfl, H2⟩) | fail)
            rw [HQ.out]
            have h1 : R = (a2, false) := by rw [HRR.out, gpL_no HX.out.1 HR2.out]
            rw [h1]
            exact ⟨rfl, Lib.hid ⟨(((Kb.of_ext HB.out.2.1).trans H1.out.1).trans HS.out.1).trans ((Kb.of_ext HXA.out).trans H2.out.1), H2.out.2⟩⟩
          | true =>
            go_wp2_with (first | (go_at_call 45; refine HF2.out.mono ?_; rintro e1 w2 ⟨rfl, H2⟩) | fail)
            refine ⟨⟨j + 1, a2, by omega, by go_num, Lib.hid ⟨HS.out.1.trans ((Kb.of_ext HXA.out).trans H2.out.1), H2.out.2⟩, Lib.hid ?_⟩, by simp [intOf]; omega⟩
            rw [HRR.out, gpL_yes HX.out.1 HR2.out]
        · have hki : ¬ (j : Int) < (n : Int) := fun e => hlt (Int.ofNat_lt.1 e)
          obtain rfl : j = n := by omega
          go_wp2
          rw [HQ.out]
          have h1 : R = (a', true) := by rw [HRR.out, gpL_end HN.out]
          rw [h1]
          exact ⟨rfl, Lib.hid ⟨((Kb.of_ext HB.out.2.1).trans H1.out.1).trans HS.out.1, HS.out.2⟩⟩
/-- Parts: all parts, with a state. -/
theorem ceach_any {σ : Type} {W0 : World} {S : List Nat} {St : σ → World → Prop} {step : σ → CE → σ × Bool} {fn : FuncId} {caps : Array Value} (HC : CloP W0 S St step fn caps) {e : CE} {kv : Value} {a : σ} {w : World} (hx : Ext W0 w) (hs : St a w) (hk : KIn W0 e kv) (hok : okE e) :
    Calls Try.prog 45 #[eVal e kv, .func (.func fn) #[] caps] w (RetB S St (gpE step e a) w) :=
  ceach_at W0 S St step fn caps HC _ e (Nat.lt_succ_self _) kv a w hx hs hk hok
end Go.Proofs.Ytmommjagndadjaa
namespace Go.Proofs.Ytmommjagndadjaa
open Go.RowKit Go.Maps
set_option linter.unusedSimpArgs false
set_option linter.unusedVariables false
set_option maxRecDepth 100000

def RetX (b : Bool) (w : World) (e : Ending) (w' : World) : Prop := e = .returned (.bool b) ∧ Hid (Ext w w')
set_option maxHeartbeats 4000000 in
theorem cthere_any {W0 : World} {x : S4} {X M D : Nat} {t : TQ} {d : DT} {w : World} (h : KC W0 x X M D t d w) (n : ByteArray) (hn : n.size ≤ maxLen) :
    Calls Try.prog 53 #[.pointer (some ⟨X, 0, none⟩), .string n] w (RetX (thereT t.vt n) w) := by
  obtain ⟨R, hR⟩ : ∃ R, R = thereT t.vt n := ⟨_, rfl⟩
  rw [← hR]
  obtain ⟨Q, hQ⟩ : ∃ Q, Q = RetX R w := ⟨_, rfl⟩
  rw [← hQ]
  have HQ := Lib.hid hQ
  have HR := Lib.hid hR
  obtain ⟨nm, k, p, m, c, hrun⟩ := h.there hn
  rw [← hR] at hrun
  have g4 := h.box.cells 4 _ rfl
  have gl := h.box.lt
  clear hQ hR h hn HR
  go_enter Try.func53, Try.ntmps53
  go_wp2
  rw [HQ.out]
  exact ⟨rfl, Lib.hid ((Ext.refl w).alloc _)⟩
set_option maxHeartbeats 8000000 in
theorem ckinds2_any {W0 : World} {c : CP} {x : S4} {X M D : Nat} {t : TQ} {d : DT} {w : World} (hc : CPIn W0 c x) (h : KC W0 x X M D t d w) (hl : c.ins.length ≤ 100000 ∧ c.outs.length ≤ 100000 ∧ c.locals.length ≤ 100000) :
    Calls Try.prog 33 #[.pointer (some ⟨X, 0, none⟩)] w (RetX (kindsC c) w) := by
  obtain ⟨R, hR⟩ : ∃ R, R = kindsC c := ⟨_, rfl⟩
  rw [← hR]
  obtain ⟨Q, hQ⟩ : ∃ Q, Q = RetX R w := ⟨_, rfl⟩
  rw [← hQ]
  have HQ := Lib.hid hQ
  have HR := Lib.hid hR
  have HF : Hid (Calls Try.prog 29 #[coreA x] w (RetVs W0 c.vars w)) := Lib.hid (cvars_any W0 c x w hc h.ext hl)
  have hln : c.vars.length ≤ 300000 := by unfold CP.vars; simp only [List.length_append]; omega
  obtain ⟨iv, ov, lv, ev⟩ := x
  have g0 := h.box.cells 0 _ rfl
  have g1 := h.box.cells 1 _ rfl
  have g2 := h.box.cells 2 _ rfl
  have g3 := h.box.cells 3 _ rfl
  have gl := h.box.lt
  clear hQ hR h hl hc
  go_enter Try.func33, Try.ntmps33
  obtain ⟨l, hll⟩ : ∃ l, l = c.vars := ⟨_, rfl⟩
  rw [← hll] at hln
  have HRR : Hid (R = l.all fun v => decide (width v.kind ≠ 0)) := Lib.hid (by rw [HR.out, hll]; rfl)
  have HF2 : Hid (Calls Try.prog 29 #[.agg #[iv, ov, lv, ev]] w (RetVs W0 l w)) := Lib.hid (by rw [hll]; exact HF.out)
  clear HF hll
  obtain ⟨nv, hnv⟩ : ∃ n, n = l.length := ⟨_, rfl⟩
  have HF3 : Hid (Calls Try.prog 29 #[.agg #[iv, ov, lv, ev]] w fun e w' => ∃ p cap qs, e = .returned (.slice p nv cap) ∧ Hid (VsIn W0 w' (.slice p nv cap) l qs ∧ Ext w w')) := Lib.hid (HF2.out.mono (fun e w' ⟨p, cap, qs, h1, h2⟩ => ⟨p, cap, qs, by rw [hnv]; exact h1, Lib.hid (by rw [hnv]; exact ⟨h2.out.1, h2.out.2.1⟩)⟩))
  clear HF2
  rw [← hnv] at hln
  go_upto_region 2 with (first | (go_at_call 29; refine HF3.out.mono ?_; rintro e1 w1 ⟨pv, cv, qs, rfl, H1⟩) | fail)
  have HV : Hid (VsIn W0 w1 (.slice pv nv cv) l qs) := Lib.hid H1.out.1
  obtain ⟨pz, cz, e1, hdv, hmv⟩ := HV.out.slice
  simp only [Value.slice.injEq] at e1
  have hcv : (cv : Int) ≤ 9223372036854775807 := by rw [e1.2.2]; unfold maxLen at hmv; omega
  rw [← e1.2.2] at hdv
  rw [← hnv] at hdv
  clear e1 hmv
  go_loopw [11] (fun i wr => ∃ j : Nat, j ≤ nv ∧ i = .int .i64 (j : Int) ∧ Hid (Ext w1 wr) ∧ Hid (R = (l.drop j).all fun v => decide (width v.kind ≠ 0))) (fun i _ => nv - (intOf i).toNat)
  case atStart => exact ⟨0, Nat.zero_le _, rfl, Lib.hid (Ext.refl _), HRR⟩
  case round =>
    obtain ⟨j, hj, rfl, HS, HJ⟩ := hrel
    by_cases hlt : j < nv
    · have hji : (j : Int) < (nv : Int) := Int.ofNat_lt.2 hlt
      have hxl := HS.out
      obtain ⟨v, hv⟩ : ∃ v, (l)[j]? = some v := ⟨_, List.getElem?_eq_getElem (by rw [← hnv]; exact hlt)⟩
      obtain ⟨bv_, ov_, pq, cq, hpe, hqv, v0_, v1_, v2_, hev, hvl⟩ := (HV.out.ext hxl).at hv
      subst hpe
      obtain ⟨mq, hnq⟩ : ∃ n, n = v.clk.length := ⟨_, rfl⟩
      rw [← hnq] at v2_ hev hqv
      have hjv : j < cv := by omega
      have HVV := Lib.hid (And.intro hv (And.intro hev (And.intro hnq hqv)))
      have hxy : Ext wr (wr.alloc (.cells #[.string v.name, .int .i64 v.kind, .slice pq mq cq] 30)) := (Ext.refl wr).alloc _
      have hby : BoxV wr.heap.size [.string v.name, .int .i64 v.kind, .slice pq mq cq] (wr.alloc (.cells #[.string v.name, .int .i64 v.kind, .slice pq mq cq] 30)) := BoxV.of_row (heap_alloc_last wr _)
      have HXY := Lib.hid hxy
      clear hv hev hnq hqv
      go_upto_region 4 with fail
      generalize (wr.alloc (.cells #[.string v.name, .int .i64 v.kind, .slice pq mq cq] 30)) = wy at hby hxy HXY ⊢
      generalize wr.heap.size = Y at hby ⊢
      have d0 := hby.cells 0 _ rfl
      have d1 := hby.cells 1 _ rfl
      have d2 := hby.cells 2 _ rfl
      have hyl := hby.lt
      clear hby hxy v0_ v1_ v2_ hvl
      have HW : Hid (∀ wz, Calls Try.prog 52 #[.int .i64 v.kind] wz fun e w' => e = .returned (.int .i64 (width v.kind)) ∧ wz = w') := Lib.hid (fun wz => bvWidth_any v.kind wz)
      have hls : l.drop j = v :: l.drop (j + 1) := by
        obtain ⟨h1, h2⟩ := List.getElem?_eq_some_iff.1 HVV.out.1
        rw [List.drop_eq_getElem_cons h1, h2]
      have HLS := Lib.hid hls
      obtain ⟨wd, hwd⟩ : ∃ z, z = width v.kind := ⟨_, rfl⟩
      have HWD := Lib.hid hwd
      rw [← hwd] at HW
      clear hls hwd
      by_cases h0 : wd = 0
      · have q0 : (wd == 0) = true := by simpa using h0
        have HC : Hid (R = false) := Lib.hid (by rw [HJ.out, HLS.out, List.all_cons, ← HWD.out, h0]; simp)
        clear h0
        go_wp2_with (first | (go_at_call 52; refine (HW.out _).mono ?_; rintro e2 w2 ⟨rfl, rfl⟩) | fail)
        rw [HQ.out, HC.out]
        exact ⟨rfl, Lib.hid (H1.out.2.trans (HS.out.trans HXY.out))⟩
      · have q0 : (wd == 0) = false := by simpa using h0
        have HC : Hid (R = (l.drop (j + 1)).all fun v => decide (width v.kind ≠ 0)) := Lib.hid (by rw [HJ.out, HLS.out, List.all_cons, ← HWD.out]; simp [h0])
        clear h0
        go_wp2_with (first | (go_at_call 52; refine (HW.out _).mono ?_; rintro e2 w2 ⟨rfl, rfl⟩) | fail)
        exact ⟨⟨j + 1, by omega, by go_num, Lib.hid (HS.out.trans HXY.out), HC⟩, by simp [intOf]; omega⟩
    · have hji : ¬ (j : Int) < (nv : Int) := fun e => hlt (Int.ofNat_lt.1 e)
      obtain rfl : j = nv := by omega
      have HC : Hid (R = true) := Lib.hid (by rw [HJ.out, hnv, List.drop_length]; rfl)
      go_wp2
      rw [HQ.out, HC.out]
      exact ⟨rfl, Lib.hid (H1.out.2.trans HS.out)⟩
end Go.Proofs.Ytmommjagndadjaa
namespace Go.Proofs.Ytmommjagndadjaa
open Go.RowKit Go.Maps
set_option linter.unusedSimpArgs false
set_option linter.unusedVariables false
set_option maxRecDepth 100000

theorem kb_nil {w w' : World} (h : Kb [] w w') : Ext w w' := h.ext (Ext.refl w) (by simp)
theorem all_drop {α : Type} (p : α → Bool) {l : List α} {j : Nat} {x : α} (h : l[j]? = some x) : (l.drop j).all p = (p x && (l.drop (j + 1)).all p) := by
  obtain ⟨h1, h2⟩ := List.getElem?_eq_some_iff.1 h
  rw [List.drop_eq_getElem_cons h1, h2, List.all_cons]
set_option maxHeartbeats 8000000 in
theorem cexps_any {W0 : World} {c : CP} {x : S4} {X M D : Nat} {t : TQ} {d : DT} {w : World} (hc : CPIn W0 c x) (h : KC W0 x X M D t d w) (p : CE → Bool) (fn : FuncId) (caps : Array Value) (St : Unit → World → Prop) (HC : CloP W0 [] St (fun _ e => ((), p e)) fn caps) (hst : St () w) (hok : ∀ q ∈ c.eqs, okE q.e) :
    Calls Try.prog 54 #[.pointer (some ⟨X, 0, none⟩), .func (.func fn) #[] caps] w (RetX (expsC p c) w) := by
  obtain ⟨R, hR⟩ : ∃ R, R = expsC p c := ⟨_, rfl⟩
  rw [← hR]
  obtain ⟨Q, hQ⟩ : ∃ Q, Q = RetX R w := ⟨_, rfl⟩
  rw [← hQ]
  have HQ := Lib.hid hQ
  have HR := Lib.hid hR
  have HKC := Lib.hid h
  have HCC := Lib.hid (And.intro HC (And.intro hst hok))
  clear hQ hR h hst hok
  obtain ⟨iv, ov, lv, ev⟩ := x
  have h4 := hc.eqs
  obtain ⟨p4, c4, e4, hd4, hm4⟩ := h4.slice
  simp only at e4
  subst e4
  simp only at h4
  obtain ⟨n4, hn4⟩ : ∃ n, n = c.eqs.length := ⟨_, rfl⟩
  rw [← hn4] at h4 hd4 HKC
  have HN : Hid (True ∧ True ∧ True ∧ n4 = c.eqs.length) := Lib.hid ⟨trivial, trivial, trivial, hn4⟩
  have hcI4 : (c4 : Int) ≤ 9223372036854775807 := by unfold maxLen at hm4; omega
  have HE := Lib.hid h4
  have g3 := HKC.out.box.cells 3 _ rfl
  have gl := HKC.out.box.lt
  clear h4 hn4 hm4
  have hcf := HC.enter
  clear HC hc
  go_enter Try.func54, Try.ntmps54
  go_upto_region 2 with fail
  go_loopw [13] (fun i wr => ∃ j : Nat, j ≤ n4 ∧ i = .int .i64 (j : Int) ∧ Hid (Ext w wr) ∧ Hid (R = (c.eqs.drop j).all fun q => decide (q.form ≠ 1) || partsE p q.e)) (fun i _ => n4 - (intOf i).toNat)
  case atStart => exact ⟨0, Nat.zero_le _, rfl, Lib.hid (Ext.refl _), Lib.hid (by rw [HR.out]; rfl)⟩
  case round =>
    obtain ⟨j, hj, rfl, HS, HJ⟩ := hrel
    by_cases hlt : j < n4
    · have hji : (j : Int) < (n4 : Int) := Int.ofNat_lt.2 hlt
      have hxw : Ext W0 wr := HKC.out.ext.trans HS.out
      obtain ⟨q, hq⟩ : ∃ q, c.eqs[j]? = some q := ⟨_, List.getElem?_eq_getElem (by have := HN.out.2.2.2; omega)⟩
      obtain ⟨b, o, pk, ck, hpe, hkq, hcq, hbl⟩ := HE.out.at hq
      subst hpe
      obtain ⟨nk, hnk⟩ : ∃ n, n = q.e.kids.length := ⟨_, rfl⟩
      rw [← hnk] at hkq hcq
      have hjc : j < c4 := by omega
      have hbl2 := Nat.lt_of_lt_of_le hbl hxw.size
      have c0_ := hxw.cell (hcq 0 _ rfl)
      have c1_ := hxw.cell (hcq 1 _ rfl)
      have c2_ := hxw.cell (hcq 2 _ rfl)
      have c3_ := hxw.cell (hcq 3 _ rfl)
      have c4_ := hxw.cell (hcq 4 _ rfl)
      have c5_ := hxw.cell (hcq 5 _ rfl)
      have c6_ := hxw.cell (hcq 6 _ rfl)
      have c7_ := hxw.cell (hcq 7 _ rfl)
      have c8_ := hxw.cell (hcq 8 _ rfl)
      have c9_ := hxw.cell (hcq 9 _ rfl)
      have c10_ := hxw.cell (hcq 10 _ rfl)
      have c11_ := hxw.cell (hcq 11 _ rfl)
      have c12_ := hxw.cell (hcq 12 _ rfl)
      rw [Nat.add_zero] at c0_
      have HX := Lib.hid (And.intro hq (And.intro hkq hnk))
      have hxy : Ext wr (wr.alloc (.cells #[.int .i64 q.form, .string q.name, .int .i64 q.e.form, .int .i64 q.e.sub, .int .i64 q.e.kind, .int .i64 q.e.n, .string q.e.name, .slice pk nk ck, .int .i64 q.init, .string q.next, .string q.reset, .int .i64 q.period, .int .i64 q.offset] 35)) := (Ext.refl wr).alloc _
      have hby : BoxV wr.heap.size [.int .i64 q.form, .string q.name, .int .i64 q.e.form, .int .i64 q.e.sub, .int .i64 q.e.kind, .int .i64 q.e.n, .string q.e.name, .slice pk nk ck, .int .i64 q.init, .string q.next, .string q.reset, .int .i64 q.period, .int .i64 q.offset] (wr.alloc (.cells #[.int .i64 q.form, .string q.name, .int .i64 q.e.form, .int .i64 q.e.sub, .int .i64 q.e.kind, .int .i64 q.e.n, .string q.e.name, .slice pk nk ck, .int .i64 q.init, .string q.next, .string q.reset, .int .i64 q.period, .int .i64 q.offset] 35)) := BoxV.of_row (heap_alloc_last wr _)
      have HXY := Lib.hid hxy
      clear hq hkq hcq hbl hnk hxw
      go_upto_region 4 with fail
      generalize (wr.alloc (.cells #[.int .i64 q.form, .string q.name, .int .i64 q.e.form, .int .i64 q.e.sub, .int .i64 q.e.kind, .int .i64 q.e.n, .string q.e.name, .slice pk nk ck, .int .i64 q.init, .string q.next, .string q.reset, .int .i64 q.period, .int .i64 q.offset] 35)) = wy at hby hxy HXY ⊢
      generalize wr.heap.size = Y at hby ⊢
      have d0 := hby.cells 0 _ rfl
      have d1 := hby.cells 1 _ rfl
      have d2 := hby.cells 2 _ rfl
      have d3 := hby.cells 3 _ rfl
      have d4 := hby.cells 4 _ rfl
      have d5 := hby.cells 5 _ rfl
      have d6 := hby.cells 6 _ rfl
      have d7 := hby.cells 7 _ rfl
      have d8 := hby.cells 8 _ rfl
      have d9 := hby.cells 9 _ rfl
      have d10 := hby.cells 10 _ rfl
      have d11 := hby.cells 11 _ rfl
      have d12 := hby.cells 12 _ rfl
      have hyl := hby.lt
      clear hby hxy hbl2 c0_ c1_ c2_ c3_ c4_ c5_ c6_ c7_ c8_ c9_ c10_ c11_ c12_
      have HAD := Lib.hid (all_drop (fun q : EQ => decide (q.form ≠ 1) || partsE p q.e) HX.out.1)
      by_cases h1 : q.form = 1
      · have q1 : (q.form == 1) = true := by simpa using h1
        obtain ⟨b1, hb1⟩ : ∃ z, z = partsE p q.e := ⟨_, rfl⟩
        have HF : Hid (∀ wz, Ext wy wz → Calls Try.prog 45 #[.agg #[.int .i64 q.e.form, .int .i64 q.e.sub, .int .i64 q.e.kind, .int .i64 q.e.n, .string q.e.name, .slice pk nk ck], .func (.func fn) #[] caps] wz (RetX b1 wz)) := Lib.hid (fun wz hz => by
          have hk := HX.out.2.1
          have hx1 : Ext w wz := (HS.out.trans HXY.out).trans hz
          have h2 := ceach_any HCC.out.1 (HKC.out.ext.trans hx1) (HCC.out.1.st () w wz HCC.out.2.1 hx1) hk (HCC.out.2.2 q (List.mem_of_getElem? HX.out.1))
          refine h2.mono ?_
          rintro e w' ⟨e1, e2⟩
          refine ⟨?_, Lib.hid (kb_nil e2.out.1)⟩
          rw [e1, hb1, gpE_ask])
        have HC1 : Hid (R = (b1 && (c.eqs.drop (j + 1)).all fun q => decide (q.form ≠ 1) || partsE p q.e)) := Lib.hid (by rw [HJ.out, HAD.out, hb1]; simp [h1])
        clear h1 hb1
        cases b1 with
        | false =>
          go_wp2_with (first | (go_at_call 45; refine (HF.out _ (Ext.refl _)).mono ?_; rintro e2 w2 ⟨rfl, H2⟩) | fail)
          rw [HQ.out, HC1.out]
          exact ⟨rfl, Lib.hid ((HS.out.trans HXY.out).trans H2.out)⟩
        | true =>
          go_wp2_with (first | (go_at_call 45; refine (HF.out _ (Ext.refl _)).mono ?_; rintro e2 w2 ⟨rfl, H2⟩) | fail)
          exact ⟨⟨j + 1, by omega, by go_num, Lib.hid ((HS.out.trans HXY.out).trans H2.out), Lib.hid (by rw [HC1.out]; simp)⟩, by simp [intOf]; omega⟩
      · have q1 : (q.form == 1) = false := by simpa using h1
        have HC1 : Hid (R = (c.eqs.drop (j + 1)).all fun q => decide (q.form ≠ 1) || partsE p q.e) := Lib.hid (by rw [HJ.out, HAD.out]; simp [h1])
        clear h1
        go_wp2_with fail
        exact ⟨⟨j + 1, by omega, by go_num, Lib.hid (HS.out.trans HXY.out), HC1⟩, by simp [intOf]; omega⟩
    · have hji : ¬ (j : Int) < (n4 : Int) := fun e => hlt (Int.ofNat_lt.1 e)
      obtain rfl : j = n4 := by omega
      have HC1 : Hid (R = true) := Lib.hid (by rw [HJ.out, HN.out.2.2.2, List.drop_length]; rfl)
      go_wp2
      rw [HQ.out, HC1.out]
      exact ⟨rfl, HS⟩
end Go.Proofs.Ytmommjagndadjaa
namespace Go.Proofs.Ytmommjagndadjaa
open Go.RowKit Go.Maps
set_option linter.unusedSimpArgs false
set_option linter.unusedVariables false
set_option maxRecDepth 100000

theorem ba_nil {b : ByteArray} : b.toList = [] ↔ b = ⟨#[]⟩ := by
  rw [ByteArray.toList_eq]
  cases b with
  | mk a => simp
def pN (t : VT) (e : CE) : Bool := if e.form = 2 ∨ e.form = 9 ∨ e.form = 10 then thereT t e.name else true
def pF (e : CE) : Bool := if kidsC e.form ≠ e.kids.length ∨ (e.form = 1 ∧ isk e.kind e.n = false) then false else decide (e.form ≠ 9 ∨ e.n = 0 ∨ e.n = 1)
def StK (W0 : World) (x : S4) (X M D : Nat) (t : TQ) (d : DT) (B : Nat) (_ : Unit) (w : World) : Prop := KC W0 x X M D t d w ∧ BoxV B [.pointer (some ⟨X, 0, none⟩)] w
theorem StK.next {W0 w w' : World} {x : S4} {X M D B : Nat} {t : TQ} {d : DT} {u : Unit} (h : StK W0 x X M D t d B u w) (hx : Ext w w') : StK W0 x X M D t d B u w' := ⟨h.1.next hx, h.2.ext hx⟩
theorem kidsC_any (f : Int) (w : World) : Calls Try.prog 57 #[.int .i64 f] w fun e w' => e = .returned (.int .i64 (kidsC f)) ∧ w = w' := by
  go_enter Try.func57, Try.ntmps57
  go_wp2
  all_goals go_ret
  all_goals refine ⟨?_, rfl⟩
  all_goals simp_all [kidsC]
set_option maxHeartbeats 8000000 in
theorem names1_any (W0 : World) (x : S4) (X M D : Nat) (t : TQ) (d : DT) (B : Nat) (w : World) (e : CE) (kv : Value) (hk : KIn W0 e kv) (hst : StK W0 x X M D t d B () w) (hok : okE e) :
    Calls Try.prog 55 #[eVal e kv, .pointer (some ⟨B, 0, none⟩)] w (RetB [] (StK W0 x X M D t d B) ((), pN t.vt e) w) := by
  obtain ⟨R, hR⟩ : ∃ R, R = pN t.vt e := ⟨_, rfl⟩
  rw [← hR]
  obtain ⟨Q, hQ⟩ : ∃ Q, Q = RetB [] (StK W0 x X M D t d B) ((), R) w := ⟨_, rfl⟩
  rw [← hQ]
  have HQ := Lib.hid hQ
  have HR := Lib.hid hR
  obtain ⟨p, c, rfl, hkc, hcm⟩ := hk.slice
  obtain ⟨n, hn⟩ : ∃ n, n = e.kids.length := ⟨_, rfl⟩
  rw [← hn]
  obtain ⟨f, hf⟩ : ∃ f, f = e.form := ⟨_, rfl⟩
  obtain ⟨sb, hs⟩ : ∃ s, s = e.sub := ⟨_, rfl⟩
  obtain ⟨k, hk2⟩ : ∃ s, s = e.kind := ⟨_, rfl⟩
  obtain ⟨nn, hnn⟩ : ∃ s, s = e.n := ⟨_, rfl⟩
  obtain ⟨nm, hnm⟩ : ∃ s, s = e.name := ⟨_, rfl⟩
  have HEV := Lib.hid (show eVal e (.slice p n c) = .agg #[.int .i64 f, .int .i64 sb, .int .i64 k, .int .i64 nn, .string nm, .slice p n c] by rw [hf, hs, hk2, hnn, hnm]; rfl)
  rw [HEV.out]
  have HL := Lib.hid (And.intro hf (And.intro hs (And.intro hk2 (And.intro hnn (And.intro hnm hn)))))
  have hby : BoxV w.heap.size [.int .i64 f, .int .i64 sb, .int .i64 k, .int .i64 nn, .string nm, .slice p n c] (w.alloc (.cells #[.int .i64 f, .int .i64 sb, .int .i64 k, .int .i64 nn, .string nm, .slice p n c] 33)) := BoxV.of_row (heap_alloc_last w _)
  have hxy : Ext w (w.alloc (.cells #[.int .i64 f, .int .i64 sb, .int .i64 k, .int .i64 nn, .string nm, .slice p n c] 33)) := (Ext.refl w).alloc _
  have HXY := Lib.hid hxy
  have hst2 := hst.next hxy
  have HST := Lib.hid hst2
  have HF : Hid (∀ wz, Ext (w.alloc (.cells #[.int .i64 f, .int .i64 sb, .int .i64 k, .int .i64 nn, .string nm, .slice p n c] 33)) wz → Calls Try.prog 53 #[.pointer (some ⟨X, 0, none⟩), .string nm] wz (RetX (thereT t.vt nm) wz)) := Lib.hid (fun wz hx => by
    rw [hnm]; exact cthere_any (hst2.1.next hx) e.name hok.name)
  have HK : Hid (R = if f = 2 ∨ f = 9 ∨ f = 10 then thereT t.vt nm else true) := Lib.hid (by rw [HR.out, hf, hnm]; rfl)
  obtain ⟨th, hth⟩ : ∃ z, z = thereT t.vt nm := ⟨_, rfl⟩
  rw [← hth] at HF HK
  have b0 := hst2.2.cells 0 _ rfl
  have bl := hst2.2.lt
  clear hQ hR hk hn hf hs hk2 hnn hnm hkc hcm hst hst2 hok hth
  by_cases a2 : f = 2
  · have q2 : (f == 2) = true := by simpa using a2
    have HC : Hid (R = th) := Lib.hid (by rw [HK.out]; simp [a2])
    clear a2
    go_enter Try.func55, Try.ntmps55
    go_upto_region 1 with fail
    generalize (w.alloc (.cells #[.int .i64 f, .int .i64 sb, .int .i64 k, .int .i64 nn, .string nm, .slice p n c] 33)) = wy at hby hxy HXY HST HF b0 bl ⊢
    generalize w.heap.size = Y at hby ⊢
    have d0 := hby.cells 0 _ rfl
    have d1 := hby.cells 1 _ rfl
    have d2 := hby.cells 2 _ rfl
    have d3 := hby.cells 3 _ rfl
    have d4 := hby.cells 4 _ rfl
    have d5 := hby.cells 5 _ rfl
    have hyl := hby.lt
    have HBY := Lib.hid hby
    clear hby hxy
    go_wp2_with (first | (go_at_call 53; refine (HF.out _ (Ext.refl _)).mono ?_; rintro e2 w2 ⟨rfl, H2⟩) | fail)
    rw [HQ.out, HC.out]
    exact ⟨rfl, Lib.hid ⟨Kb.of_ext (HXY.out.trans H2.out), HST.out.next H2.out⟩⟩
  · have q2 : (f == 2) = false := by simpa using a2
    by_cases a9 : f = 9
    · have q9 : (f == 9) = true := by simpa using a9
      have HC : Hid (R = th) := Lib.hid (by rw [HK.out]; simp [a9])
      clear a9
      go_enter Try.func55, Try.ntmps55
      go_upto_region 1 with fail
      generalize (w.alloc (.cells #[.int .i64 f, .int .i64 sb, .int .i64 k, .int .i64 nn, .string nm, .slice p n c] 33)) = wy at hby hxy HXY HST HF b0 bl ⊢
      generalize w.heap.size = Y at hby ⊢
      have d0 := hby.cells 0 _ rfl
      have d1 := hby.cells 1 _ rfl
      have d2 := hby.cells 2 _ rfl
      have d3 := hby.cells 3 _ rfl
      have d4 := hby.cells 4 _ rfl
      have d5 := hby.cells 5 _ rfl
      have hyl := hby.lt
      have HBY := Lib.hid hby
      clear hby hxy
      go_wp2_with (first | (go_at_call 53; refine (HF.out _ (Ext.refl _)).mono ?_; rintro e2 w2 ⟨rfl, H2⟩) | fail)
      rw [HQ.out, HC.out]
      exact ⟨rfl, Lib.hid ⟨Kb.of_ext (HXY.out.trans H2.out), HST.out.next H2.out⟩⟩
    · have q9 : (f == 9) = false := by simpa using a9
      by_cases a10 : f = 10
      · have q10 : (f == 10) = true := by simpa using a10
        have HC : Hid (R = th) := Lib.hid (by rw [HK.out]; simp [a10])
        clear a10
        go_enter Try.func55, Try.ntmps55
        go_upto_region 1 with fail
        generalize (w.alloc (.cells #[.int .i64 f, .int .i64 sb, .int .i64 k, .int .i64 nn, .string nm, .slice p n c] 33)) = wy at hby hxy HXY HST HF b0 bl ⊢
        generalize w.heap.size = Y at hby ⊢
        have d0 := hby.cells 0 _ rfl
        have d1 := hby.cells 1 _ rfl
        have d2 := hby.cells 2 _ rfl
        have d3 := hby.cells 3 _ rfl
        have d4 := hby.cells 4 _ rfl
        have d5 := hby.cells 5 _ rfl
        have hyl := hby.lt
        have HBY := Lib.hid hby
        clear hby hxy
        go_wp2_with (first | (go_at_call 53; refine (HF.out _ (Ext.refl _)).mono ?_; rintro e2 w2 ⟨rfl, H2⟩) | fail)
        rw [HQ.out, HC.out]
        exact ⟨rfl, Lib.hid ⟨Kb.of_ext (HXY.out.trans H2.out), HST.out.next H2.out⟩⟩
      · have q10 : (f == 10) = false := by simpa using a10
        have HC : Hid (R = true) := Lib.hid (by rw [HK.out]; simp [a2, a9, a10])
        clear a2 a9 a10
        go_enter Try.func55, Try.ntmps55
        go_upto_region 1 with fail
        generalize (w.alloc (.cells #[.int .i64 f, .int .i64 sb, .int .i64 k, .int .i64 nn, .string nm, .slice p n c] 33)) = wy at hby hxy HXY HST HF b0 bl ⊢
        generalize w.heap.size = Y at hby ⊢
        have d0 := hby.cells 0 _ rfl
        have d1 := hby.cells 1 _ rfl
        have d2 := hby.cells 2 _ rfl
        have d3 := hby.cells 3 _ rfl
        have d4 := hby.cells 4 _ rfl
        have d5 := hby.cells 5 _ rfl
        have hyl := hby.lt
        have HBY := Lib.hid hby
        clear hby hxy
        go_wp2_with fail
        rw [HQ.out, HC.out]
        exact ⟨rfl, Lib.hid ⟨Kb.of_ext HXY.out, HST.out⟩⟩
theorem clo_names1 (W0 : World) (x : S4) (X M D : Nat) (t : TQ) (d : DT) (B : Nat) : CloP W0 [] (StK W0 x X M D t d B) (fun _ e => ((), pN t.vt e)) 55 #[.pointer (some ⟨B, 0, none⟩)] where
  st := fun _ _ _ h hx => h.next hx
  off := by simp
  lts := by simp
  enter := fun args w => by kernel_rfl
  call := fun _ w e kv _ hst hk hok => names1_any W0 x X M D t d B w e kv hk hst hok
set_option maxHeartbeats 8000000 in
theorem forms1_any (w : World) (e : CE) (kv : Value) (hk : KIn w e kv) :
    Calls Try.prog 56 #[eVal e kv] w (RetB [] (fun _ _ => True) ((), pF e) w) := by
  obtain ⟨R, hR⟩ : ∃ R, R = pF e := ⟨_, rfl⟩
  rw [← hR]
  obtain ⟨Q, hQ⟩ : ∃ Q, Q = RetB [] (fun _ _ => True) ((), R) w := ⟨_, rfl⟩
  rw [← hQ]
  have HQ := Lib.hid hQ
  have HR := Lib.hid hR
  obtain ⟨p, c, rfl, hkc, hcm⟩ := hk.slice
  obtain ⟨n, hn⟩ : ∃ n, n = e.kids.length := ⟨_, rfl⟩
  rw [← hn]
  obtain ⟨f, hf⟩ : ∃ f, f = e.form := ⟨_, rfl⟩
  obtain ⟨sb, hs⟩ : ∃ s, s = e.sub := ⟨_, rfl⟩
  obtain ⟨k, hk2⟩ : ∃ s, s = e.kind := ⟨_, rfl⟩
  obtain ⟨nn, hnn⟩ : ∃ s, s = e.n := ⟨_, rfl⟩
  obtain ⟨nm, hnm⟩ : ∃ s, s = e.name := ⟨_, rfl⟩
  have HEV := Lib.hid (show eVal e (.slice p n c) = .agg #[.int .i64 f, .int .i64 sb, .int .i64 k, .int .i64 nn, .string nm, .slice p n c] by rw [hf, hs, hk2, hnn, hnm]; rfl)
  rw [HEV.out]
  have HL := Lib.hid (And.intro hf (And.intro hs (And.intro hk2 (And.intro hnn (And.intro hnm hn)))))
  have hby : BoxV w.heap.size [.int .i64 f, .int .i64 sb, .int .i64 k, .int .i64 nn, .string nm, .slice p n c] (w.alloc (.cells #[.int .i64 f, .int .i64 sb, .int .i64 k, .int .i64 nn, .string nm, .slice p n c] 33)) := BoxV.of_row (heap_alloc_last w _)
  have hxy : Ext w (w.alloc (.cells #[.int .i64 f, .int .i64 sb, .int .i64 k, .int .i64 nn, .string nm, .slice p n c] 33)) := (Ext.refl w).alloc _
  have HXY := Lib.hid hxy
  have HK : Hid (R = if kidsC f ≠ (n : Int) ∨ (f = 1 ∧ isk k nn = false) then false else decide (f ≠ 9 ∨ nn = 0 ∨ nn = 1)) := Lib.hid (by rw [HR.out, hf, hk2, hnn, hn]; rfl)
  have HKN : Hid (∀ w1, Calls Try.prog 57 #[.int .i64 f] w1 fun e w' => e = .returned (.int .i64 (kidsC f)) ∧ w1 = w') := Lib.hid (fun w1 => kidsC_any f w1)
  have HIS : Hid (∀ w1, Calls Try.prog 47 #[.int .i64 k, .int .i64 nn] w1 fun e w' => e = .returned (.bool (isk k nn)) ∧ w1 = w') := Lib.hid (fun w1 => bvIs_any k nn w1)
  obtain ⟨kn, hkn⟩ : ∃ z, z = kidsC f := ⟨_, rfl⟩
  obtain ⟨ik, hik⟩ : ∃ z, z = isk k nn := ⟨_, rfl⟩
  rw [← hkn] at HKN HK
  rw [← hik] at HIS HK
  clear hQ hR hk hn hf hs hk2 hnn hnm hkc hcm hkn hik
  by_cases akn : kn = (n : Int)
  · have q_akn : (kn != (n : Int)) = false := by simpa using akn
    by_cases a1 : f = 1
    · have q_a1 : (f == 1) = true := by simpa using a1
      cases ik with
      | false =>
        have HC : Hid (R = false) := Lib.hid (by rw [HK.out]; simp [akn, a1])
        clear akn a1
        go_enter Try.func56, Try.ntmps56
        go_upto_region 1 with fail
        generalize (w.alloc (.cells #[.int .i64 f, .int .i64 sb, .int .i64 k, .int .i64 nn, .string nm, .slice p n c] 33)) = wy at hby hxy HXY ⊢
        generalize w.heap.size = Y at hby ⊢
        have d0 := hby.cells 0 _ rfl
        have d1 := hby.cells 1 _ rfl
        have d2 := hby.cells 2 _ rfl
        have d3 := hby.cells 3 _ rfl
        have d4 := hby.cells 4 _ rfl
        have d5 := hby.cells 5 _ rfl
        have hyl := hby.lt
        have HBY := Lib.hid hby
        clear hby hxy
        (refine region_drew (by kernel_rfl) (by kernel_rfl) ?_; (repeat (go_big_quiet_step (first | exact in_drew (HKN.out _) | exact in_drew (HIS.out _)))); refine wpQuiet_nil ?_; rintro _ ⟨nq, rfl⟩)
        go_wp2
        rw [HQ.out, HC.out]
        exact ⟨rfl, Lib.hid ⟨Kb.of_ext (HXY.out.drewN _), trivial⟩⟩
      | true =>
        have q9 : (f != 9) = true := by rw [a1]; rfl
        have HC : Hid (R = true) := Lib.hid (by rw [HK.out]; simp [akn, a1])
        clear akn a1
        go_enter Try.func56, Try.ntmps56
        go_upto_region 1 with fail
        generalize (w.alloc (.cells #[.int .i64 f, .int .i64 sb, .int .i64 k, .int .i64 nn, .string nm, .slice p n c] 33)) = wy at hby hxy HXY ⊢
        generalize w.heap.size = Y at hby ⊢
        have d0 := hby.cells 0 _ rfl
        have d1 := hby.cells 1 _ rfl
        have d2 := hby.cells 2 _ rfl
        have d3 := hby.cells 3 _ rfl
        have d4 := hby.cells 4 _ rfl
        have d5 := hby.cells 5 _ rfl
        have hyl := hby.lt
        have HBY := Lib.hid hby
        clear hby hxy
        (refine region_drew (by kernel_rfl) (by kernel_rfl) ?_; (repeat (go_big_quiet_step (first | exact in_drew (HKN.out _) | exact in_drew (HIS.out _)))); refine wpQuiet_nil ?_; rintro _ ⟨nq, rfl⟩)
        go_wp2
        rw [HQ.out, HC.out]
        exact ⟨rfl, Lib.hid ⟨Kb.of_ext (HXY.out.drewN _), trivial⟩⟩
    · have q_a1 : (f == 1) = false := by simpa using a1
      by_cases a9 : f = 9
      · have q_a9 : (f != 9) = false := by simpa using a9
        by_cases b0 : nn = 0
        · have q_b0 : (nn == 0) = true := by simpa using b0
          have HC : Hid (R = true) := Lib.hid (by rw [HK.out]; simp [akn, a1, a9, b0])
          clear akn a1 a9 b0
          go_enter Try.func56, Try.ntmps56
          go_upto_region 1 with fail
          generalize (w.alloc (.cells #[.int .i64 f, .int .i64 sb, .int .i64 k, .int .i64 nn, .string nm, .slice p n c] 33)) = wy at hby hxy HXY ⊢
          generalize w.heap.size = Y at hby ⊢
          have d0 := hby.cells 0 _ rfl
          have d1 := hby.cells 1 _ rfl
          have d2 := hby.cells 2 _ rfl
          have d3 := hby.cells 3 _ rfl
          have d4 := hby.cells 4 _ rfl
          have d5 := hby.cells 5 _ rfl
          have hyl := hby.lt
          have HBY := Lib.hid hby
          clear hby hxy
          (refine region_drew (by kernel_rfl) (by kernel_rfl) ?_; (repeat (go_big_quiet_step (first | exact in_drew (HKN.out _) | exact in_drew (HIS.out _)))); refine wpQuiet_nil ?_; rintro _ ⟨nq, rfl⟩)
          go_wp2
          rw [HQ.out, HC.out]
          exact ⟨rfl, Lib.hid ⟨Kb.of_ext (HXY.out.drewN _), trivial⟩⟩
        · have q_b0 : (nn == 0) = false := by simpa using b0
          by_cases b1 : nn = 1
          · have q_b1 : (nn == 1) = true := by simpa using b1
            have HC : Hid (R = true) := Lib.hid (by rw [HK.out]; simp [akn, a1, a9, b0, b1])
            clear akn a1 a9 b0 b1
            go_enter Try.func56, Try.ntmps56
            go_upto_region 1 with fail
            generalize (w.alloc (.cells #[.int .i64 f, .int .i64 sb, .int .i64 k, .int .i64 nn, .string nm, .slice p n c] 33)) = wy at hby hxy HXY ⊢
            generalize w.heap.size = Y at hby ⊢
            have d0 := hby.cells 0 _ rfl
            have d1 := hby.cells 1 _ rfl
            have d2 := hby.cells 2 _ rfl
            have d3 := hby.cells 3 _ rfl
            have d4 := hby.cells 4 _ rfl
            have d5 := hby.cells 5 _ rfl
            have hyl := hby.lt
            have HBY := Lib.hid hby
            clear hby hxy
            (refine region_drew (by kernel_rfl) (by kernel_rfl) ?_; (repeat (go_big_quiet_step (first | exact in_drew (HKN.out _) | exact in_drew (HIS.out _)))); refine wpQuiet_nil ?_; rintro _ ⟨nq, rfl⟩)
            go_wp2
            rw [HQ.out, HC.out]
            exact ⟨rfl, Lib.hid ⟨Kb.of_ext (HXY.out.drewN _), trivial⟩⟩
          · have q_b1 : (nn == 1) = false := by simpa using b1
            have HC : Hid (R = false) := Lib.hid (by rw [HK.out]; simp [akn, a1, a9, b0, b1])
            clear akn a1 a9 b0 b1
            go_enter Try.func56, Try.ntmps56
            go_upto_region 1 with fail
            generalize (w.alloc (.cells #[.int .i64 f, .int .i64 sb, .int .i64 k, .int .i64 nn, .string nm, .slice p n c] 33)) = wy at hby hxy HXY ⊢
            generalize w.heap.size = Y at hby ⊢
            have d0 := hby.cells 0 _ rfl
            have d1 := hby.cells 1 _ rfl
            have d2 := hby.cells 2 _ rfl
            have d3 := hby.cells 3 _ rfl
            have d4 := hby.cells 4 _ rfl
            have d5 := hby.cells 5 _ rfl
            have hyl := hby.lt
            have HBY := Lib.hid hby
            clear hby hxy
            (refine region_drew (by kernel_rfl) (by kernel_rfl) ?_; (repeat (go_big_quiet_step (first | exact in_drew (HKN.out _) | exact in_drew (HIS.out _)))); refine wpQuiet_nil ?_; rintro _ ⟨nq, rfl⟩)
            go_wp2
            rw [HQ.out, HC.out]
            exact ⟨rfl, Lib.hid ⟨Kb.of_ext (HXY.out.drewN _), trivial⟩⟩
      · have q_a9 : (f != 9) = true := by simpa using a9
        have HC : Hid (R = true) := Lib.hid (by rw [HK.out]; simp [akn, a1, a9])
        clear akn a1 a9
        go_enter Try.func56, Try.ntmps56
        go_upto_region 1 with fail
        generalize (w.alloc (.cells #[.int .i64 f, .int .i64 sb, .int .i64 k, .int .i64 nn, .string nm, .slice p n c] 33)) = wy at hby hxy HXY ⊢
        generalize w.heap.size = Y at hby ⊢
        have d0 := hby.cells 0 _ rfl
        have d1 := hby.cells 1 _ rfl
        have d2 := hby.cells 2 _ rfl
        have d3 := hby.cells 3 _ rfl
        have d4 := hby.cells 4 _ rfl
        have d5 := hby.cells 5 _ rfl
        have hyl := hby.lt
        have HBY := Lib.hid hby
        clear hby hxy
        (refine region_drew (by kernel_rfl) (by kernel_rfl) ?_; (repeat (go_big_quiet_step (first | exact in_drew (HKN.out _) | exact in_drew (HIS.out _)))); refine wpQuiet_nil ?_; rintro _ ⟨nq, rfl⟩)
        go_wp2
        rw [HQ.out, HC.out]
        exact ⟨rfl, Lib.hid ⟨Kb.of_ext (HXY.out.drewN _), trivial⟩⟩
  · have q_akn : (kn != (n : Int)) = true := by simpa using akn
    have HC : Hid (R = false) := Lib.hid (by rw [HK.out]; simp [akn])
    clear akn
    go_enter Try.func56, Try.ntmps56
    go_upto_region 1 with fail
    generalize (w.alloc (.cells #[.int .i64 f, .int .i64 sb, .int .i64 k, .int .i64 nn, .string nm, .slice p n c] 33)) = wy at hby hxy HXY ⊢
    generalize w.heap.size = Y at hby ⊢
    have d0 := hby.cells 0 _ rfl
    have d1 := hby.cells 1 _ rfl
    have d2 := hby.cells 2 _ rfl
    have d3 := hby.cells 3 _ rfl
    have d4 := hby.cells 4 _ rfl
    have d5 := hby.cells 5 _ rfl
    have hyl := hby.lt
    have HBY := Lib.hid hby
    clear hby hxy
    (refine region_drew (by kernel_rfl) (by kernel_rfl) ?_; (repeat (go_big_quiet_step (first | exact in_drew (HKN.out _) | exact in_drew (HIS.out _)))); refine wpQuiet_nil ?_; rintro _ ⟨nq, rfl⟩)
    go_wp2
    rw [HQ.out, HC.out]
    exact ⟨rfl, Lib.hid ⟨Kb.of_ext (HXY.out.drewN _), trivial⟩⟩
theorem clo_forms1 (W0 : World) : CloP W0 [] (fun _ _ => True) (fun _ e => ((), pF e)) 56 #[] where
  st := fun _ _ _ h hx => trivial
  off := by simp
  lts := by simp
  enter := fun args w => by kernel_rfl
  call := fun _ w e kv hx hst hk hok => forms1_any w e kv (KIn.ext hx _ _ hk)
end Go.Proofs.Ytmommjagndadjaa
namespace Go.Proofs.Ytmommjagndadjaa
open Go.RowKit Go.Maps
set_option linter.unusedSimpArgs false
set_option linter.unusedVariables false
set_option maxRecDepth 100000

set_option maxHeartbeats 8000000 in
theorem missing_any {W0 : World} {c : CP} {x : S4} {X M D : Nat} {t : TQ} {d : DT} {w : World} (hc : CPIn W0 c x) (h : KC W0 x X M D t d w) (hok : okC c) (hl : c.ins.length ≤ 100000 ∧ c.outs.length ≤ 100000 ∧ c.locals.length ≤ 100000) :
    Calls Try.prog 35 #[.pointer (some ⟨X, 0, none⟩)] w (RetX (missC d c) w) := by
  obtain ⟨R, hR⟩ : ∃ R, R = missC d c := ⟨_, rfl⟩
  rw [← hR]
  obtain ⟨Q, hQ⟩ : ∃ Q, Q = RetX R w := ⟨_, rfl⟩
  rw [← hQ]
  have HQ := Lib.hid hQ
  have HR := Lib.hid hR
  have HKC := Lib.hid h
  have HOK := Lib.hid hok
  clear hQ hR h hok
  obtain ⟨iv, ov, lv, ev⟩ := x
  obtain ⟨qs1, h1⟩ := hc.ins
  obtain ⟨qs2, h2⟩ := hc.outs
  obtain ⟨qs3, h3⟩ := hc.locals
  have h4 := hc.eqs
  obtain ⟨p1, c1, e1, hd1, hm1⟩ := h1.slice
  obtain ⟨p2, c2, e2, hd2, hm2⟩ := h2.slice
  obtain ⟨p3, c3, e3, hd3, hm3⟩ := h3.slice
  obtain ⟨p4, c4, e4, hd4, hm4⟩ := h4.slice
  simp only at e1 e2 e3 e4
  subst e1 e2 e3 e4
  simp only at h1 h2 h3 h4
  obtain ⟨n1, hn1⟩ : ∃ n, n = c.ins.length := ⟨_, rfl⟩
  obtain ⟨n2, hn2⟩ : ∃ n, n = c.outs.length := ⟨_, rfl⟩
  obtain ⟨n3, hn3⟩ : ∃ n, n = c.locals.length := ⟨_, rfl⟩
  obtain ⟨n4, hn4⟩ : ∃ n, n = c.eqs.length := ⟨_, rfl⟩
  have HN := Lib.hid (And.intro hn1 (And.intro hn2 (And.intro hn3 hn4)))
  have hcI1 : (c1 : Int) ≤ 9223372036854775807 := by unfold maxLen at hm1; omega
  have hcI2 : (c2 : Int) ≤ 9223372036854775807 := by unfold maxLen at hm2; omega
  have hcI3 : (c3 : Int) ≤ 9223372036854775807 := by unfold maxLen at hm3; omega
  have hcI4 : (c4 : Int) ≤ 9223372036854775807 := by unfold maxLen at hm4; omega
  rw [← hn1] at h1 hd1
  rw [← hn2] at h2 hd2
  rw [← hn3] at h3 hd3
  rw [← hn4] at h4 hd4
  simp only [← hn1, ← hn2, ← hn3, ← hn4] at HKC hl
  have H1 := Lib.hid h1
  have H2 := Lib.hid h2
  have H3 := Lib.hid h3
  have HE := Lib.hid h4
  obtain ⟨hl1, hl2, hl3⟩ := hl
  have gl := HKC.out.box.lt
  clear hc h1 h2 h3 h4 hn1 hn2 hn3 hn4 hm1 hm2 hm3 hm4
  go_enter Try.func35, Try.ntmps35
  go_upto_region 1 with fail
  have xa := HKC.out.box.cells 1 _ rfl
  have xb := HKC.out.box.cells 2 _ rfl
  obtain ⟨wa, hwa⟩ : ∃ z, z = w := ⟨_, rfl⟩
  have HWA : Hid (Ext w wa) := Lib.hid (by rw [hwa]; exact Ext.refl _)
  rw [← hwa] at xa xb gl ⊢
  clear hwa
  obtain ⟨k1, hk1⟩ : ∃ k, k = vrCells c.outs qs2 := ⟨_, rfl⟩
  obtain ⟨k2, hk2⟩ : ∃ k, k = vrCells c.locals qs3 := ⟨_, rfl⟩
  have HA1 : Hid (SlC wa (.slice p2 n2 c2) n2 k1 ∧ (∀ u ∈ k1, u.oneCell' = true) ∧ k1.length = n2 * 3) := Lib.hid (by
    have h := H2.out.row.ext (HKC.out.ext.trans HWA.out)
    have hl := vrCells_len c.outs qs2 H2.out.len
    have ho := H2.out.one
    rw [← hk1] at h hl ho
    rw [← HN.out.2.1] at h hl
    exact ⟨h, ho, hl⟩)
  have HA2 : Hid (SlC wa (.slice p3 n3 c3) n3 k2 ∧ (∀ u ∈ k2, u.oneCell' = true) ∧ k2.length = n3 * 3) := Lib.hid (by
    have h := H3.out.row.ext (HKC.out.ext.trans HWA.out)
    have hl := vrCells_len c.locals qs3 H3.out.len
    have ho := H3.out.one
    rw [← hk2] at h hl ho
    rw [← HN.out.2.2.1] at h hl
    exact ⟨h, ho, hl⟩)
  have HKK := Lib.hid (And.intro hk1 hk2)
  have hq0 : wa.cell? ⟨X, 1, none⟩ = some (.slice p2 n2 c2) ∧ wa.cell? ⟨X, 2, none⟩ = some (.slice p3 n3 c3) := ⟨xa, xb⟩
  have HQQ : Hid (∀ w', Ext wa w' → w'.cell? ⟨X, 1, none⟩ = some (.slice p2 n2 c2) ∧ w'.cell? ⟨X, 2, none⟩ = some (.slice p3 n3 c3)) := Lib.hid (fun w' hx => ⟨hx.cell xa, hx.cell xb⟩)
  clear hk1 hk2 xa xb
  go_region_held3 (fun w' => w'.cell? ⟨X, 1, none⟩ = some (.slice p2 n2 c2) ∧ w'.cell? ⟨X, 2, none⟩ = some (.slice p3 n3 c3))
    (first | (with_reducible exact hq2) | (with_reducible exact hq1) | (with_reducible exact hq0) | exact HQQ.out _ ((Ext.refl wa).drew))
    (first
      | (refine step_append_slc _ rfl (.const (.slice none 0 0)) (.tmp 9) 23 rfl wa.heap.size 30 zV 3 48 Try.underlying23 infoVar rfl (by decide) (.slice none 0 0) 0 [] rfl (own_nil _ _ _ _) _ n2 k1 rfl (HA1.out.1.ext (Ext.refl wa).drew) HA1.out.2.2 HA1.out.2.1 (by unfold maxLen; omega) (by omega) (Nat.le_refl _) ?_; intro v1 w1 hown1 hg1 hat1; have hX1 : Ext wa w1 := ((Ext.refl wa).drew).trans (ext_grown_nil hg1); have hq1 := HQQ.out w1 hX1; clear hg1 hat1)
      | (refine step_append_slc _ rfl (.tmp 10) (.tmp 15) 23 rfl wa.heap.size 30 zV 3 48 Try.underlying23 infoVar rfl (by decide) v1 (0 + n2) ([] ++ k1) rfl hown1 _ n3 k2 rfl (HA2.out.1.ext hX1) HA2.out.2.2 HA2.out.2.1 (by unfold maxLen; omega) (by omega) hX1.size ?_; intro v2 w2 hown2 hg2 hat2; have hX2 : Ext wa w2 := (Kb.grown (S := v1.ownBlock.toList) hg2 (fun g hg => Option.mem_toList.2 hg)).ext hX1 (fun g hg => (hown1.lt g (Option.mem_toList.1 hg)).1); have hq2 := HQQ.out w2 hX2; have HO := Lib.hid (And.intro hown2 hX2); obtain ⟨pv, nvx, cv, hv2⟩ := own_slice3 hown2; subst hv2; clear hown2 hg2 hat2))
  obtain ⟨l, hll⟩ : ∃ l, l = c.outs ++ c.locals := ⟨_, rfl⟩
  have hnvx : nvx = l.length := by
    obtain ⟨a', c', e, -⟩ := SlC.of_owns HO.out.1
    simp only [Value.slice.injEq] at e
    rw [e.2.1, hll, List.length_append, HN.out.2.1, HN.out.2.2.1]
    omega
  obtain ⟨qs, hqs⟩ : ∃ q, q = qs2 ++ qs3 := ⟨_, rfl⟩
  have HV : Hid (VsIn W0 w2 (.slice pv nvx cv) l qs) := Lib.hid (by
    have h := SlC.of_owns HO.out.1
    rw [HKK.out.1, HKK.out.2] at h
    subst hll hqs
    exact (H2.out.ext (Ext.refl _)).app2 (H3.out.ext (Ext.refl _)) h (by rw [HN.out.2.1, HN.out.2.2.1, List.length_append]; omega) hnvx)
  have HOWN : Hid (w2.ownsRow wa.heap.size 30 3 (.slice pv nvx cv) nvx (vrCells l qs)) := Lib.hid (by
    have h := HO.out.1
    have e1 : vrCells l qs = [] ++ k1 ++ k2 := by rw [hll, hqs, vrCells_app _ _ _ _ H2.out.len, HKK.out.1, HKK.out.2]; rfl
    have e2 : 0 + n2 + n3 = nvx := by rw [hnvx, hll, List.length_append, HN.out.2.1, HN.out.2.2.1]; omega
    rw [e1]
    rw [e2] at h
    exact h)
  have hnvb : nvx ≤ n2 + n3 := by
    rw [hnvx, hll, List.length_append, HN.out.2.1, HN.out.2.2.1]; omega
  have HLL := Lib.hid hll
  have hnv := hnvx
  clear hll hqs hnvx hX1 hX2 hq0 hq1 hq2 hown1
  obtain ⟨pz, cz, e1, hdv, hmv⟩ := HV.out.slice
  simp only [Value.slice.injEq] at e1
  have hcv : (cv : Int) ≤ 9223372036854775807 := by rw [e1.2.2]; unfold maxLen at hmv; omega
  rw [← e1.2.2] at hdv
  rw [← hnv] at hdv
  clear e1 hmv
  have HRR : Hid (R = l.all fun v => decide (lookD d v.name ≠ 0)) := Lib.hid (by rw [HR.out, HLL.out]; rfl)
  have HKW := Lib.hid (HKC.out.next (HWA.out.trans HO.out.2))
  have HNM : Hid (∀ v ∈ l, v.name.size ≤ maxLen) := Lib.hid (fun v hv => by
    rw [HLL.out] at hv
    rcases List.mem_append.1 hv with h | h
    · exact (HOK.out.outs v h).name
    · exact (HOK.out.locals v h).name)
  go_upto_region 2 with fail
  go_loopw [18] (fun i wr => ∃ j : Nat, j ≤ nvx ∧ i = .int .i64 (j : Int) ∧ Hid (Ext w2 wr) ∧ Hid (R = (l.drop j).all fun v => decide (lookD d v.name ≠ 0))) (fun i _ => nvx - (intOf i).toNat)
  case atStart => exact ⟨0, Nat.zero_le _, rfl, Lib.hid (Ext.refl _), HRR⟩
  case round =>
    obtain ⟨j, hj, rfl, HS, HJ⟩ := hrel
    by_cases hlt : j < nvx
    · have hji : (j : Int) < (nvx : Int) := Int.ofNat_lt.2 hlt
      have hxl := HS.out
      obtain ⟨v, hv⟩ : ∃ v, (l)[j]? = some v := ⟨_, List.getElem?_eq_getElem (by rw [← hnv]; exact hlt)⟩
      obtain ⟨bv_, ov_, pq, cq, hpe, hqv, v0_, v1_, v2_, hev, hvl⟩ := (HV.out.ext hxl).at hv
      subst hpe
      obtain ⟨mq, hnq⟩ : ∃ n, n = v.clk.length := ⟨_, rfl⟩
      rw [← hnq] at v2_ hev hqv
      have hjv : j < cv := by omega
      have HVV := Lib.hid (And.intro hv (And.intro hev (And.intro hnq hqv)))
      have hxy : Ext wr (wr.alloc (.cells #[.string v.name, .int .i64 v.kind, .slice pq mq cq] 30)) := (Ext.refl wr).alloc _
      have hby : BoxV wr.heap.size [.string v.name, .int .i64 v.kind, .slice pq mq cq] (wr.alloc (.cells #[.string v.name, .int .i64 v.kind, .slice pq mq cq] 30)) := BoxV.of_row (heap_alloc_last wr _)
      have HXY := Lib.hid hxy
      clear hv hev hnq hqv
      go_upto_region 4 with fail
      generalize (wr.alloc (.cells #[.string v.name, .int .i64 v.kind, .slice pq mq cq] 30)) = wy at hby hxy HXY ⊢
      generalize wr.heap.size = Y at hby ⊢
      have d0 := hby.cells 0 _ rfl
      have d1 := hby.cells 1 _ rfl
      have d2 := hby.cells 2 _ rfl
      have hyl := hby.lt
      clear hby hxy v0_ v1_ v2_ hvl
      have HAD := Lib.hid (all_drop (fun v : VR => decide (lookD d v.name ≠ 0)) HVV.out.1)
      have hkw := HKW.out.next (HS.out.trans HXY.out)
      have g5 := hkw.box.cells 5 _ rfl
      have gl5 := hkw.box.lt
      have hlk : ∀ n' : Nat, (Instr.lookup 68 (.map (some D)) (.string v.name) false).run Try.prog (wy.drewN n') = .ok (.int .i64 (lookD d v.name)) (wy.drewN n') := fun n' => (hkw.next ((Ext.refl _).drewN n')).lookD (HNM.out v (List.mem_of_getElem? HVV.out.1))
      obtain ⟨ld, hld⟩ : ∃ z, z = lookD d v.name := ⟨_, rfl⟩
      have HLD := Lib.hid hld
      rw [← hld] at hlk
      clear hkw hld
      by_cases h0 : ld = 0
      · have q0 : (ld == 0) = true := by simpa using h0
        have HC : Hid (R = false) := Lib.hid (by rw [HJ.out, HAD.out, ← HLD.out, h0]; simp)
        clear h0
        (refine region_drew (by kernel_rfl) (by kernel_rfl) ?_; (repeat (go_big_quiet_step (fail))); refine wpQuiet_nil ?_; rintro _ ⟨nq, rfl⟩)
        go_wp2
        rw [HQ.out, HC.out]
        exact ⟨rfl, Lib.hid ((HWA.out.trans HO.out.2).trans ((HS.out.trans HXY.out).drewN _))⟩
      · have q0 : (ld == 0) = false := by simpa using h0
        have HC : Hid (R = (l.drop (j + 1)).all fun v => decide (lookD d v.name ≠ 0)) := Lib.hid (by rw [HJ.out, HAD.out, ← HLD.out]; simp [h0])
        clear h0
        (refine region_drew (by kernel_rfl) (by kernel_rfl) ?_; (repeat (go_big_quiet_step (fail))); refine wpQuiet_nil ?_; rintro _ ⟨nq, rfl⟩)
        go_wp2
        exact ⟨⟨j + 1, by omega, by go_num, Lib.hid ((HS.out.trans HXY.out).drewN _), HC⟩, by simp [intOf]; omega⟩
    · have hji : ¬ (j : Int) < (nvx : Int) := fun e => hlt (Int.ofNat_lt.1 e)
      obtain rfl : j = nvx := by omega
      have HC : Hid (R = true) := Lib.hid (by rw [HJ.out, hnv, List.drop_length]; rfl)
      go_wp2
      rw [HQ.out, HC.out]
      exact ⟨rfl, Lib.hid ((HWA.out.trans HO.out.2).trans HS.out)⟩
end Go.Proofs.Ytmommjagndadjaa
namespace Go.Proofs.Ytmommjagndadjaa
open Go.RowKit Go.Maps
set_option linter.unusedSimpArgs false
set_option linter.unusedVariables false
set_option maxRecDepth 100000

def RetTw (W0 : World) (x : S4) (X M D : Nat) (c : CP) (r : Bool) (w : World) (e : Ending) (w' : World) : Prop :=
  ∃ (t : TQ) (d : DT), e = .returned (.bool r) ∧ Hid (KC W0 x X M D t d w' ∧ Kb [M, D] w w' ∧ (r = true → t.vt = c.tab ∧ d = c.defs))
theorem putT_no {t : VT} {v : VR} {l : List VR} (h : thereT t v.name = true) : putT t (v :: l) = (t, false) := by rw [putT, if_pos h]
theorem putT_yes {t : VT} {v : VR} {l : List VR} (h : thereT t v.name = false) : putT t (v :: l) = putT (v :: t) l := by rw [putT, if_neg (by rw [h]; simp)]
theorem putD_no {t : DT} {i : Int} {q : EQ} {l : List EQ} (h : lookD t q.name ≠ 0) : putD t i (q :: l) = (t, false) := by rw [putD, if_pos h]
theorem putD_yes {t : DT} {i : Int} {q : EQ} {l : List EQ} (h : lookD t q.name = 0) : putD t i (q :: l) = putD ((q.name, i + 1) :: t) (i + 1) l := by rw [putD, if_neg (by simpa using h)]
theorem drop_at {α : Type} {l : List α} {j : Nat} {x : α} (h : l[j]? = some x) : l.drop j = x :: l.drop (j + 1) := by
  obtain ⟨h1, h2⟩ := List.getElem?_eq_some_iff.1 h
  rw [List.drop_eq_getElem_cons h1, h2]
set_option maxHeartbeats 16000000 in
theorem ctwice_any {W0 : World} {c : CP} {x : S4} {X M D : Nat} {w : World} (hc : CPIn W0 c x) (h : KC W0 x X M D [] [] w) (hok : okC c) (hl : c.ins.length ≤ 20000 ∧ c.outs.length ≤ 20000 ∧ c.locals.length ≤ 20000) (hle : c.eqs.length ≤ 20000) :
    Calls Try.prog 32 #[.pointer (some ⟨X, 0, none⟩)] w (RetTw W0 x X M D c (twiceC c) w) := by
  obtain ⟨R, hR⟩ : ∃ R, R = twiceC c := ⟨_, rfl⟩
  rw [← hR]
  obtain ⟨Q, hQ⟩ : ∃ Q, Q = RetTw W0 x X M D c R w := ⟨_, rfl⟩
  rw [← hQ]
  have HQ := Lib.hid hQ
  have HR := Lib.hid hR
  have HVS := Lib.hid (cvars_any W0 c x w hc h.ext ⟨by omega, by omega, by omega⟩)
  obtain ⟨y, hy⟩ : ∃ y, y = x := ⟨_, rfl⟩
  have HKC : Hid (KC W0 y X M D [] [] w) := Lib.hid (by rw [hy]; exact h)
  have HKC0 := Lib.hid h
  have HOK := Lib.hid hok
  have HQ2 : Hid (Q = RetTw W0 y X M D c R w) := Lib.hid (by rw [hy]; exact hQ)
  clear hQ hR h hok HQ
  obtain ⟨iv, ov, lv, ev⟩ := x
  obtain ⟨qs1, h1⟩ := hc.ins
  obtain ⟨qs2, h2⟩ := hc.outs
  obtain ⟨qs3, h3⟩ := hc.locals
  have h4 := hc.eqs
  obtain ⟨p1, c1, e1, hd1, hm1⟩ := h1.slice
  obtain ⟨p2, c2, e2, hd2, hm2⟩ := h2.slice
  obtain ⟨p3, c3, e3, hd3, hm3⟩ := h3.slice
  obtain ⟨p4, c4, e4, hd4, hm4⟩ := h4.slice
  simp only at e1 e2 e3 e4
  subst e1 e2 e3 e4
  simp only at h1 h2 h3 h4
  obtain ⟨n1, hn1⟩ : ∃ n, n = c.ins.length := ⟨_, rfl⟩
  obtain ⟨n2, hn2⟩ : ∃ n, n = c.outs.length := ⟨_, rfl⟩
  obtain ⟨n3, hn3⟩ : ∃ n, n = c.locals.length := ⟨_, rfl⟩
  obtain ⟨n4, hn4⟩ : ∃ n, n = c.eqs.length := ⟨_, rfl⟩
  have HN := Lib.hid (And.intro hn1 (And.intro hn2 (And.intro hn3 hn4)))
  have hcI1 : (c1 : Int) ≤ 9223372036854775807 := by unfold maxLen at hm1; omega
  have hcI2 : (c2 : Int) ≤ 9223372036854775807 := by unfold maxLen at hm2; omega
  have hcI3 : (c3 : Int) ≤ 9223372036854775807 := by unfold maxLen at hm3; omega
  have hcI4 : (c4 : Int) ≤ 9223372036854775807 := by unfold maxLen at hm4; omega
  rw [← hn1] at h1 hd1
  rw [← hn2] at h2 hd2
  rw [← hn3] at h3 hd3
  rw [← hn4] at h4 hd4
  simp only [← hn1, ← hn2, ← hn3, ← hn4] at HVS HKC0 hl hle hy
  have H1 := Lib.hid h1
  have H2 := Lib.hid h2
  have H3 := Lib.hid h3
  have HE := Lib.hid h4
  obtain ⟨hl1, hl2, hl3⟩ := hl
  have gl := HKC0.out.box.lt
  clear hc h1 h2 h3 h4 hn1 hn2 hn3 hn4 hm1 hm2 hm3 hm4
  have g0 := HKC0.out.box.cells 0 _ rfl
  have g1 := HKC0.out.box.cells 1 _ rfl
  have g2 := HKC0.out.box.cells 2 _ rfl
  have g3 := HKC0.out.box.cells 3 _ rfl
  have HY := Lib.hid hy
  clear hy
  obtain ⟨l, hll⟩ : ∃ l, l = c.vars := ⟨_, rfl⟩
  rw [← hll] at HVS
  have hnl : l.length = n1 + n2 + n3 := by
    rw [hll, HN.out.1, HN.out.2.1, HN.out.2.2.1]
    unfold CP.vars
    simp only [List.length_append]
  obtain ⟨nv, hnv⟩ : ∃ n, n = l.length := ⟨_, rfl⟩
  rw [← hnv] at hnl
  have hnb : nv ≤ 60000 := by omega
  clear hnl
  have HLL := Lib.hid hll
  clear hll
  have HF3 : Hid (Calls Try.prog 29 #[.agg #[.slice p1 n1 c1, .slice p2 n2 c2, .slice p3 n3 c3, .slice p4 n4 c4]] w fun e w' => ∃ p cap qs, e = .returned (.slice p nv cap) ∧ Hid (VsIn W0 w' (.slice p nv cap) l qs ∧ Ext w w' ∧ w'.ownsRow w.heap.size 30 3 (.slice p nv cap) nv (vrCells l qs))) := Lib.hid (HVS.out.mono (fun e w' ⟨p, cap, qs, h1, h2⟩ => ⟨p, cap, qs, by rw [hnv]; exact h1, Lib.hid (by rw [hnv]; exact h2.out)⟩))
  have HNV := Lib.hid hnv
  clear HVS hnv
  go_enter Try.func32, Try.ntmps32
  go_upto_region 2 with (first | (go_at_call 29; refine HF3.out.mono ?_; rintro e1 w1 ⟨pv, cv, qs, rfl, H1V⟩) | fail)
  have HV : Hid (VsIn W0 w1 (.slice pv nv cv) l qs) := Lib.hid H1V.out.1
  obtain ⟨pz, cz, e1, hdv, hmv⟩ := HV.out.slice
  simp only [Value.slice.injEq] at e1
  have hcv : (cv : Int) ≤ 9223372036854775807 := by rw [e1.2.2]; unfold maxLen at hmv; omega
  rw [← e1.2.2] at hdv
  rw [← HNV.out] at hdv
  clear e1 hmv
  have HNM : Hid (∀ v ∈ l, v.name.size ≤ maxLen) := Lib.hid (fun v hv => by
    rw [HLL.out] at hv
    unfold CP.vars at hv
    rcases List.mem_append.1 hv with h | h
    · rcases List.mem_append.1 h with h | h
      · exact (HOK.out.ins v h).name
      · exact (HOK.out.outs v h).name
    · exact (HOK.out.locals v h).name)
  have HTR : Hid (R = ((putT [] l).2 && (putD [] 0 c.eqs).2)) := Lib.hid (by rw [HR.out, HLL.out]; rfl)
  have HMD : Hid (M ≠ D) := Lib.hid HKC.out.md
  have HMW : Hid (M < w.heap.size ∧ D < w.heap.size) := Lib.hid ⟨HKC.out.vmap.lt, HKC.out.dmap.lt⟩
  clear g0 g1 g2 g3 gl
  go_loopw [15] (fun i wr => ∃ (j : Nat) (tq : TQ), j ≤ nv ∧ i = .int .i64 (j : Int) ∧ tq.length = j ∧ Hid (KC W0 y X M D tq [] wr ∧ Kb [M, D] w wr ∧ Kb [M, D] w1 wr) ∧ Hid (putT [] l = putT tq.vt (l.drop j))) (fun i _ => nv - (intOf i).toNat)
  case atStart => exact ⟨0, [], Nat.zero_le _, rfl, rfl, Lib.hid ⟨HKC.out.next H1V.out.2.1, Kb.of_ext H1V.out.2.1, Kb.refl _ _⟩, Lib.hid rfl⟩
  case round =>
    obtain ⟨j, tq, hj, rfl, htl, HS, HJ⟩ := hrel
    by_cases hlt : j < nv
    · have hji : (j : Int) < (nv : Int) := Int.ofNat_lt.2 hlt
      have hxl : Ext wr wr := Ext.refl _
      have HV : Hid (VsIn W0 wr (.slice pv nv cv) l qs) := Lib.hid (by
        have h1 := HS.out.2.2.row H1V.out.2.2 (fun g hg e => by
          have h2 := (H1V.out.2.2.lt g e).1
          have h3 := HMW.out
          simp at hg
          rcases hg with rfl | rfl <;> omega)
        have h4 := SlC.of_owns h1
        rw [HNV.out] at h1 h4 ⊢
        exact ⟨HV.out.len, h4, HV.out.clk⟩)
      obtain ⟨v, hv⟩ : ∃ v, (l)[j]? = some v := ⟨_, List.getElem?_eq_getElem (by rw [← HNV.out]; exact hlt)⟩
      obtain ⟨bv_, ov_, pq, cq, hpe, hqv, v0_, v1_, v2_, hev, hvl⟩ := (HV.out.ext hxl).at hv
      subst hpe
      obtain ⟨mq, hnq⟩ : ∃ n, n = v.clk.length := ⟨_, rfl⟩
      rw [← hnq] at v2_ hev hqv
      have hjv : j < cv := by omega
      have HVV := Lib.hid (And.intro hv (And.intro hev (And.intro hnq hqv)))
      have HVQ := Lib.hid hqv
      have hqE := HVV.out.2.1
      have HVB : Hid (∀ n', n' = wr.heap.size → M ≠ n' ∧ D ≠ n') := Lib.hid (fun n' e => by
        have h1 := HS.out.1.vmap.lt
        have h2 := HS.out.1.dmap.lt
        omega)
      clear hqE
      have hxy : Ext wr (wr.alloc (.cells #[.string v.name, .int .i64 v.kind, .slice pq mq cq] 30)) := (Ext.refl wr).alloc _
      have hby : BoxV wr.heap.size [.string v.name, .int .i64 v.kind, .slice pq mq cq] (wr.alloc (.cells #[.string v.name, .int .i64 v.kind, .slice pq mq cq] 30)) := BoxV.of_row (heap_alloc_last wr _)
      have HXY := Lib.hid hxy
      clear hv hev hnq hqv
      go_upto_region 4 with fail
      generalize (wr.alloc (.cells #[.string v.name, .int .i64 v.kind, .slice pq mq cq] 30)) = wy at hby hxy HXY ⊢
      generalize wr.heap.size = Y at hby ⊢
      have d0 := hby.cells 0 _ rfl
      have d1 := hby.cells 1 _ rfl
      have d2 := hby.cells 2 _ rfl
      have hyl := hby.lt
      clear hby hxy v0_ v1_ v2_ hvl
      have HKY := Lib.hid (HS.out.1.next HXY.out)
      obtain ⟨nm_, k_, pp, mm, cc, hth⟩ := HKY.out.thereA (HNM.out v (List.mem_of_getElem? HVV.out.1))
      have hl1 := hth _ ((Ext.refl wy).drew)
      have hl2 := hth _ (((Ext.refl wy).alloc (.cells #[.string ⟨#[]⟩, .int .i64 0, .slice none 0 0] 30)).drew)
      obtain ⟨th, hthb⟩ : ∃ z, z = thereT tq.vt v.name := ⟨_, rfl⟩
      have HTH := Lib.hid hthb
      rw [← hthb] at hl1 hl2
      have g4 := HKY.out.box.cells 4 _ rfl
      have gl := HKY.out.box.lt
      clear hth hthb
      have HQ4 : Hid (∀ w', Ext wy w' → w'.cell? ⟨X, 4, none⟩ = some (.map (some M)) ∧ w'.cell? ⟨Y, 0, none⟩ = some (.string v.name)) := Lib.hid (fun w' hx => ⟨hx.cell g4, hx.cell d0⟩)
      have HD := Lib.hid (And.intro d0 (And.intro d1 d2))
      have HYL := Lib.hid hyl
      clear d1 d2
      cases th with
      | true =>
        go_region_held3 (fun w' => w'.cell? ⟨X, 4, none⟩ = some (.map (some M)) ∧ w'.cell? ⟨Y, 0, none⟩ = some (.string v.name))
          (exact HQ4.out _ (by repeat first | exact Ext.refl _ | assumption | refine Ext.drew ?_ | refine Ext.drewN ?_ _ | refine Ext.extBy ?_ _ | refine Ext.alloc ?_ _ | refine Ext.setCell ?_ (by simp; try omega) _ | (refine Ext.trans ?_ (by assumption))))
          (fail)
        all_goals
          go_wp2_with fail
          rw [HQ2.out]
          have h1 : R = false := by rw [HTR.out, HJ.out, drop_at HVV.out.1, putT_no HTH.out.symm]; rfl
          rw [h1]
          refine ⟨tq, [], rfl, Lib.hid ⟨HKY.out.next (by repeat first | exact Ext.refl _ | assumption | refine Ext.drew ?_ | refine Ext.drewN ?_ _ | refine Ext.extBy ?_ _ | refine Ext.alloc ?_ _ | refine Ext.setCell ?_ (by simp; try omega) _ | (refine Ext.trans ?_ (by assumption))), (HS.out.2.1.trans (Kb.of_ext HXY.out)).trans (Kb.of_ext (by repeat first | exact Ext.refl _ | assumption | refine Ext.drew ?_ | refine Ext.drewN ?_ _ | refine Ext.extBy ?_ _ | refine Ext.alloc ?_ _ | refine Ext.setCell ?_ (by simp; try omega) _ | (refine Ext.trans ?_ (by assumption)))), fun e => by cases e⟩⟩
      | false =>
        go_region_held3 (fun w' => w'.cell? ⟨X, 4, none⟩ = some (.map (some M)) ∧ w'.cell? ⟨Y, 0, none⟩ = some (.string v.name))
          (exact HQ4.out _ (by repeat first | exact Ext.refl _ | assumption | refine Ext.drew ?_ | refine Ext.drewN ?_ _ | refine Ext.extBy ?_ _ | refine Ext.alloc ?_ _ | refine Ext.setCell ?_ (by simp; try omega) _ | (refine Ext.trans ?_ (by assumption))))
          (fail)
        all_goals
          go_upto_region 7 with fail
          have HXZ : Hid (Ext wy (wy.alloc (.cells #[.string nm_, .int .i64 k_, .slice pp mm cc] 30)).drew) := Lib.hid (by repeat first | exact Ext.refl _ | assumption | refine Ext.drew ?_ | refine Ext.drewN ?_ _ | refine Ext.extBy ?_ _ | refine Ext.alloc ?_ _ | refine Ext.setCell ?_ (by simp; try omega) _ | (refine Ext.trans ?_ (by assumption)))
          generalize (wy.alloc (.cells #[.string nm_, .int .i64 k_, .slice pp mm cc] 30)).drew = wz at HXZ ⊢
          have HKZ := Lib.hid (HKY.out.next HXZ.out)
          have d0 := HXZ.out.cell HD.out.1
          have d1 := HXZ.out.cell HD.out.2.1
          have d2 := HXZ.out.cell HD.out.2.2
          have hyl := Nat.lt_of_lt_of_le HYL.out HXZ.out.size
          have g4 := HKZ.out.box.cells 4 _ rfl
          have gl := HKZ.out.box.lt
          have htl2 : tq.length ≤ 100000 := by omega
          clear hl1 hl2
          (refine region_drew_tail 7 (by kernel_rfl) (by kernel_rfl) ?_; simp only [List.take_succ_cons, List.take_zero, List.drop_succ_cons, List.drop_zero]; (repeat (go_big_quiet_step (fail))); refine wpQuiet_nil ?_; rintro _ ⟨nq, rfl⟩)
          obtain ⟨w9, hrun, hk9, hu9⟩ := (HKZ.out.next ((Ext.refl wz).drewN nq)).putV v (.slice pq mq cq) HVV.out.2.1 (HNM.out v (List.mem_of_getElem? HVV.out.1)) htl2
          have H9 := Lib.hid (And.intro hk9 hu9)
          clear hk9 hu9
          go_wp2
          have hkz : Kb [M, D] wr w9 := (Kb.of_ext (HXY.out.trans (HXZ.out.drewN nq))).trans (H9.out.1.mono (by simp))
          refine ⟨⟨j + 1, (v, .slice pq mq cq) :: tq, by omega, by go_num, by simp; omega, Lib.hid ⟨H9.out.2, HS.out.2.1.trans hkz, HS.out.2.2.trans hkz⟩, Lib.hid ?_⟩, by simp [intOf]; omega⟩
          rw [HJ.out, drop_at HVV.out.1, putT_yes HTH.out.symm]
          rfl
    · have hji : ¬ (j : Int) < (nv : Int) := fun e => hlt (Int.ofNat_lt.1 e)
      obtain rfl : j = nv := by omega
      have HPT : Hid (putT [] l = (tq.vt, true)) := Lib.hid (by rw [HJ.out, HNV.out, List.drop_length]; rfl)
      have g3 := HS.out.1.box.cells 3 _ rfl
      have gl := HS.out.1.box.lt
      rw [HY.out] at g3
      have HRE : Hid (R = (putD [] 0 c.eqs).2) := Lib.hid (by rw [HTR.out, HPT.out]; rfl)
      obtain ⟨wq, hwq⟩ : ∃ x, x = wr := ⟨_, rfl⟩
      subst hwq
      go_upto_region 10 with fail
      obtain ⟨dk, hdk⟩ : ∃ z, z = j := ⟨_, rfl⟩
      clear g3 gl hdk
      go_loopw [44] (fun i wr => ∃ (k : Nat) (dd : DT), k ≤ n4 ∧ i = .int .i64 (k : Int) ∧ dd.length = k ∧ Hid (KC W0 y X M D tq dd wr ∧ Kb [M, D] wq wr) ∧ Hid (putD [] 0 c.eqs = putD dd (k : Int) (c.eqs.drop k))) (fun i _ => n4 - (intOf i).toNat)
      case atStart => exact ⟨0, [], Nat.zero_le _, rfl, rfl, Lib.hid ⟨HS.out.1, Kb.refl _ _⟩, Lib.hid rfl⟩
      case round =>
        obtain ⟨k, dd, hk, rfl, hdl, HS2, HJ2⟩ := hrel
        by_cases hlt2 : k < n4
        · have hji2 : (k : Int) < (n4 : Int) := Int.ofNat_lt.2 hlt2
          have hxw : Ext W0 wr := HS2.out.1.ext
          obtain ⟨q, hq⟩ : ∃ q, c.eqs[k]? = some q := ⟨_, List.getElem?_eq_getElem (by have := HN.out.2.2.2; omega)⟩
          obtain ⟨b, o, pk, ck, hpe, hkq, hcq, hbl⟩ := HE.out.at hq
          subst hpe
          obtain ⟨nk, hnk⟩ : ∃ n, n = q.e.kids.length := ⟨_, rfl⟩
          rw [← hnk] at hkq hcq
          have hjc : k < c4 := by omega
          have hbl2 := Nat.lt_of_lt_of_le hbl hxw.size
          have c0_ := hxw.cell (hcq 0 _ rfl)
          have c1_ := hxw.cell (hcq 1 _ rfl)
          have c2_ := hxw.cell (hcq 2 _ rfl)
          have c3_ := hxw.cell (hcq 3 _ rfl)
          have c4_ := hxw.cell (hcq 4 _ rfl)
          have c5_ := hxw.cell (hcq 5 _ rfl)
          have c6_ := hxw.cell (hcq 6 _ rfl)
          have c7_ := hxw.cell (hcq 7 _ rfl)
          have c8_ := hxw.cell (hcq 8 _ rfl)
          have c9_ := hxw.cell (hcq 9 _ rfl)
          have c10_ := hxw.cell (hcq 10 _ rfl)
          have c11_ := hxw.cell (hcq 11 _ rfl)
          have c12_ := hxw.cell (hcq 12 _ rfl)
          rw [Nat.add_zero] at c0_
          have HX := Lib.hid (And.intro hq (And.intro hkq hnk))
          have hxy : Ext wr (wr.alloc (.cells #[.int .i64 q.form, .string q.name, .int .i64 q.e.form, .int .i64 q.e.sub, .int .i64 q.e.kind, .int .i64 q.e.n, .string q.e.name, .slice pk nk ck, .int .i64 q.init, .string q.next, .string q.reset, .int .i64 q.period, .int .i64 q.offset] 35)) := (Ext.refl wr).alloc _
          have hby : BoxV wr.heap.size [.int .i64 q.form, .string q.name, .int .i64 q.e.form, .int .i64 q.e.sub, .int .i64 q.e.kind, .int .i64 q.e.n, .string q.e.name, .slice pk nk ck, .int .i64 q.init, .string q.next, .string q.reset, .int .i64 q.period, .int .i64 q.offset] (wr.alloc (.cells #[.int .i64 q.form, .string q.name, .int .i64 q.e.form, .int .i64 q.e.sub, .int .i64 q.e.kind, .int .i64 q.e.n, .string q.e.name, .slice pk nk ck, .int .i64 q.init, .string q.next, .string q.reset, .int .i64 q.period, .int .i64 q.offset] 35)) := BoxV.of_row (heap_alloc_last wr _)
          have HXY := Lib.hid hxy
          clear hq hkq hcq hbl hnk hxw
          go_upto_region 12 with fail
          generalize (wr.alloc (.cells #[.int .i64 q.form, .string q.name, .int .i64 q.e.form, .int .i64 q.e.sub, .int .i64 q.e.kind, .int .i64 q.e.n, .string q.e.name, .slice pk nk ck, .int .i64 q.init, .string q.next, .string q.reset, .int .i64 q.period, .int .i64 q.offset] 35)) = wy at hby hxy HXY ⊢
          generalize wr.heap.size = Y at hby ⊢
          have d0 := hby.cells 0 _ rfl
          have d1 := hby.cells 1 _ rfl
          have d2 := hby.cells 2 _ rfl
          have d3 := hby.cells 3 _ rfl
          have d4 := hby.cells 4 _ rfl
          have d5 := hby.cells 5 _ rfl
          have d6 := hby.cells 6 _ rfl
          have d7 := hby.cells 7 _ rfl
          have d8 := hby.cells 8 _ rfl
          have d9 := hby.cells 9 _ rfl
          have d10 := hby.cells 10 _ rfl
          have d11 := hby.cells 11 _ rfl
          have d12 := hby.cells 12 _ rfl
          have hyl := hby.lt
          clear hby hxy hbl2 c0_ c1_ c2_ c3_ c4_ c5_ c6_ c7_ c8_ c9_ c10_ c11_ c12_
          have HKY := Lib.hid (HS2.out.1.next HXY.out)
          have hqn : q.name.size ≤ maxLen := (HOK.out.eqs q (List.mem_of_getElem? HX.out.1)).name
          have hlk : ∀ n' : Nat, (Instr.lookup 68 (.map (some D)) (.string q.name) false).run Try.prog (wy.drewN n') = .ok (.int .i64 (lookD dd q.name)) (wy.drewN n') := fun n' => (HKY.out.next ((Ext.refl _).drewN n')).lookD hqn
          have HQN := Lib.hid hqn
          obtain ⟨ld, hld⟩ : ∃ z, z = lookD dd q.name := ⟨_, rfl⟩
          have HLD := Lib.hid hld
          rw [← hld] at hlk
          have g5 := HKY.out.box.cells 5 _ rfl
          have gl := HKY.out.box.lt
          clear hld hqn
          by_cases h0 : ld = 0
          · have q0 : (ld != 0) = false := by simpa using h0
            have HC : Hid (putD [] 0 c.eqs = putD ((q.name, (k : Int) + 1) :: dd) ((k : Int) + 1) (c.eqs.drop (k + 1))) := Lib.hid (by rw [HJ2.out, drop_at HX.out.1, putD_yes (by rw [← HLD.out, h0])])
            clear h0
            go_upto_region 12 with fail
            (refine region_drew (by kernel_rfl) (by kernel_rfl) ?_; (repeat (go_big_quiet_step (fail))); refine wpQuiet_nil ?_; rintro _ ⟨nq, rfl⟩)
            have hxd : Ext wy (wy.drewN nq) := (Ext.refl wy).drewN nq
            have HXD := Lib.hid hxd
            generalize wy.drewN nq = wz at hxd HXD ⊢
            replace d1 := hxd.cell d1
            replace hyl := Nat.lt_of_lt_of_le hyl hxd.size
            replace g5 := hxd.cell g5
            replace gl := Nat.lt_of_lt_of_le gl hxd.size
            clear hxd hlk d0 d2 d3 d4 d5 d6 d7 d8 d9 d10 d11 d12
            have hk1 : ((k : Int) + 1) < 9223372036854775807 := by omega
            have hdl2 : dd.length ≤ 100000 := by omega
            go_upto_region 14 with fail
            (refine region_drew_tail 8 (by kernel_rfl) (by kernel_rfl) ?_; simp only [List.take_succ_cons, List.take_zero, List.drop_succ_cons, List.drop_zero]; (repeat (go_big_quiet_step (fail))); refine wpQuiet_nil ?_; rintro _ ⟨nq, rfl⟩)
            obtain ⟨w9, hrun, hk9, hu9⟩ := (HKY.out.next (HXD.out.drewN nq)).putD q.name ((k : Int) + 1) HQN.out hdl2
            have H9 := Lib.hid (And.intro hk9 hu9)
            clear hk9 hu9
            go_wp2
            refine ⟨⟨k + 1, (q.name, (k : Int) + 1) :: dd, by omega, by go_num, by simp; omega, Lib.hid ⟨H9.out.2, (HS2.out.2.trans (Kb.of_ext (HXY.out.trans (HXD.out.drewN nq)))).trans (H9.out.1.mono (by simp))⟩, Lib.hid ?_⟩, by simp [intOf]; omega⟩
            rw [HC.out]
            rfl
          · have q0 : (ld != 0) = true := by simpa using h0
            have HC : Hid (R = false) := Lib.hid (by rw [HRE.out, HJ2.out, drop_at HX.out.1, putD_no (by rw [← HLD.out]; exact h0)])
            clear h0
            (refine region_drew (by kernel_rfl) (by kernel_rfl) ?_; (repeat (go_big_quiet_step (fail))); refine wpQuiet_nil ?_; rintro _ ⟨nq, rfl⟩)
            go_wp2
            rw [HQ2.out, HC.out]
            refine ⟨tq, dd, rfl, Lib.hid ⟨HKY.out.next ((Ext.refl _).drewN _), (HS.out.2.1.trans HS2.out.2).trans (Kb.of_ext (HXY.out.drewN _)), fun e => by cases e⟩⟩
        · have hji2 : ¬ (k : Int) < (n4 : Int) := fun e => hlt2 (Int.ofNat_lt.1 e)
          obtain rfl : k = n4 := by omega
          have HPD : Hid (putD [] 0 c.eqs = (dd, true)) := Lib.hid (by rw [HJ2.out, HN.out.2.2.2, List.drop_length]; rfl)
          go_wp2
          rw [HQ2.out, show R = true by rw [HRE.out, HPD.out]]
          refine ⟨tq, dd, rfl, Lib.hid ⟨HS2.out.1, HS.out.2.1.trans HS2.out.2, fun _ => ⟨?_, ?_⟩⟩⟩
          · unfold CP.tab
            rw [← HLL.out, HPT.out]
          · unfold CP.defs
            rw [HPD.out]
end Go.Proofs.Ytmommjagndadjaa

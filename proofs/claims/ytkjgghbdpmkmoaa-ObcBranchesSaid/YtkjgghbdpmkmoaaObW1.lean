/-
  The walk over an expression's parts, whatever is done with each.
  Condition: the expression lies in memory, and what is done keeps its contract.
-/
import Derived.Test.YtkjgghbdpmkmoaaObGo
import Derived.Test.YtkjgghbdpmkmoaaObMem2
namespace Go.Proofs.Ytkjgghbdpmkmoaa
open Go.RowKit
set_option linter.unusedSimpArgs false
set_option linter.unusedVariables false
set_option maxRecDepth 100000

mutual
def okE : CE → Prop
  | .mk f s k n nm ks => I64 f ∧ I64 s ∧ I64 k ∧ I64 n ∧ nm.size ≤ maxLen ∧ okK ks
def okK : List CE → Prop
  | [] => True
  | k :: ks => okE k ∧ okK ks
end
theorem okK.at : ∀ {l : List CE} {k : Nat} {e : CE}, okK l → l[k]? = some e → okE e
  | [], _, _, _, h => by simp at h
  | x :: l, 0, e, h, hk => by
    unfold okK at h
    simp at hk
    subst hk
    exact h.1
  | x :: l, k + 1, e, h, hk => by
    unfold okK at h
    exact okK.at h.2 (by simpa using hk)
theorem okE.kids {e : CE} (h : okE e) : okK e.kids := by
  cases e with
  | mk f s k n nm ks => unfold okE at h; exact h.2.2.2.2.2
theorem okE.name {e : CE} (h : okE e) : e.name.size ≤ maxLen := by
  cases e with
  | mk f s k n nm ks => unfold okE at h; exact h.2.2.2.2.1
theorem okE.ints {e : CE} (h : okE e) : I64 e.form ∧ I64 e.sub ∧ I64 e.kind ∧ I64 e.n := by
  cases e with
  | mk f s k n nm ks => unfold okE at h; exact ⟨h.1, h.2.1, h.2.2.1, h.2.2.2.1⟩
/-- What is told where a state goes along. -/
def RetB {σ : Type} (S : List Nat) (St : σ → World → Prop) (r : σ × Bool) (w : World) (e : Ending) (w' : World) : Prop :=
  e = .returned (.bool r.2) ∧ Hid (Kb S w w' ∧ St r.1 w')
/-- A function value that asks something of an expression, with a state. -/
structure CloP {σ : Type} (W0 : World) (S : List Nat) (St : σ → World → Prop) (step : σ → CE → σ × Bool) (fn : FuncId) (caps : Array Value) : Prop where
  st : ∀ a w w', St a w → Ext w w' → St a w'
  off : ∀ k ∈ S, W0.heap.size ≤ k
  lts : ∀ a w, St a w → ∀ k ∈ S, k < w.heap.size
  enter : ∀ args w, Sem.run Try.prog (callFunc fn args) w = .ok (.enter fn args) w
  call : ∀ a w e kv, Ext W0 w → St a w → KIn W0 e kv → okE e → Calls Try.prog fn (#[eVal e kv] ++ caps) w (RetB S St (step a e) w)
set_option maxHeartbeats 8000000 in
theorem parts_at {σ : Type} (W0 : World) (S : List Nat) (St : σ → World → Prop) (step : σ → CE → σ × Bool) (fn : FuncId) (caps : Array Value) (HC : CloP W0 S St step fn caps) :
    ∀ (N : Nat) (e : CE), SizeOf.sizeOf e < N → ∀ (kv : Value) (a : σ) (w : World), Ext W0 w → St a w → KIn W0 e kv → okE e →
    Calls Try.prog 25 #[eVal e kv, .func (.func fn) #[] caps] w (RetB S St (gpE step e a) w) := by
  intro N
  induction N with
  | zero => intro e h; omega
  | succ N ih =>
    intro e hN kv a w hx hst hk hok
    have HIH := Lib.hid ih
    have HW := Lib.hid (And.intro HC (And.intro hN (And.intro hx (And.intro hst (And.intro hk hok)))))
    obtain ⟨R, hR⟩ : ∃ R, R = gpE step e a := ⟨_, rfl⟩
    rw [← hR]
    obtain ⟨Q, hQ⟩ : ∃ Q, Q = RetB S St R w := ⟨_, rfl⟩
    rw [← hQ]
    have HQ := Lib.hid hQ
    have HR := Lib.hid hR
    obtain ⟨p, c, rfl, hkc, hcm⟩ := hk.slice
    obtain ⟨n, hn⟩ : ∃ n, n = e.kids.length := ⟨_, rfl⟩
    rw [← hn] at hkc ⊢
    have hcI : (c : Int) ≤ 9223372036854775807 := by unfold maxLen at hcm; omega
    clear hcm
    have HN := Lib.hid hn
    obtain ⟨f, hf⟩ : ∃ f, f = e.form := ⟨_, rfl⟩
    obtain ⟨s, hs⟩ : ∃ s, s = e.sub := ⟨_, rfl⟩
    obtain ⟨k, hk2⟩ : ∃ s, s = e.kind := ⟨_, rfl⟩
    obtain ⟨nn, hnn⟩ : ∃ s, s = e.n := ⟨_, rfl⟩
    obtain ⟨nm, hnm⟩ : ∃ s, s = e.name := ⟨_, rfl⟩
    have HE := Lib.hid (show eVal e (.slice p n c) = .agg #[.int .i64 f, .int .i64 s, .int .i64 k, .int .i64 nn, .string nm, .slice p n c] by rw [hf, hs, hk2, hnn, hnm]; rfl)
    rw [HE.out]
    have hcf := HC.enter
    clear hQ hR hn hf hs hk2 hnn hnm hx hst hk hok hN HC ih
    go_enter Try.func25, Try.ntmps25
    go_upto_region 1 with fail
    have hbx : BoxV w.heap.size [.int .i64 f, .int .i64 s, .int .i64 k, .int .i64 nn, .string nm, .slice p n c] (w.alloc (.cells #[.int .i64 f, .int .i64 s, .int .i64 k, .int .i64 nn, .string nm, .slice p n c] 35)) := BoxV.of_row (heap_alloc_last w _)
    have hxb : Ext w (w.alloc (.cells #[.int .i64 f, .int .i64 s, .int .i64 k, .int .i64 nn, .string nm, .slice p n c] 35)) := (Ext.refl w).alloc _
    have hXS : w.heap.size ∉ S := fun e1 => absurd (HW.out.1.lts a w HW.out.2.2.2.1 _ e1) (Nat.lt_irrefl _)
    generalize w.alloc (.cells #[.int .i64 f, .int .i64 s, .int .i64 k, .int .i64 nn, .string nm, .slice p n c] 35) = wb at hbx hxb ⊢
    generalize w.heap.size = X at hbx hXS ⊢
    have HB := Lib.hid (And.intro hbx (And.intro hxb hXS))
    have p0 := hbx.cells 0 _ rfl
    have p1 := hbx.cells 1 _ rfl
    have p2 := hbx.cells 2 _ rfl
    have p3 := hbx.cells 3 _ rfl
    have p4 := hbx.cells 4 _ rfl
    have p5 := hbx.cells 5 _ rfl
    have hxl := hbx.lt
    obtain ⟨r, hr⟩ : ∃ r, r = step a e := ⟨_, rfl⟩
    have HF : Hid (Calls Try.prog fn (#[.agg #[.int .i64 f, .int .i64 s, .int .i64 k, .int .i64 nn, .string nm, .slice p n c]] ++ caps) wb (RetB S St r wb)) := Lib.hid (by
      have h1 := HW.out.2.2.2.2
      have h2 := HE.out
      rw [HN.out] at h2
      rw [hr, HN.out, ← h2]
      exact HW.out.1.call a wb e _ (HW.out.2.2.1.trans hxb) (HW.out.1.st a w wb HW.out.2.2.2.1 hxb) h1.1 h1.2)
    clear hbx hxb hXS
    have HRr := Lib.hid hr
    clear hr
    rcases r with ⟨a1, ok⟩
    cases ok with
    | false =>
      go_upto_region 2 with first | (refine HF.out.mono ?_; rintro e1 w1 ⟨rfl, H1⟩) | fail
      go_wp2
      rw [HQ.out]
      have h1 := gpE_no HRr.out
      rw [HR.out, h1]
      exact ⟨rfl, Lib.hid ⟨(Kb.of_ext HB.out.2.1).trans H1.out.1, H1.out.2⟩⟩
    | true =>
      go_upto_region 2 with first | (refine HF.out.mono ?_; rintro e1 w1 ⟨rfl, H1⟩; have q5 := H1.out.1.cell HB.out.2.2 p5; have hxl1 : X < w1.heap.size := Nat.lt_of_lt_of_le hxl H1.out.1.size) | fail
      go_wp2
      have hE1 : R = gpL step e.kids a1 := by
        rw [HR.out, gpE_yes HRr.out]
      have HE1 := Lib.hid hE1
      clear hE1
      go_loopw [14] (fun i wr => ∃ (k : Nat) (a' : σ), k ≤ n ∧ i = .int .i64 (k : Int) ∧ Hid (Kb S w1 wr ∧ St a' wr) ∧ Hid (R = gpL step (e.kids.drop k) a')) (fun i _ => n - (intOf i).toNat)
      case atStart => exact ⟨0, a1, Nat.zero_le _, rfl, Lib.hid ⟨Kb.refl _ _, H1.out.2⟩, Lib.hid (by rw [HE1.out]; rfl)⟩
      case round =>
        obtain ⟨j, a', hj, rfl, HS, HRR⟩ := hrel
        by_cases hlt : j < n
        · have hki : (j : Int) < (n : Int) := Int.ofNat_lt.2 hlt
          obtain ⟨x, hx⟩ : ∃ x, e.kids[j]? = some x := ⟨_, List.getElem?_eq_getElem (by have := HN.out; omega)⟩
          have hxw : Ext W0 wr := HS.out.1.ext (H1.out.1.ext (HW.out.2.2.1.trans HB.out.2.1) HW.out.1.off) HW.out.1.off
          have hkw := HW.out.2.2.2.2.1
          rw [← HN.out] at hkw
          obtain ⟨-, -, -, b, o, xv, rfl, hkx, c0, c1, c2, c3, c4, c5, hbl⟩ := hkw.at hx
          replace c0 := hxw.cell c0
          replace c1 := hxw.cell c1
          replace c2 := hxw.cell c2
          replace c3 := hxw.cell c3
          replace c4 := hxw.cell c4
          replace c5 := hxw.cell c5
          replace hbl := Nat.lt_of_lt_of_le hbl hxw.size
          have hjc : j < c := by omega
          obtain ⟨q, d, rfl, -, -⟩ := hkx.slice
          obtain ⟨m, hm⟩ : ∃ m, m = x.kids.length := ⟨_, rfl⟩
          have HX := Lib.hid (And.intro hx (And.intro hxw (And.intro hkx hm)))
          have HEX := Lib.hid (show eVal x (.slice q x.kids.length d) = .agg #[.int .i64 x.form, .int .i64 x.sub, .int .i64 x.kind, .int .i64 x.n, .string x.name, .slice q m d] by rw [hm]; rfl)
          rw [← hm] at c5
          clear hx hxw hkx hkw hm
          go_upto_region 6 with fail
          obtain ⟨r2, hr2⟩ : ∃ r2, r2 = gpE step x a' := ⟨_, rfl⟩
          have HR2 := Lib.hid hr2
          have hxa : Ext wr (wr.alloc (.cells #[.int .i64 x.form, .int .i64 x.sub, .int .i64 x.kind, .int .i64 x.n, .string x.name, .slice q m d] 35)) := (Ext.refl wr).alloc _
          have HXA := Lib.hid hxa
          have HF2 : Hid (Calls Try.prog 25 #[.agg #[.int .i64 x.form, .int .i64 x.sub, .int .i64 x.kind, .int .i64 x.n, .string x.name, .slice q m d], .func (.func fn) #[] caps] (wr.alloc (.cells #[.int .i64 x.form, .int .i64 x.sub, .int .i64 x.kind, .int .i64 x.n, .string x.name, .slice q m d] 35)) (RetB S St r2 (wr.alloc (.cells #[.int .i64 x.form, .int .i64 x.sub, .int .i64 x.kind, .int .i64 x.n, .string x.name, .slice q m d] 35)))) := Lib.hid (by
            rw [hr2, ← HEX.out]
            have hk1 := HX.out.2.2.1
            have hs1 := CE.size_kids e
            have hs2 := size_at HX.out.1
            have hN := HW.out.2.1
            refine HIH.out x (by omega) _ a' _ (HX.out.2.1.trans hxa) (HW.out.1.st a' _ _ HS.out.2 hxa) HX.out.2.2.1 (HW.out.2.2.2.2.2.kids.at HX.out.1))
          clear hr2 hxa
          rcases r2 with ⟨a2, ok2⟩
          cases ok2 with
          | false =>
            go_wp2_with (first | (go_at_call 25; refine HF2.out.mono ?_; rintro e1 w2 ⟨rfl, H2⟩) | fail)
            rw [HQ.out]
            have h1 : R = (a2, false) := by rw [HRR.out, gpL_no HX.out.1 HR2.out]
            rw [h1]
            exact ⟨rfl, Lib.hid ⟨(((Kb.of_ext HB.out.2.1).trans H1.out.1).trans HS.out.1).trans ((Kb.of_ext HXA.out).trans H2.out.1), H2.out.2⟩⟩
          | true =>
            go_wp2_with (first | (go_at_call 25; refine HF2.out.mono ?_; rintro e1 w2 ⟨rfl, H2⟩) | fail)
            refine ⟨⟨j + 1, a2, by omega, by go_num, Lib.hid ⟨HS.out.1.trans ((Kb.of_ext HXA.out).trans H2.out.1), H2.out.2⟩, Lib.hid ?_⟩, by simp [intOf]; omega⟩
            rw [HRR.out, gpL_yes HX.out.1 HR2.out]
        · have hki : ¬ (j : Int) < (n : Int) := fun e => hlt (Int.ofNat_lt.1 e)
          obtain rfl : j = n := by omega
          go_wp2
          rw [HQ.out]
          have h1 : R = (a', true) := by rw [HRR.out, gpL_end HN.out]
          rw [h1]
          exact ⟨rfl, Lib.hid ⟨((Kb.of_ext HB.out.2.1).trans H1.out.1).trans HS.out.1, HS.out.2⟩⟩
/-- Parts: all parts, with a state. -/
theorem parts_any {σ : Type} {W0 : World} {S : List Nat} {St : σ → World → Prop} {step : σ → CE → σ × Bool} {fn : FuncId} {caps : Array Value} (HC : CloP W0 S St step fn caps) {e : CE} {kv : Value} {a : σ} {w : World} (hx : Ext W0 w) (hs : St a w) (hk : KIn W0 e kv) (hok : okE e) :
    Calls Try.prog 25 #[eVal e kv, .func (.func fn) #[] caps] w (RetB S St (gpE step e a) w) :=
  parts_at W0 S St step fn caps HC _ e (Nat.lt_succ_self _) kv a w hx hs hk hok
end Go.Proofs.Ytkjgghbdpmkmoaa

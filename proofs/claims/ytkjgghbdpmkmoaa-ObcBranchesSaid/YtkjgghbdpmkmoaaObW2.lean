/-
  The walk over statements, whatever is done with each.
  Condition: the statements lie in memory, and what is done keeps its contract.
-/
import Derived.Test.YtkjgghbdpmkmoaaObW1
namespace Go.Proofs.Ytkjgghbdpmkmoaa
open Go.RowKit
set_option linter.unusedSimpArgs false
set_option linter.unusedVariables false
set_option maxRecDepth 100000

mutual
def okS : ST → Prop
  | .mk f nm e t l => I64 f ∧ nm.size ≤ maxLen ∧ okE e ∧ okL t ∧ okL l
def okL : List ST → Prop
  | [] => True
  | k :: ks => okS k ∧ okL ks
end
theorem okL.at : ∀ {l : List ST} {k : Nat} {e : ST}, okL l → l[k]? = some e → okS e
  | [], _, _, _, h => by simp at h
  | x :: l, 0, e, h, hk => by
    unfold okL at h
    simp at hk
    subst hk
    exact h.1
  | x :: l, k + 1, e, h, hk => by
    unfold okL at h
    exact okL.at h.2 (by simpa using hk)
theorem okS.parts {s : ST} (h : okS s) : I64 s.form ∧ s.name.size ≤ maxLen ∧ okE s.e ∧ okL s.thn ∧ okL s.els := by
  cases s with
  | mk f nm e t l => unfold okS at h; exact h
mutual
/-- All statements that are gone over. -/
def allS (P : ST → Prop) : ST → Prop
  | .mk f nm e t l => P (.mk f nm e t l) ∧ (f = 3 → allL P t ∧ allL P l)
def allL (P : ST → Prop) : List ST → Prop
  | [] => True
  | k :: ks => allS P k ∧ allL P ks
end
theorem allL.at {P : ST → Prop} : ∀ {l : List ST} {k : Nat} {e : ST}, allL P l → l[k]? = some e → allS P e
  | [], _, _, _, h => by simp at h
  | x :: l, 0, e, h, hk => by
    unfold allL at h
    simp at hk
    subst hk
    exact h.1
  | x :: l, k + 1, e, h, hk => by
    unfold allL at h
    exact allL.at h.2 (by simpa using hk)
theorem allS.here {P : ST → Prop} {s : ST} (h : allS P s) : P s ∧ (s.form = 3 → allL P s.thn ∧ allL P s.els) := by
  cases s with
  | mk f nm e t l => unfold allS at h; exact h
mutual
theorem okS.all : ∀ {s : ST}, okS s → allS okS s
  | .mk f nm e t l, h => by
    have h1 := h
    unfold okS at h1
    unfold allS
    exact ⟨h, fun _ => ⟨okL.all h1.2.2.2.1, okL.all h1.2.2.2.2⟩⟩
theorem okL.all : ∀ {l : List ST}, okL l → allL okS l
  | [], _ => by unfold allL; trivial
  | s :: ss, h => by
    unfold okL at h
    unfold allL
    exact ⟨okS.all h.1, okL.all h.2⟩
end
/-- A function value that asks something of a statement, with a state. -/
structure CloG {σ : Type} (W0 : World) (S : List Nat) (St : σ → World → Prop) (step : σ → ST → σ × Bool) (fn : FuncId) (caps : Array Value) (P : ST → Prop) : Prop where
  st : ∀ a w w', St a w → Ext w w' → St a w'
  off : ∀ k ∈ S, W0.heap.size ≤ k
  lts : ∀ a w, St a w → ∀ k ∈ S, k < w.heap.size
  enter : ∀ args w, Sem.run Try.prog (callFunc fn args) w = .ok (.enter fn args) w
  call : ∀ a w s x, Ext W0 w → St a w → SIn W0 s x → P s → Calls Try.prog fn (#[sVal s x] ++ caps) w (RetB S St (step a s) w)
abbrev CloS {σ : Type} (W0 : World) (S : List Nat) (St : σ → World → Prop) (step : σ → ST → σ × Bool) (fn : FuncId) (caps : Array Value) : Prop := CloG W0 S St step fn caps okS
set_option maxHeartbeats 8000000 in
theorem each_at {σ : Type} (W0 : World) (S : List Nat) (St : σ → World → Prop) (step : σ → ST → σ × Bool) (fn : FuncId) (caps : Array Value) (P : ST → Prop) (HC : CloG W0 S St step fn caps P) :
    ∀ (N : Nat) (l : List ST), SizeOf.sizeOf l < N → ∀ (v : Value) (a : σ) (w : World), Ext W0 w → St a w → BIn W0 v l → allL P l →
    Calls Try.prog 23 #[v, .func (.func fn) #[] caps] w (RetB S St (goL step l a) w) := by
  intro N
  induction N with
  | zero => intro e h; omega
  | succ N ih =>
    intro l hN v a w hx hst hk hok
    have HIH := Lib.hid ih
    have HW := Lib.hid (And.intro HC (And.intro hN (And.intro hx (And.intro hst (And.intro hk hok)))))
    obtain ⟨R, hR⟩ : ∃ R, R = goL step l a := ⟨_, rfl⟩
    rw [← hR]
    obtain ⟨Q, hQ⟩ : ∃ Q, Q = RetB S St R w := ⟨_, rfl⟩
    rw [← hQ]
    have HQ := Lib.hid hQ
    have HR := Lib.hid hR
    obtain ⟨p, c, rfl, hkc, hcm⟩ := hk.slice
    obtain ⟨n, hn⟩ : ∃ n, n = l.length := ⟨_, rfl⟩
    rw [← hn] at hkc ⊢
    have hcI : (c : Int) ≤ 9223372036854775807 := by unfold maxLen at hcm; omega
    clear hcm
    have HN := Lib.hid hn
    have hcf := HC.enter
    clear hQ hR hn hx hst hk hok hN HC ih
    go_enter Try.func23, Try.ntmps23
    go_wp2
    go_loopw [9] (fun i wr => ∃ (k : Nat) (a' : σ), k ≤ n ∧ i = .int .i64 (k : Int) ∧ Hid (Kb S w wr ∧ St a' wr) ∧ Hid (R = goL step (l.drop k) a')) (fun i _ => n - (intOf i).toNat)
    case atStart => exact ⟨0, a, Nat.zero_le _, rfl, Lib.hid ⟨Kb.refl _ _, HW.out.2.2.2.1⟩, Lib.hid (by rw [HR.out]; rfl)⟩
    case round =>
      obtain ⟨j, a', hj, rfl, HS, HRR⟩ := hrel
      by_cases hlt : j < n
      · have hki : (j : Int) < (n : Int) := Int.ofNat_lt.2 hlt
        obtain ⟨s, hs⟩ : ∃ x, l[j]? = some x := ⟨_, List.getElem?_eq_getElem (by have := HN.out; omega)⟩
        have hxw : Ext W0 wr := HS.out.1.ext HW.out.2.2.1 HW.out.1.off
        have hkw := HW.out.2.2.2.2.1
        rw [← HN.out] at hkw
        obtain ⟨b, o, x, rfl, hsx, hcx, hbl⟩ := hkw.at hs
        obtain ⟨hp1, hp2, hp3⟩ := hsx.parts
        obtain ⟨kv, tv, ev⟩ := x
        obtain ⟨pk, ck, e1, -, -⟩ := hp1.slice
        obtain ⟨pt, ct, e2, -, -⟩ := hp2.slice
        obtain ⟨pe, ce, e3, -, -⟩ := hp3.slice
        simp only at e1 e2 e3
        subst e1
        subst e2
        subst e3
        obtain ⟨f, hf⟩ : ∃ f, f = s.form := ⟨_, rfl⟩
        obtain ⟨nk, hnk⟩ : ∃ f, f = s.e.kids.length := ⟨_, rfl⟩
        obtain ⟨nt, hnt⟩ : ∃ f, f = s.thn.length := ⟨_, rfl⟩
        obtain ⟨ne, hne⟩ : ∃ f, f = s.els.length := ⟨_, rfl⟩
        have c0 := hxw.cell (hcx 0 _ rfl)
        have c1 := hxw.cell (hcx 1 _ rfl)
        have c2 := hxw.cell (hcx 2 _ rfl)
        have c3 := hxw.cell (hcx 3 _ rfl)
        have c4 := hxw.cell (hcx 4 _ rfl)
        have c5 := hxw.cell (hcx 5 _ rfl)
        have c6 := hxw.cell (hcx 6 _ rfl)
        have c7 := hxw.cell (hcx 7 _ rfl)
        have c8 := hxw.cell (hcx 8 _ rfl)
        have c9 := hxw.cell (hcx 9 _ rfl)
        rw [Nat.add_zero] at c0
        have hbl2 := Nat.lt_of_lt_of_le hbl hxw.size
        have HX := Lib.hid (And.intro hs (And.intro hxw (And.intro hsx (And.intro hp2 hp3))))
        have HL := Lib.hid (And.intro hf (And.intro hnk (And.intro hnt hne)))
        simp only [← hf, ← hnk, ← hnt, ← hne] at c0 c7 c8 c9
        have hjc : j < c := by omega
        have HV := Lib.hid (show sVal s ⟨.slice pk s.e.kids.length ck, .slice pt s.thn.length ct, .slice pe s.els.length ce⟩ = .agg #[.int .i64 f, .string s.name, .int .i64 s.e.form, .int .i64 s.e.sub, .int .i64 s.e.kind, .int .i64 s.e.n, .string s.e.name, .slice pk nk ck, .slice pt nt ct, .slice pe ne ce] by rw [hf, hnk, hnt, hne]; rfl)
        clear hs hxw hsx hp1 hp2 hp3 hcx hbl hkw hf hnk hnt hne
        go_upto_region 4 with fail
        have hby : BoxV wr.heap.size [.int .i64 f, .string s.name, .int .i64 s.e.form, .int .i64 s.e.sub, .int .i64 s.e.kind, .int .i64 s.e.n, .string s.e.name, .slice pk nk ck, .slice pt nt ct, .slice pe ne ce] (wr.alloc (.cells #[.int .i64 f, .string s.name, .int .i64 s.e.form, .int .i64 s.e.sub, .int .i64 s.e.kind, .int .i64 s.e.n, .string s.e.name, .slice pk nk ck, .slice pt nt ct, .slice pe ne ce] 37)) := BoxV.of_row (heap_alloc_last wr _)
        have hxy : Ext wr (wr.alloc (.cells #[.int .i64 f, .string s.name, .int .i64 s.e.form, .int .i64 s.e.sub, .int .i64 s.e.kind, .int .i64 s.e.n, .string s.e.name, .slice pk nk ck, .slice pt nt ct, .slice pe ne ce] 37)) := (Ext.refl wr).alloc _
        have hYS : wr.heap.size ∉ S := fun e1 => absurd (HW.out.1.lts a' wr HS.out.2 _ e1) (Nat.lt_irrefl _)
        generalize (wr.alloc (.cells #[.int .i64 f, .string s.name, .int .i64 s.e.form, .int .i64 s.e.sub, .int .i64 s.e.kind, .int .i64 s.e.n, .string s.e.name, .slice pk nk ck, .slice pt nt ct, .slice pe ne ce] 37)) = wy at hby hxy ⊢
        generalize wr.heap.size = Y at hby hYS ⊢
        have HY := Lib.hid (And.intro hxy hYS)
        have d0 := hby.cells 0 _ rfl
        have d1 := hby.cells 1 _ rfl
        have d2 := hby.cells 2 _ rfl
        have d3 := hby.cells 3 _ rfl
        have d4 := hby.cells 4 _ rfl
        have d5 := hby.cells 5 _ rfl
        have d6 := hby.cells 6 _ rfl
        have d7 := hby.cells 7 _ rfl
        have d8 := hby.cells 8 _ rfl
        have d9 := hby.cells 9 _ rfl
        have hyl := hby.lt
        obtain ⟨r, hr⟩ : ∃ r, r = step a' s := ⟨_, rfl⟩
        have HRr := Lib.hid hr
        have HF : Hid (Calls Try.prog fn (#[.agg #[.int .i64 f, .string s.name, .int .i64 s.e.form, .int .i64 s.e.sub, .int .i64 s.e.kind, .int .i64 s.e.n, .string s.e.name, .slice pk nk ck, .slice pt nt ct, .slice pe ne ce]] ++ caps) wy (RetB S St r wy)) := Lib.hid (by
          rw [hr, ← HV.out]
          exact HW.out.1.call a' wy s _ (HX.out.2.1.trans hxy) (HW.out.1.st a' wr wy HS.out.2 hxy) HX.out.2.2.1 (HW.out.2.2.2.2.2.at HX.out.1).here.1)
        clear hby hxy hYS hr c0 c1 c2 c3 c4 c5 c6 c7 c8 c9
        have HK0 : Hid (Kb S w wy) := Lib.hid (HS.out.1.trans (Kb.of_ext HY.out.1))
        rcases r with ⟨a1, ok⟩
        cases ok with
        | false =>
          go_wp2_with (first | ((with_reducible refine HF.out.mono ?_); rintro e1 w1 ⟨rfl, H1⟩) | fail)
          rw [HQ.out]
          have h1 : R = (a1, false) := by rw [HRR.out, goL_no HX.out.1 (goS_no HRr.out)]
          rw [h1]
          exact ⟨rfl, Lib.hid ⟨HK0.out.trans H1.out.1, H1.out.2⟩⟩
        | true =>
          by_cases hf3 : f = 3
          · subst hf3
            have HI1 : Hid (∀ w1, Kb S wy w1 → St a1 w1 → Calls Try.prog 23 #[.slice pt nt ct, .func (.func fn) #[] caps] w1 (RetB S St (goL step s.thn a1) w1)) := Lib.hid (fun w1 hk1 hs1 => by
              have hn1 := s.size_thn
              have hn2 := size_at HX.out.1
              have hn3 := HW.out.2.1
              have ht := HX.out.2.2.2.1
              rw [← HL.out.2.2.1] at ht
              exact HIH.out s.thn (by omega) _ a1 w1 (hk1.ext (HX.out.2.1.trans HY.out.1) HW.out.1.off) hs1 ht ((HW.out.2.2.2.2.2.at HX.out.1).here.2 HL.out.1.symm).1)
            have HI2 : Hid (∀ a2 w1, Kb S wy w1 → St a2 w1 → Calls Try.prog 23 #[.slice pe ne ce, .func (.func fn) #[] caps] w1 (RetB S St (goL step s.els a2) w1)) := Lib.hid (fun a2 w1 hk1 hs1 => by
              have hn1 := s.size_els
              have hn2 := size_at HX.out.1
              have hn3 := HW.out.2.1
              have ht := HX.out.2.2.2.2
              rw [← HL.out.2.2.2] at ht
              exact HIH.out s.els (by omega) _ a2 w1 (hk1.ext (HX.out.2.1.trans HY.out.1) HW.out.1.off) hs1 ht ((HW.out.2.2.2.2.2.at HX.out.1).here.2 HL.out.1.symm).2)
            have h33 : ((3 : Int) == 3) = true := rfl
            obtain ⟨r2, hr2⟩ : ∃ r, r = goL step s.thn a1 := ⟨_, rfl⟩
            rw [← hr2] at HI1
            have HR2 := Lib.hid hr2
            clear hr2
            rcases r2 with ⟨a2, ok2⟩
            cases ok2 with
            | false =>
              go_wp2_with (first | (go_at_call 23; refine (HI1.out _ H1.out.1 H1.out.2).mono ?_; rintro e2 w2 ⟨rfl, H2⟩) | ((with_reducible refine HF.out.mono ?_); rintro e1 w1 ⟨rfl, H1⟩; have q0 := H1.out.1.cell HY.out.2 d0; have q8 := H1.out.1.cell HY.out.2 d8; have hl1 : Y < w1.heap.size := Nat.lt_of_lt_of_le hyl H1.out.1.size) | fail)
              rw [HQ.out]
              have h1 : R = (a2, false) := by rw [HRR.out, goL_no HX.out.1 (goS_thn HRr.out HL.out.1.symm HR2.out)]
              rw [h1]
              exact ⟨rfl, Lib.hid ⟨(HK0.out.trans H1.out.1).trans H2.out.1, H2.out.2⟩⟩
            | true =>
              obtain ⟨r3, hr3⟩ : ∃ r, r = goL step s.els a2 := ⟨_, rfl⟩
              have HI3 := Lib.hid (HI2.out a2)
              rw [← hr3] at HI3
              have HR3 := Lib.hid hr3
              clear hr3
              rcases r3 with ⟨a3, ok3⟩
              cases ok3 with
              | false =>
                go_wp2_with (first | (go_at_call 23; refine (HI3.out _ (H1.out.1.trans H2.out.1) H2.out.2).mono ?_; rintro e3 w3 ⟨rfl, H3⟩) | (go_at_call 23; refine (HI1.out _ H1.out.1 H1.out.2).mono ?_; rintro e2 w2 ⟨rfl, H2⟩; have q9 := (H1.out.1.trans H2.out.1).cell HY.out.2 d9; have hl2 : Y < w2.heap.size := Nat.lt_of_lt_of_le hl1 H2.out.1.size) | ((with_reducible refine HF.out.mono ?_); rintro e1 w1 ⟨rfl, H1⟩; have q0 := H1.out.1.cell HY.out.2 d0; have q8 := H1.out.1.cell HY.out.2 d8; have hl1 : Y < w1.heap.size := Nat.lt_of_lt_of_le hyl H1.out.1.size) | fail)
                rw [HQ.out]
                have h1 : R = (a3, false) := by rw [HRR.out, goL_no HX.out.1 ((goS_els HRr.out HL.out.1.symm HR2.out).trans HR3.out.symm)]
                rw [h1]
                exact ⟨rfl, Lib.hid ⟨((HK0.out.trans H1.out.1).trans H2.out.1).trans H3.out.1, H3.out.2⟩⟩
              | true =>
                go_wp2_with (first | (go_at_call 23; refine (HI3.out _ (H1.out.1.trans H2.out.1) H2.out.2).mono ?_; rintro e3 w3 ⟨rfl, H3⟩) | (go_at_call 23; refine (HI1.out _ H1.out.1 H1.out.2).mono ?_; rintro e2 w2 ⟨rfl, H2⟩; have q9 := (H1.out.1.trans H2.out.1).cell HY.out.2 d9; have hl2 : Y < w2.heap.size := Nat.lt_of_lt_of_le hl1 H2.out.1.size) | ((with_reducible refine HF.out.mono ?_); rintro e1 w1 ⟨rfl, H1⟩; have q0 := H1.out.1.cell HY.out.2 d0; have q8 := H1.out.1.cell HY.out.2 d8; have hl1 : Y < w1.heap.size := Nat.lt_of_lt_of_le hyl H1.out.1.size) | fail)
                refine ⟨⟨j + 1, a3, by omega, by go_num, Lib.hid ⟨((HK0.out.trans H1.out.1).trans H2.out.1).trans H3.out.1, H3.out.2⟩, Lib.hid ?_⟩, by simp [intOf]; omega⟩
                rw [HRR.out, goL_yes HX.out.1 ((goS_els HRr.out HL.out.1.symm HR2.out).trans HR3.out.symm)]
          · have hfb : (f == 3) = false := by simpa using hf3
            have HF3 := Lib.hid hf3
            clear hf3
            go_wp2_with (first | ((with_reducible refine HF.out.mono ?_); rintro e1 w1 ⟨rfl, H1⟩; have q0 := H1.out.1.cell HY.out.2 d0; have hl1 : Y < w1.heap.size := Nat.lt_of_lt_of_le hyl H1.out.1.size) | fail)
            refine ⟨⟨j + 1, a1, by omega, by go_num, Lib.hid ⟨HK0.out.trans H1.out.1, H1.out.2⟩, Lib.hid ?_⟩, by simp [intOf]; omega⟩
            rw [HRR.out, goL_yes HX.out.1 (goS_flat HRr.out (by rw [← HL.out.1]; exact HF3.out))]
      · have hki : ¬ (j : Int) < (n : Int) := fun e => hlt (Int.ofNat_lt.1 e)
        obtain rfl : j = n := by omega
        go_wp2
        rw [HQ.out]
        have h1 : R = (a', true) := by rw [HRR.out, goL_end HN.out]
        rw [h1]
        exact ⟨rfl, HS⟩
/-- Each: all statements, with a state. -/
theorem eachG_any {σ : Type} {W0 : World} {S : List Nat} {St : σ → World → Prop} {step : σ → ST → σ × Bool} {fn : FuncId} {caps : Array Value} {P : ST → Prop} (HC : CloG W0 S St step fn caps P) {l : List ST} {v : Value} {a : σ} {w : World} (hx : Ext W0 w) (hs : St a w) (hk : BIn W0 v l) (hok : allL P l) :
    Calls Try.prog 23 #[v, .func (.func fn) #[] caps] w (RetB S St (goL step l a) w) :=
  each_at W0 S St step fn caps P HC _ l (Nat.lt_succ_self _) v a w hx hs hk hok
theorem each_any {σ : Type} {W0 : World} {S : List Nat} {St : σ → World → Prop} {step : σ → ST → σ × Bool} {fn : FuncId} {caps : Array Value} (HC : CloS W0 S St step fn caps) {l : List ST} {v : Value} {a : σ} {w : World} (hx : Ext W0 w) (hs : St a w) (hk : BIn W0 v l) (hok : okL l) :
    Calls Try.prog 23 #[v, .func (.func fn) #[] caps] w (RetB S St (goL step l a) w) :=
  eachG_any HC hx hs hk hok.all
end Go.Proofs.Ytkjgghbdpmkmoaa

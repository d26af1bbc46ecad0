/-
  The walk: something is asked of all expressions' parts.
  Condition: the step code and its checker lie in memory, and what is asked keeps its contract.
-/
import Derived.Test.YtkjgghbdpmkmoaaObW8
namespace Go.Proofs.Ytkjgghbdpmkmoaa
open Go.RowKit Go.Maps
set_option linter.unusedSimpArgs false
set_option linter.unusedVariables false
set_option maxRecDepth 100000

section
variable {σ : Type}
/-- What is done with a statement. -/
def expStep (step : σ → CE → σ × Bool) (a : σ) (s : ST) : σ × Bool := if s.form = 1 ∨ s.form = 2 ∨ s.form = 3 then gpE step s.e a else (a, true)
/-- .. with the box of what is asked. -/
def StB (St : σ → World → Prop) (B : Nat) (fn : FuncId) (caps : Array Value) (a : σ) (w : World) : Prop := St a w ∧ BoxV B [.func (.func fn) #[] caps] w
theorem RetB.box {S : List Nat} {St : σ → World → Prop} {B : Nat} {fn : FuncId} {caps : Array Value} {r : σ × Bool} {w w2 : World} {e : Ending} {w' : World} (h : RetB S St r w e w') (hx : Ext w2 w) (hb : BoxV B [.func (.func fn) #[] caps] w) (hB : B ∉ S) : RetB S (StB St B fn caps) r w2 e w' :=
  ⟨h.1, Lib.hid ⟨(Kb.of_ext hx).trans h.2.out.1, h.2.out.2, hb.kb h.2.out.1 hB⟩⟩
set_option maxHeartbeats 8000000 in
theorem exps1_any (W0 : World) (S : List Nat) (St : σ → World → Prop) (step : σ → CE → σ × Bool) (fn : FuncId) (caps : Array Value) (HC : CloP W0 S St step fn caps) (B : Nat) (hB : B ∉ S) (a : σ) (w : World) (s : ST) (x : S3) (hx : Ext W0 w) (hst : StB St B fn caps a w) (hs : SIn W0 s x) (hok : okS s) :
    Calls Try.prog 43 #[sVal s x, .pointer (some ⟨B, 0, none⟩)] w (RetB S (StB St B fn caps) (expStep step a s) w) := by
  obtain ⟨R, hR⟩ : ∃ R, R = expStep step a s := ⟨_, rfl⟩
  rw [← hR]
  obtain ⟨Q, hQ⟩ : ∃ Q, Q = RetB S (StB St B fn caps) R w := ⟨_, rfl⟩
  rw [← hQ]
  have HQ := Lib.hid hQ
  have HR := Lib.hid hR
  obtain ⟨hp1, hp2, hp3⟩ := hs.parts
  obtain ⟨kv, tv, ev⟩ := x
  obtain ⟨pk, ck, e1, -, -⟩ := hp1.slice
  obtain ⟨pt, ct, e2, -, -⟩ := hp2.slice
  obtain ⟨pe, ce, e3, -, -⟩ := hp3.slice
  simp only at e1 e2 e3
  subst e1
  subst e2
  subst e3
  obtain ⟨f, hf⟩ : ∃ f, f = s.form := ⟨_, rfl⟩
  obtain ⟨nk, hnk⟩ : ∃ f, f = s.e.kids.length := ⟨_, rfl⟩
  obtain ⟨nt, hnt⟩ : ∃ f, f = s.thn.length := ⟨_, rfl⟩
  obtain ⟨ne, hne⟩ : ∃ f, f = s.els.length := ⟨_, rfl⟩
  have HV := Lib.hid (show sVal s ⟨.slice pk s.e.kids.length ck, .slice pt s.thn.length ct, .slice pe s.els.length ce⟩ = .agg #[.int .i64 f, .string s.name, .int .i64 s.e.form, .int .i64 s.e.sub, .int .i64 s.e.kind, .int .i64 s.e.n, .string s.e.name, .slice pk nk ck, .slice pt nt ct, .slice pe ne ce] by rw [hf, hnk, hnt, hne]; rfl)
  have HE := Lib.hid (show eVal s.e (.slice pk s.e.kids.length ck) = .agg #[.int .i64 s.e.form, .int .i64 s.e.sub, .int .i64 s.e.kind, .int .i64 s.e.n, .string s.e.name, .slice pk nk ck] by rw [hnk]; rfl)
  rw [HV.out]
  have HX := Lib.hid (And.intro hx (And.intro hst (And.intro hp1 (And.intro hok HC))))
  have HF := Lib.hid hf
  have hby : BoxV w.heap.size [.int .i64 f, .string s.name, .int .i64 s.e.form, .int .i64 s.e.sub, .int .i64 s.e.kind, .int .i64 s.e.n, .string s.e.name, .slice pk nk ck, .slice pt nt ct, .slice pe ne ce] (w.alloc (.cells #[.int .i64 f, .string s.name, .int .i64 s.e.form, .int .i64 s.e.sub, .int .i64 s.e.kind, .int .i64 s.e.n, .string s.e.name, .slice pk nk ck, .slice pt nt ct, .slice pe ne ce] 37)) := BoxV.of_row (heap_alloc_last w _)
  have hxy : Ext w (w.alloc (.cells #[.int .i64 f, .string s.name, .int .i64 s.e.form, .int .i64 s.e.sub, .int .i64 s.e.kind, .int .i64 s.e.n, .string s.e.name, .slice pk nk ck, .slice pt nt ct, .slice pe ne ce] 37)) := (Ext.refl w).alloc _
  have HXY := Lib.hid hxy
  have hbb := hst.2.ext hxy
  have HBB := Lib.hid hbb
  have b0 := hbb.cells 0 _ rfl
  have bl := hbb.lt
  have HP : Hid (Calls Try.prog 25 #[.agg #[.int .i64 s.e.form, .int .i64 s.e.sub, .int .i64 s.e.kind, .int .i64 s.e.n, .string s.e.name, .slice pk nk ck], .func (.func fn) #[] caps] (w.alloc (.cells #[.int .i64 f, .string s.name, .int .i64 s.e.form, .int .i64 s.e.sub, .int .i64 s.e.kind, .int .i64 s.e.n, .string s.e.name, .slice pk nk ck, .slice pt nt ct, .slice pe ne ce] 37)) (RetB S St (gpE step s.e a) (w.alloc (.cells #[.int .i64 f, .string s.name, .int .i64 s.e.form, .int .i64 s.e.sub, .int .i64 s.e.kind, .int .i64 s.e.n, .string s.e.name, .slice pk nk ck, .slice pt nt ct, .slice pe ne ce] 37)))) := Lib.hid (by
    rw [← HE.out]
    exact parts_any HC (hx.trans hxy) (HC.st _ _ _ hst.1 hxy) hp1 hok.parts.2.2.1)
  obtain ⟨r, hr⟩ : ∃ r, r = gpE step s.e a := ⟨_, rfl⟩
  rw [← hr] at HP
  have HRR := Lib.hid hr
  have hB2 := Lib.hid hB
  clear hQ hR hp1 hp2 hp3 hf hnk hnt hne hx hst hs hok HC hbb hr hB
  by_cases h123 : f = 1 ∨ f = 2 ∨ f = 3
  · have h3 : Hid (R = r) := Lib.hid (by rw [HR.out, HRR.out]; unfold expStep; rw [← HF.out, if_pos h123])
    rcases h123 with h | h | h
    · have q1 : (f == 1) = true := by rw [h]; rfl
      clear h
      go_enter Try.func43, Try.ntmps43
      go_upto_region 1 with fail
      generalize (w.alloc (.cells #[.int .i64 f, .string s.name, .int .i64 s.e.form, .int .i64 s.e.sub, .int .i64 s.e.kind, .int .i64 s.e.n, .string s.e.name, .slice pk nk ck, .slice pt nt ct, .slice pe ne ce] 37)) = wy at hby hxy HXY HBB b0 bl HP ⊢
      generalize w.heap.size = Y at hby ⊢
      have d0 := hby.cells 0 _ rfl
      have d2 := hby.cells 2 _ rfl
      have d3 := hby.cells 3 _ rfl
      have d4 := hby.cells 4 _ rfl
      have d5 := hby.cells 5 _ rfl
      have d6 := hby.cells 6 _ rfl
      have d7 := hby.cells 7 _ rfl
      have hyl := hby.lt
      clear hby hxy
      go_wp2_with (first | (go_at_call 25; refine HP.out.mono ?_; rintro e1 w1 ⟨rfl, H1⟩) | fail)
      rw [HQ.out, h3.out]
      exact RetB.box ⟨rfl, H1⟩ HXY.out HBB.out hB2.out
    · have q1 : (f == 1) = false := by rw [h]; rfl
      have q2 : (f == 2) = true := by rw [h]; rfl
      clear h
      go_enter Try.func43, Try.ntmps43
      go_upto_region 1 with fail
      generalize (w.alloc (.cells #[.int .i64 f, .string s.name, .int .i64 s.e.form, .int .i64 s.e.sub, .int .i64 s.e.kind, .int .i64 s.e.n, .string s.e.name, .slice pk nk ck, .slice pt nt ct, .slice pe ne ce] 37)) = wy at hby hxy HXY HBB b0 bl HP ⊢
      generalize w.heap.size = Y at hby ⊢
      have d0 := hby.cells 0 _ rfl
      have d2 := hby.cells 2 _ rfl
      have d3 := hby.cells 3 _ rfl
      have d4 := hby.cells 4 _ rfl
      have d5 := hby.cells 5 _ rfl
      have d6 := hby.cells 6 _ rfl
      have d7 := hby.cells 7 _ rfl
      have hyl := hby.lt
      clear hby hxy
      go_wp2_with (first | (go_at_call 25; refine HP.out.mono ?_; rintro e1 w1 ⟨rfl, H1⟩) | fail)
      rw [HQ.out, h3.out]
      exact RetB.box ⟨rfl, H1⟩ HXY.out HBB.out hB2.out
    · have q1 : (f == 1) = false := by rw [h]; rfl
      have q2 : (f == 2) = false := by rw [h]; rfl
      have q3 : (f == 3) = true := by rw [h]; rfl
      clear h
      go_enter Try.func43, Try.ntmps43
      go_upto_region 1 with fail
      generalize (w.alloc (.cells #[.int .i64 f, .string s.name, .int .i64 s.e.form, .int .i64 s.e.sub, .int .i64 s.e.kind, .int .i64 s.e.n, .string s.e.name, .slice pk nk ck, .slice pt nt ct, .slice pe ne ce] 37)) = wy at hby hxy HXY HBB b0 bl HP ⊢
      generalize w.heap.size = Y at hby ⊢
      have d0 := hby.cells 0 _ rfl
      have d2 := hby.cells 2 _ rfl
      have d3 := hby.cells 3 _ rfl
      have d4 := hby.cells 4 _ rfl
      have d5 := hby.cells 5 _ rfl
      have d6 := hby.cells 6 _ rfl
      have d7 := hby.cells 7 _ rfl
      have hyl := hby.lt
      clear hby hxy
      go_wp2_with (first | (go_at_call 25; refine HP.out.mono ?_; rintro e1 w1 ⟨rfl, H1⟩) | fail)
      rw [HQ.out, h3.out]
      exact RetB.box ⟨rfl, H1⟩ HXY.out HBB.out hB2.out
  · have h3 : Hid (R = (a, true)) := Lib.hid (by rw [HR.out]; unfold expStep; rw [← HF.out, if_neg h123])
    have hn1 : (f == 1) = false := by simp; exact fun e => h123 (.inl e)
    have hn2 : (f == 2) = false := by simp; exact fun e => h123 (.inr (.inl e))
    have hn3 : (f == 3) = false := by simp; exact fun e => h123 (.inr (.inr e))
    clear h123
    go_enter Try.func43, Try.ntmps43
    go_upto_region 1 with fail
    generalize (w.alloc (.cells #[.int .i64 f, .string s.name, .int .i64 s.e.form, .int .i64 s.e.sub, .int .i64 s.e.kind, .int .i64 s.e.n, .string s.e.name, .slice pk nk ck, .slice pt nt ct, .slice pe ne ce] 37)) = wy at hby hxy HXY HBB b0 bl HP ⊢
    generalize w.heap.size = Y at hby ⊢
    have d0 := hby.cells 0 _ rfl
    have hyl := hby.lt
    clear hby hxy
    go_wp2
    rw [HQ.out, h3.out]
    exact ⟨rfl, Lib.hid ⟨Kb.of_ext HXY.out, HX.out.2.2.2.2.st _ _ _ HX.out.2.1.1 HXY.out, HBB.out⟩⟩
set_option maxHeartbeats 8000000 in
/-- exps: all parts of all expressions, with a state. -/
theorem exps_any {W0 : World} {S : List Nat} {St : σ → World → Prop} {step : σ → CE → σ × Bool} {fn : FuncId} {caps : Array Value} (HC : CloP W0 S St step fn caps) {s : SP} {x : S5} {X M : Nat} {L : List (ByteArray × Value)} {c : Int} {a : σ} {w : World} (hs : SPIn W0 s x) (hok : okP s) (hck : CK W0 x X M L c w) (hst : St a w) :
    Calls Try.prog 31 #[.pointer (some ⟨X, 0, none⟩), .func (.func fn) #[] caps] w (RetB S St (goL (expStep step) s.body a) w) := by
  obtain ⟨R, hR⟩ : ∃ R, R = goL (expStep step) s.body a := ⟨_, rfl⟩
  rw [← hR]
  obtain ⟨Q, hQ⟩ : ∃ Q, Q = RetB S St R w := ⟨_, rfl⟩
  rw [← hQ]
  have HQ := Lib.hid hQ
  have hBS : w.heap.size ∉ S := fun e => absurd (HC.lts a w hst _ e) (Nat.lt_irrefl _)
  have hbx : BoxV w.heap.size [.func (.func fn) #[] caps] (w.alloc (.cells #[.func (.func fn) #[] caps] 70)) := BoxV.of_row (heap_alloc_last w _)
  have hxx : Ext w (w.alloc (.cells #[.func (.func fn) #[] caps] 70)) := (Ext.refl w).alloc _
  have hck2 := hck.next hxx
  have hclo : CloS W0 S (StB St w.heap.size fn caps) (expStep step) 43 #[.pointer (some ⟨w.heap.size, 0, none⟩)] :=
    { st := fun a w1 w2 h hx => ⟨HC.st a w1 w2 h.1 hx, h.2.ext hx⟩
      off := HC.off
      lts := fun a w1 h => HC.lts a w1 h.1
      enter := fun args w1 => by kernel_rfl
      call := fun a w1 s1 x1 hx1 hst1 hs1 hok1 => exps1_any W0 S St step fn caps HC w.heap.size hBS a w1 s1 x1 hx1 hst1 hs1 hok1 }
  obtain ⟨iv, ov, vv, cv, bv⟩ := x
  obtain ⟨p5, c5, e5, -, -⟩ := hs.body.slice
  simp only at e5
  subst e5
  obtain ⟨n5, h5⟩ : ∃ n, n = s.body.length := ⟨_, rfl⟩
  have g4 := hck2.box.cells 4 _ rfl
  have gl := hck2.box.lt
  have hbody := hs.body
  simp only at hbody g4
  have HF : Hid (Calls Try.prog 23 #[.slice p5 n5 c5, .func (.func 43) #[] #[.pointer (some ⟨w.heap.size, 0, none⟩)]] (w.alloc (.cells #[.func (.func fn) #[] caps] 70)) (RetB S (StB St w.heap.size fn caps) R (w.alloc (.cells #[.func (.func fn) #[] caps] 70)))) := Lib.hid (by
    rw [hR, h5]
    exact each_any hclo hck2.ext ⟨HC.st _ _ _ hst hxx, hbx⟩ hbody hok.body)
  rw [← h5] at g4
  have HX := Lib.hid hxx
  clear hR hQ hs hok hck hst hclo hck2 hbx hxx hBS h5 hbody HC
  go_enter Try.func31, Try.ntmps31
  go_wp2_with (first | (go_at_call 23; refine HF.out.mono ?_; rintro e1 w1 ⟨rfl, H1⟩) | fail)
  rw [HQ.out]
  exact ⟨rfl, Lib.hid ⟨(Kb.of_ext HX.out).trans H1.out.1, H1.out.2.1⟩⟩
end
end Go.Proofs.Ytkjgghbdpmkmoaa

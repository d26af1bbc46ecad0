/-
  The walk: all statements are done, one behind the other.
  Condition: the statements and the run lie in memory.
-/
import Derived.Test.YtkjgghbdpmkmoaaObWj
namespace Go.Proofs.Ytkjgghbdpmkmoaa
open Go.RowKit Go.Maps
set_option linter.unusedSimpArgs false
set_option linter.unusedVariables false
set_option maxRecDepth 100000

set_option maxHeartbeats 16000000 in
theorem all_at (W0 : World) (X K V : Nat) (ks : ENV) :
    ∀ (N : Nat) (l : List ST), SizeOf.sizeOf l < N → ∀ (v : Value) (vs : ENV) (w : World), (∀ n, I64 (getV vs n)) → vs.length + cntL l ≤ 1000000000000 → RK W0 X K V ks vs w → BIn W0 v l → allL runP l →
    Calls Try.prog 22 #[.pointer (some ⟨X, 0, none⟩), v] w (RetD W0 X K V ks (doL ks l vs) w) := by
  intro N
  induction N with
  | zero => intro e h; omega
  | succ N ih =>
    intro l hN v vs w hv hcl hr hk hok
    have HIH := Lib.hid ih
    have HW := Lib.hid (And.intro hN (And.intro hv (And.intro hcl (And.intro hr (And.intro hk hok)))))
    obtain ⟨R, hR⟩ : ∃ R, R = doL ks l vs := ⟨_, rfl⟩
    rw [← hR]
    obtain ⟨Q, hQ⟩ : ∃ Q, Q = RetD W0 X K V ks R w := ⟨_, rfl⟩
    rw [← hQ]
    have HQ := Lib.hid hQ
    have HR := Lib.hid hR
    obtain ⟨p, cap, rfl, hkc, hcm⟩ := hk.slice
    obtain ⟨n, hn⟩ : ∃ n, n = l.length := ⟨_, rfl⟩
    rw [← hn] at hkc ⊢
    have hcI : (cap : Int) ≤ 9223372036854775807 := by unfold maxLen at hcm; omega
    clear hcm
    have HN := Lib.hid hn
    clear hQ hR hn hk hok hN ih hv hcl hr
    go_enter Try.func22, Try.ntmps22
    go_upto_region 2 with fail
    have hbt : BoxV w.heap.size [.nilFunc, .func (.func 40) #[] #[], .func (.func 40) #[] #[], .func (.func 41) #[] #[]] (w.alloc (.cells #[.nilFunc, .func (.func 40) #[] #[], .func (.func 40) #[] #[], .func (.func 41) #[] #[]] 84)) := BoxV.of_row (heap_alloc_last w _)
    have hxt : Ext w (w.alloc (.cells #[.nilFunc, .func (.func 40) #[] #[], .func (.func 40) #[] #[], .func (.func 41) #[] #[]] 84)) := (Ext.refl w).alloc _
    have HTV : Hid (w.heap.size ∉ [V]) := Lib.hid (by
      have := HW.out.2.2.2.1.vmap.lt
      simp; omega)
    have HT := Lib.hid (And.intro hbt hxt)
    clear hbt hxt
    generalize (w.alloc (.cells #[.nilFunc, .func (.func 40) #[] #[], .func (.func 40) #[] #[], .func (.func 41) #[] #[]] 84)) = wt at HT ⊢
    generalize w.heap.size = T at HT HTV ⊢
    go_loopw [10] (fun i wr => ∃ (j : Nat) (us : ENV), j ≤ n ∧ i = .int .i64 (j : Int) ∧ Hid (Kb [V] w wr ∧ RK W0 X K V ks us wr ∧ BoxV T [.nilFunc, .func (.func 40) #[] #[], .func (.func 40) #[] #[], .func (.func 41) #[] #[]] wr) ∧ Hid (R = doL ks (l.drop j) us) ∧ Hid ((∀ n, I64 (getV us n)) ∧ us.length + cntL (l.drop j) ≤ 1000000000000)) (fun i _ => n - (intOf i).toNat)
    case atStart => exact ⟨0, vs, Nat.zero_le _, rfl, Lib.hid ⟨Kb.of_ext HT.out.2, HW.out.2.2.2.1.next HT.out.2, HT.out.1⟩, Lib.hid (by rw [HR.out]; rfl), Lib.hid ⟨HW.out.2.1, HW.out.2.2.1⟩⟩
    case round =>
      obtain ⟨j, us, hj, rfl, HS, HRR, HU⟩ := hrel
      by_cases hlt : j < n
      · have hki : (j : Int) < (n : Int) := Int.ofNat_lt.2 hlt
        obtain ⟨s, hs⟩ : ∃ x, l[j]? = some x := ⟨_, List.getElem?_eq_getElem (by have := HN.out; omega)⟩
        have hxw : Ext W0 wr := HS.out.2.1.ext
        have hkw := HW.out.2.2.2.2.1
        rw [← HN.out] at hkw
        obtain ⟨b, o, x, rfl, hsx, hcx, hbl⟩ := hkw.at hs
        obtain ⟨hp1, hp2, hp3⟩ := hsx.parts
        obtain ⟨kv, tv, ev⟩ := x
        obtain ⟨pk, ck, e1, -, -⟩ := hp1.slice
        obtain ⟨pt, ct, e2, -, -⟩ := hp2.slice
        obtain ⟨pe, ce, e3, -, -⟩ := hp3.slice
        simp only at e1 e2 e3
        subst e1
        subst e2
        subst e3
        obtain ⟨f, hf⟩ : ∃ f, f = s.form := ⟨_, rfl⟩
        obtain ⟨nk, hnk⟩ : ∃ f, f = s.e.kids.length := ⟨_, rfl⟩
        obtain ⟨nt, hnt⟩ : ∃ f, f = s.thn.length := ⟨_, rfl⟩
        obtain ⟨ne, hne⟩ : ∃ f, f = s.els.length := ⟨_, rfl⟩
        have c0 := hxw.cell (hcx 0 _ rfl)
        have c1 := hxw.cell (hcx 1 _ rfl)
        have c2 := hxw.cell (hcx 2 _ rfl)
        have c3 := hxw.cell (hcx 3 _ rfl)
        have c4 := hxw.cell (hcx 4 _ rfl)
        have c5 := hxw.cell (hcx 5 _ rfl)
        have c6 := hxw.cell (hcx 6 _ rfl)
        have c7 := hxw.cell (hcx 7 _ rfl)
        have c8 := hxw.cell (hcx 8 _ rfl)
        have c9 := hxw.cell (hcx 9 _ rfl)
        rw [Nat.add_zero] at c0
        have hbl2 := Nat.lt_of_lt_of_le hbl hxw.size
        have hal := HW.out.2.2.2.2.2.at hs
        have hrp := hal.here.1
        have HX := Lib.hid (And.intro hs (And.intro hsx (And.intro hal hp2)))
        have HP3 := Lib.hid hp3
        simp only [← hf, ← hnk, ← hnt, ← hne] at c0 c7 c8 c9
        have hjc : j < cap := by omega
        have HV := Lib.hid (show sVal s ⟨.slice pk s.e.kids.length ck, .slice pt s.thn.length ct, .slice pe s.els.length ce⟩ = .agg #[.int .i64 f, .string s.name, .int .i64 s.e.form, .int .i64 s.e.sub, .int .i64 s.e.kind, .int .i64 s.e.n, .string s.e.name, .slice pk nk ck, .slice pt nt ct, .slice pe ne ce] by rw [hf, hnk, hnt, hne]; rfl)
        have hn2 := size_at hs
        have hstep : doL ks (l.drop j) us = doL ks (l.drop (j + 1)) (doS ks s us) := doL_step ks hs us
        have hcs := cntL_step hs
        have hui := HU.out
        rw [hcs] at hui
        have hinv := doS_inv ks s us hal hui.1
        have HU2 : Hid ((∀ n, I64 (getV (doS ks s us) n)) ∧ (doS ks s us).length + cntL (l.drop (j + 1)) ≤ 1000000000000) := Lib.hid ⟨hinv.1, by have := hinv.2; omega⟩
        have hlu : us.length ≤ 1000000000000 := by omega
        have HST := Lib.hid hstep
        have h123 := hrp.2.1
        rw [← hf] at h123
        have hxy : Ext wr (wr.alloc (.cells #[.int .i64 f, .string s.name, .int .i64 s.e.form, .int .i64 s.e.sub, .int .i64 s.e.kind, .int .i64 s.e.n, .string s.e.name, .slice pk nk ck, .slice pt nt ct, .slice pe ne ce] 37)) := (Ext.refl wr).alloc _
        have hby : BoxV wr.heap.size [.int .i64 f, .string s.name, .int .i64 s.e.form, .int .i64 s.e.sub, .int .i64 s.e.kind, .int .i64 s.e.n, .string s.e.name, .slice pk nk ck, .slice pt nt ct, .slice pe ne ce] (wr.alloc (.cells #[.int .i64 f, .string s.name, .int .i64 s.e.form, .int .i64 s.e.sub, .int .i64 s.e.kind, .int .i64 s.e.n, .string s.e.name, .slice pk nk ck, .slice pt nt ct, .slice pe ne ce] 37)) := BoxV.of_row (heap_alloc_last wr _)
        have HRK := Lib.hid (And.intro hxy (HS.out.2.1.next hxy))
        have hbt := HS.out.2.2.ext hxy
        have HTB := Lib.hid hbt
        have HSET : Hid (s.form ≠ 3 → ∀ w1, Ext (wr.alloc (.cells #[.int .i64 f, .string s.name, .int .i64 s.e.form, .int .i64 s.e.sub, .int .i64 s.e.kind, .int .i64 s.e.n, .string s.e.name, .slice pk nk ck, .slice pt nt ct, .slice pe ne ce] 37)) w1 → Calls Try.prog 40 #[.pointer (some ⟨X, 0, none⟩), .agg #[.int .i64 f, .string s.name, .int .i64 s.e.form, .int .i64 s.e.sub, .int .i64 s.e.kind, .int .i64 s.e.n, .string s.e.name, .slice pk nk ck, .slice pt nt ct, .slice pe ne ce]] w1 (RetD W0 X K V ks (doS ks s us) w1)) := Lib.hid (fun h3 w1 hx1 => by
          rw [doS_eq, if_neg h3, ← HV.out]
          exact set_any W0 X K V ks us hui.1 hlu w1 s _ (HRK.out.2.next hx1) hsx hrp)
        have HBR : Hid (s.form = 3 → ∀ w1, Ext (wr.alloc (.cells #[.int .i64 f, .string s.name, .int .i64 s.e.form, .int .i64 s.e.sub, .int .i64 s.e.kind, .int .i64 s.e.n, .string s.e.name, .slice pk nk ck, .slice pt nt ct, .slice pe ne ce] 37)) w1 → Calls Try.prog 41 #[.pointer (some ⟨X, 0, none⟩), .agg #[.int .i64 f, .string s.name, .int .i64 s.e.form, .int .i64 s.e.sub, .int .i64 s.e.kind, .int .i64 s.e.n, .string s.e.name, .slice pk nk ck, .slice pt nt ct, .slice pe ne ce]] w1 (RetD W0 X K V ks (doS ks s us) w1)) := Lib.hid (fun h3 w1 hx1 => by
          rw [doS_eq, if_pos h3, ← HV.out]
          have hz := cntS_eq s
          rw [if_pos h3] at hz
          have hn3 := HW.out.1
          have hn4 := s.size_thn
          have hn5 := s.size_els
          refine branch_any W0 X K V ks us hui.1 w1 s _ (HRK.out.2.next hx1) hsx hrp (fun w2 hr2 => ?_) (fun w2 hr2 => ?_)
          · exact HIH.out s.thn (by omega) _ us w2 hui.1 (by omega) hr2 hp2 (hal.here.2 h3).1
          · exact HIH.out s.els (by omega) _ us w2 hui.1 (by omega) hr2 hp3 (hal.here.2 h3).2)
        have HFF := Lib.hid hf
        have HTN : Hid (T ∉ [V]) := HTV
        clear hs hxw hsx hp1 hp2 hp3 hcx hbl hkw hnk hnt hne hal hrp hn2 hstep hcs hui hinv hlu hf
        rcases h123 with rfl | rfl | rfl
        all_goals
          go_upto_region 4 with fail
          generalize (wr.alloc (.cells #[_, .string s.name, .int .i64 s.e.form, .int .i64 s.e.sub, .int .i64 s.e.kind, .int .i64 s.e.n, .string s.e.name, .slice pk nk ck, .slice pt nt ct, .slice pe ne ce] 37)) = wy at hby hxy HRK HTB HSET HBR hbt ⊢
          generalize wr.heap.size = Y at hby ⊢
          have d0 := hby.cells 0 _ rfl
          have d1 := hby.cells 1 _ rfl
          have d2 := hby.cells 2 _ rfl
          have d3 := hby.cells 3 _ rfl
          have d4 := hby.cells 4 _ rfl
          have d5 := hby.cells 5 _ rfl
          have d6 := hby.cells 6 _ rfl
          have d7 := hby.cells 7 _ rfl
          have d8 := hby.cells 8 _ rfl
          have d9 := hby.cells 9 _ rfl
          have t1 := hbt.cells 1 _ rfl
          have t2 := hbt.cells 2 _ rfl
          have t3 := hbt.cells 3 _ rfl
          have tl := hbt.lt
          have hyl := hby.lt
          clear hby hxy hbt c0 c1 c2 c3 c4 c5 c6 c7 c8 c9
          (refine region_drew_tail 6 (by kernel_rfl) (by kernel_rfl) ?_; simp only [List.take_succ_cons, List.take_zero, List.drop_succ_cons, List.drop_zero]; (repeat (go_big_quiet_step (fail))); refine wpQuiet_nil ?_; rintro _ ⟨nq, rfl⟩)
          go_wp2_with (first | (go_at_call 40; refine (HSET.out (by rw [← HFF.out]; decide) _ ((Ext.refl wy).drewN nq)).mono ?_; rintro e1 w2 ⟨rfl, H2⟩) | (go_at_call 41; refine (HBR.out HFF.out.symm _ ((Ext.refl wy).drewN nq)).mono ?_; rintro e1 w2 ⟨rfl, H2⟩) | fail)
          refine ⟨⟨j + 1, doS ks s us, by omega, by go_num, Lib.hid ⟨HS.out.1.trans ((Kb.of_ext (HRK.out.1.drewN nq)).trans H2.out.1), H2.out.2, (HTB.out.drewN nq).kb H2.out.1 HTN.out⟩, Lib.hid (by rw [HRR.out, HST.out]), HU2⟩, by simp [intOf]; omega⟩
      · have hki : ¬ (j : Int) < (n : Int) := fun e => hlt (Int.ofNat_lt.1 e)
        obtain rfl : j = n := by omega
        go_wp2
        refine bodyPost_end (results_none rfl _ _ _) rfl ?_
        have h1 : R = us := by rw [HRR.out, HN.out, List.drop_length, doL]
        rw [HQ.out, h1]
        exact ⟨rfl, Lib.hid ⟨HS.out.1, HS.out.2.1⟩⟩
end Go.Proofs.Ytkjgghbdpmkmoaa

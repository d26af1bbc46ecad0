/-
  The walk: whether two clocks are one; whether an expression's clock goes with one.
  Condition: both lie in memory.
  The walk: whether all kinds go together.
  Condition: the program and its checker lie in memory.
  The walk: a clock and an edge more.
  Condition: the clock lies in memory.
  Clocks of expressions: their plain equations, how several lie in memory.
  Condition: what each lemma says.
  The walk: an expression's clock.
  Condition: the program and its checker lie in memory.
  The walk: whether all clocks go together.
  Condition: the program and its checker lie in memory.
-/
import Derived.Test.YtmommjagndadjaaJcH
import Derived.Laws.StructEq
import Derived.Test.YtmommjagndadjaaJcG
import Derived.Test.YtmommjagndadjaaJcF
import Derived.ArgAppend
import Derived.Test.YtmommjagndadjaaJcA
namespace Go.Proofs.Ytmommjagndadjaa
open Go.RowKit Go.Maps
set_option linter.unusedSimpArgs false
set_option linter.unusedVariables false
set_option maxRecDepth 100000

@[go_sem] theorem edgeGuard : Try.prog.eqGuardType Try.prog.depth 51 = false := by kernel_rfl
theorem drop_cons {α : Type} {l : List α} {j : Nat} {x : α} (h : l[j]? = some x) : l.drop j = x :: l.drop (j + 1) := by
  obtain ⟨h1, h2⟩ := List.getElem?_eq_some_iff.1 h
  rw [List.drop_eq_getElem_cons h1, h2]
set_option maxHeartbeats 8000000 in
theorem csame_any {l m : CK0} {v u : Value} {w : World} (hv : EdIn w v l) (hu : EdIn w u m) :
    Calls Try.prog 60 #[v, u] w (RetX (decide (l = m)) w) := by
  obtain ⟨R, hR⟩ : ∃ R, R = decide (l = m) := ⟨_, rfl⟩
  rw [← hR]
  obtain ⟨Q, hQ⟩ : ∃ Q, Q = RetX R w := ⟨_, rfl⟩
  rw [← hQ]
  have HQ := Lib.hid hQ
  have HR := Lib.hid hR
  obtain ⟨p, c, rfl, hc, hcm⟩ := hv.slice
  obtain ⟨p2, c2, rfl, hc2, hcm2⟩ := hu.slice
  obtain ⟨n, hn⟩ : ∃ n, n = l.length := ⟨_, rfl⟩
  obtain ⟨n2, hn2⟩ : ∃ n, n = m.length := ⟨_, rfl⟩
  rw [← hn] at hv hc
  rw [← hn2] at hu hc2
  rw [← hn, ← hn2]
  have HN := Lib.hid (And.intro hn hn2)
  have HA := Lib.hid (And.intro hv hu)
  have hcI : (c : Int) ≤ 9223372036854775807 := by unfold maxLen at hcm; omega
  have hcI2 : (c2 : Int) ≤ 9223372036854775807 := by unfold maxLen at hcm2; omega
  clear hQ hR hv hu hn hn2 hcm hcm2
  go_enter Try.func60, Try.ntmps60
  by_cases hne : n = n2
  · subst hne
    have q0 : ((n : Int) == (n : Int)) = true := by simp
    go_upto_region 4 with fail
    go_loopw [13] (fun i wr => ∃ j : Nat, j ≤ n ∧ i = .int .i64 (j : Int) ∧ Hid (Ext w wr) ∧ Hid (R = decide (l.drop j = m.drop j))) (fun i _ => n - (intOf i).toNat)
    case atStart => exact ⟨0, Nat.zero_le _, rfl, Lib.hid (Ext.refl _), Lib.hid (by rw [HR.out]; rfl)⟩
    case round =>
      obtain ⟨j, hj, rfl, HS, HJ⟩ := hrel
      by_cases hlt : j < n
      · have hji : (j : Int) < (n : Int) := Int.ofNat_lt.2 hlt
        obtain ⟨a, ha⟩ : ∃ z, l[j]? = some z := ⟨_, List.getElem?_eq_getElem (by rw [← HN.out.1]; exact hlt)⟩
        obtain ⟨b, hb⟩ : ∃ z, m[j]? = some z := ⟨_, List.getElem?_eq_getElem (by rw [← HN.out.2]; exact hlt)⟩
        obtain ⟨ba, oa, hpe, a0, a1, hal⟩ := (HA.out.1.ext HS.out).at ha
        subst hpe
        obtain ⟨bb, ob, hpe, b0, b1, hbl⟩ := (HA.out.2.ext HS.out).at hb
        subst hpe
        have hjc : j < c := by omega
        have hjc2 : j < c2 := by omega
        have HD : Hid (R = decide (a = b ∧ l.drop (j + 1) = m.drop (j + 1))) := Lib.hid (by rw [HJ.out, drop_cons ha, drop_cons hb]; exact decide_eq_decide.2 (by rw [List.cons.injEq]))
        clear ha hb
        obtain ⟨an, ab⟩ := a
        obtain ⟨bn, bb2⟩ := b
        by_cases hs : an = bn ∧ ab = bb2
        · obtain ⟨rfl, rfl⟩ := hs
          have HC : Hid (R = decide (l.drop (j + 1) = m.drop (j + 1))) := Lib.hid (by rw [HD.out]; simp)
          try dsimp only at a0 a1 b0 b1
          go_wp2_with fail
          (refine region_drew (by kernel_rfl) (by kernel_rfl) ?_; (repeat (go_big_quiet_step (fail))); refine wpQuiet_nil ?_; rintro _ ⟨nq, rfl⟩)
          go_wp2_with fail
          exact ⟨⟨j + 1, by omega, by go_num, Lib.hid (HS.out.drewN _), HC⟩, by simp [intOf]; omega⟩
        · have HC : Hid (R = false) := Lib.hid (by rw [HD.out, decide_eq_false_iff_not]; rintro ⟨e, -⟩; exact hs (by simpa using e))
          by_cases q5 : an = bn
          · subst q5
            have q6 : ¬ ab = bb2 := fun e => hs ⟨rfl, e⟩
            clear hs
            go_wp2_with fail
            (refine region_drew (by kernel_rfl) (by kernel_rfl) ?_; (repeat (go_big_quiet_step (fail))); refine wpQuiet_nil ?_; rintro _ ⟨nq, rfl⟩)
            go_wp2_with fail
            rw [HQ.out, HC.out]
            exact ⟨rfl, Lib.hid (HS.out.drewN _)⟩
          · have q7 : ¬ an.toList = bn.toList := fun e => q5 (by rw [ByteArray.toList_eq, ByteArray.toList_eq] at e; exact ByteArray.ext (Array.ext' e))
            clear hs q5
            go_wp2_with fail
            (refine region_drew (by kernel_rfl) (by kernel_rfl) ?_; (repeat (go_big_quiet_step (fail))); refine wpQuiet_nil ?_; rintro _ ⟨nq, rfl⟩)
            go_wp2_with fail
            rw [HQ.out, HC.out]
            exact ⟨rfl, Lib.hid (HS.out.drewN _)⟩
      · have hji : ¬ (j : Int) < (n : Int) := fun e => hlt (Int.ofNat_lt.1 e)
        obtain rfl : j = n := by omega
        have HC : Hid (R = true) := Lib.hid (by
          have e1 : l.drop j = [] := List.drop_eq_nil_of_le (by have := HN.out.1; omega)
          have e2 : m.drop j = [] := List.drop_eq_nil_of_le (by have := HN.out.2; omega)
          rw [HJ.out, e1, e2]; rfl)
        go_wp2
        rw [HQ.out, HC.out]
        exact ⟨rfl, HS⟩
  · have HC : Hid (R = false) := Lib.hid (by
      rw [HR.out, decide_eq_false_iff_not]
      intro e
      apply hne
      rw [HN.out.1, HN.out.2, e])
    have q0 : ((n : Int) == (n2 : Int)) = false := by simp; omega
    have q4 : ¬ (n : Int) = (n2 : Int) := by omega
    go_wp2_with fail
    rw [HQ.out, HC.out]
    exact ⟨rfl, Lib.hid (Ext.refl w)⟩
set_option maxHeartbeats 4000000 in
theorem cgoes_any {k l : CK0} {any : Bool} {v u : Value} {w : World} (hv : EdIn w v k) (hu : EdIn w u l) :
    Calls Try.prog 62 #[.agg #[.bool any, v], u] w (RetX (goesK (any, k) l) w) := by
  obtain ⟨R, hR⟩ : ∃ R, R = goesK (any, k) l := ⟨_, rfl⟩
  rw [← hR]
  obtain ⟨Q, hQ⟩ : ∃ Q, Q = RetX R w := ⟨_, rfl⟩
  rw [← hQ]
  have HQ := Lib.hid hQ
  have HR := Lib.hid hR
  obtain ⟨p, c, rfl, hc, hcm⟩ := hv.slice
  obtain ⟨p2, c2, rfl, hc2, hcm2⟩ := hu.slice
  have HA := Lib.hid (And.intro hv hu)
  obtain ⟨n, hn⟩ : ∃ n, n = k.length := ⟨_, rfl⟩
  obtain ⟨n2, hn2⟩ : ∃ n, n = l.length := ⟨_, rfl⟩
  rw [← hn, ← hn2] at HA
  rw [← hn, ← hn2]
  clear hQ hR hv hu hn hn2 hcm hcm2 hc hc2
  go_enter Try.func62, Try.ntmps62
  cases any with
  | true =>
    go_wp2_with fail
    rw [HQ.out, HR.out]
    exact ⟨rfl, Lib.hid ((Ext.refl w).alloc _)⟩
  | false =>
    have HS : Hid (∀ w', Ext w w' → Calls Try.prog 60 #[.slice p n c, .slice p2 n2 c2] w' (RetX R w')) := Lib.hid (fun w' hx => by
      have h := csame_any (HA.out.1.ext hx) (HA.out.2.ext hx)
      rw [HR.out]
      exact h)
    go_wp2_with (first | (go_at_call 60; refine (HS.out _ ((Ext.refl w).alloc _)).mono ?_; rintro e2 w2 ⟨rfl, H2⟩) | fail)
    rw [HQ.out]
    exact ⟨rfl, Lib.hid (((Ext.refl w).alloc _).trans H2.out)⟩
end Go.Proofs.Ytmommjagndadjaa
namespace Go.Proofs.Ytmommjagndadjaa
open Go.RowKit Go.Maps
set_option linter.unusedSimpArgs false
set_option linter.unusedVariables false
set_option maxRecDepth 100000

set_option maxHeartbeats 16000000 in
theorem ctypes_any {W0 : World} {c : CP} {x : S4} {X M D : Nat} {t : TQ} {d : DT} {w : World} (hc : CPIn W0 c x) (h : KC W0 x X M D t d w) (hok : okC c) (hl : c.ins.length ≤ 100000 ∧ c.outs.length ≤ 100000 ∧ c.locals.length ≤ 100000) (hfr : ∀ q ∈ c.eqs, q.form = 1 → frm q.e) :
    Calls Try.prog 37 #[.pointer (some ⟨X, 0, none⟩)] w (RetX (typesC t.vt c) w) := by
  obtain ⟨R, hR⟩ : ∃ R, R = typesC t.vt c := ⟨_, rfl⟩
  rw [← hR]
  obtain ⟨Q, hQ⟩ : ∃ Q, Q = RetX R w := ⟨_, rfl⟩
  rw [← hQ]
  have HQ := Lib.hid hQ
  have HR := Lib.hid hR
  have HVS := Lib.hid (fun w' (hx : Ext w w') => cvars_any W0 c x w' hc (h.ext.trans hx) hl)
  have HCK := Lib.hid (fun w' (hx : Ext w w') n (hn : n.size ≤ maxLen) => cckind_any (h.next hx) n hn)
  have HKE0 := Lib.hid (fun w' (hx : Ext w w') (e : CE) (kv : Value) (hk : KIn W0 e kv) (he : okE e) (hf : frm e) => kind_at W0 _ _ _ _ (clo_ckind W0 x X M D t d) (SizeOf.sizeOf e + 1) e (Nat.lt_succ_self _) kv w' (h.ext.trans hx) (h.next hx) hk he hf)
  have HKC := Lib.hid h
  have HOK := Lib.hid (And.intro hok hfr)
  clear hQ hR h hok hfr hl
  obtain ⟨iv, ov, lv, ev⟩ := x
  have h4 := hc.eqs
  obtain ⟨p4, c4, e4, hd4, hm4⟩ := h4.slice
  simp only at e4
  subst e4
  simp only at h4
  obtain ⟨n4, hn4⟩ : ∃ n, n = c.eqs.length := ⟨_, rfl⟩
  rw [← hn4] at h4 hd4 HKC
  simp only [← hn4] at HVS HCK HKE0
  have HN : Hid (True ∧ True ∧ True ∧ n4 = c.eqs.length) := Lib.hid ⟨trivial, trivial, trivial, hn4⟩
  have hcI4 : (c4 : Int) ≤ 9223372036854775807 := by unfold maxLen at hm4; omega
  have HE := Lib.hid h4
  have g3 := HKC.out.box.cells 3 _ rfl
  have gl := HKC.out.box.lt
  clear h4 hn4 hm4 hc
  have HQA : Hid (typesC t.vt c = ((c.eqs.all fun q => typeQ t.vt q) && c.vars.all fun v => v.clk.all fun e => decide (kindT t.vt e.1 = 1))) := Lib.hid rfl
  go_enter Try.func37, Try.ntmps37
  go_upto_region 2 with fail
  go_loopw [16] (fun i wr => ∃ k : Nat, k ≤ n4 ∧ i = .int .i64 (k : Int) ∧ Hid (Ext w wr) ∧ Hid ((c.eqs.all fun q => typeQ t.vt q) = (c.eqs.drop k).all fun q => typeQ t.vt q)) (fun i _ => n4 - (intOf i).toNat)
  case atStart => exact ⟨0, Nat.zero_le _, rfl, Lib.hid (Ext.refl _), Lib.hid rfl⟩
  case round =>
    obtain ⟨k, hk, rfl, HS2, HJ2⟩ := hrel
    by_cases hlt : k < n4
    · have hji : (k : Int) < (n4 : Int) := Int.ofNat_lt.2 hlt
      have hxw : Ext W0 wr := HKC.out.ext.trans HS2.out
      obtain ⟨q, hq⟩ : ∃ q, c.eqs[k]? = some q := ⟨_, List.getElem?_eq_getElem (by have := HN.out.2.2.2; omega)⟩
      obtain ⟨b, o, pk, ck, hpe, hkq, hcq, hbl⟩ := HE.out.at hq
      subst hpe
      obtain ⟨nk, hnk⟩ : ∃ n, n = q.e.kids.length := ⟨_, rfl⟩
      rw [← hnk] at hkq hcq
      have hjc : k < c4 := by omega
      have hbl2 := Nat.lt_of_lt_of_le hbl hxw.size
      have c0_ := hxw.cell (hcq 0 _ rfl)
      have c1_ := hxw.cell (hcq 1 _ rfl)
      have c2_ := hxw.cell (hcq 2 _ rfl)
      have c3_ := hxw.cell (hcq 3 _ rfl)
      have c4_ := hxw.cell (hcq 4 _ rfl)
      have c5_ := hxw.cell (hcq 5 _ rfl)
      have c6_ := hxw.cell (hcq 6 _ rfl)
      have c7_ := hxw.cell (hcq 7 _ rfl)
      have c8_ := hxw.cell (hcq 8 _ rfl)
      have c9_ := hxw.cell (hcq 9 _ rfl)
      have c10_ := hxw.cell (hcq 10 _ rfl)
      have c11_ := hxw.cell (hcq 11 _ rfl)
      have c12_ := hxw.cell (hcq 12 _ rfl)
      rw [Nat.add_zero] at c0_
      have HX := Lib.hid (And.intro hq (And.intro hkq hnk))
      have hxy : Ext wr (wr.alloc (.cells #[.int .i64 q.form, .string q.name, .int .i64 q.e.form, .int .i64 q.e.sub, .int .i64 q.e.kind, .int .i64 q.e.n, .string q.e.name, .slice pk nk ck, .int .i64 q.init, .string q.next, .string q.reset, .int .i64 q.period, .int .i64 q.offset] 35)) := (Ext.refl wr).alloc _
      have hby : BoxV wr.heap.size [.int .i64 q.form, .string q.name, .int .i64 q.e.form, .int .i64 q.e.sub, .int .i64 q.e.kind, .int .i64 q.e.n, .string q.e.name, .slice pk nk ck, .int .i64 q.init, .string q.next, .string q.reset, .int .i64 q.period, .int .i64 q.offset] (wr.alloc (.cells #[.int .i64 q.form, .string q.name, .int .i64 q.e.form, .int .i64 q.e.sub, .int .i64 q.e.kind, .int .i64 q.e.n, .string q.e.name, .slice pk nk ck, .int .i64 q.init, .string q.next, .string q.reset, .int .i64 q.period, .int .i64 q.offset] 35)) := BoxV.of_row (heap_alloc_last wr _)
      have HXY := Lib.hid hxy
      clear hq hkq hcq hbl hnk hxw
      go_upto_region 4 with fail
      generalize (wr.alloc (.cells #[.int .i64 q.form, .string q.name, .int .i64 q.e.form, .int .i64 q.e.sub, .int .i64 q.e.kind, .int .i64 q.e.n, .string q.e.name, .slice pk nk ck, .int .i64 q.init, .string q.next, .string q.reset, .int .i64 q.period, .int .i64 q.offset] 35)) = wy at hby hxy HXY ⊢
      generalize wr.heap.size = Y at hby ⊢
      have d0 := hby.cells 0 _ rfl
      have d1 := hby.cells 1 _ rfl
      have d2 := hby.cells 2 _ rfl
      have d3 := hby.cells 3 _ rfl
      have d4 := hby.cells 4 _ rfl
      have d5 := hby.cells 5 _ rfl
      have d6 := hby.cells 6 _ rfl
      have d7 := hby.cells 7 _ rfl
      have d8 := hby.cells 8 _ rfl
      have d9 := hby.cells 9 _ rfl
      have d10 := hby.cells 10 _ rfl
      have d11 := hby.cells 11 _ rfl
      have d12 := hby.cells 12 _ rfl
      have hyl := hby.lt
      clear hby hxy hbl2 c0_ c1_ c2_ c3_ c4_ c5_ c6_ c7_ c8_ c9_ c10_ c11_ c12_
      have HAD := Lib.hid (all_drop (fun q : EQ => typeQ t.vt q) HX.out.1)
      have HNO : Hid (typeQ t.vt q = false → R = false) := Lib.hid (fun e => by rw [HR.out, HQA.out, HJ2.out, HAD.out, e]; simp)
      have HYES : Hid (typeQ t.vt q = true → (c.eqs.all fun q => typeQ t.vt q) = (c.eqs.drop (k + 1)).all fun q => typeQ t.vt q) := Lib.hid (fun e => by rw [HJ2.out, HAD.out, e]; simp)
      have HOQ := Lib.hid (HOK.out.1.eqs q (List.mem_of_getElem? HX.out.1))
      have HXW := Lib.hid (HS2.out.trans HXY.out)
      have HT0 : Hid (Calls Try.prog 58 #[.pointer (some ⟨X, 0, none⟩), .string q.name] wy (RetI (kindT t.vt q.name) wy)) := Lib.hid (HCK.out wy HXW.out _ HOQ.out.name)
      have HT1 : Hid (∀ wz, Ext wy wz → Calls Try.prog 58 #[.pointer (some ⟨X, 0, none⟩), .string q.next] wz (RetI (kindT t.vt q.next) wz)) := Lib.hid (fun wz hz => HCK.out wz (HXW.out.trans hz) _ HOQ.out.next)
      have HT2 : Hid (∀ wz, Ext wy wz → Calls Try.prog 58 #[.pointer (some ⟨X, 0, none⟩), .string q.reset] wz (RetI (kindT t.vt q.reset) wz)) := Lib.hid (fun wz hz => HCK.out wz (HXW.out.trans hz) _ HOQ.out.reset)
      have HKE : Hid (q.form = 1 → ∀ wz, Ext wy wz → Calls Try.prog 59 #[.agg #[.int .i64 q.e.form, .int .i64 q.e.sub, .int .i64 q.e.kind, .int .i64 q.e.n, .string q.e.name, .slice pk nk ck], .func (.func 58) #[.pointer (some ⟨X, 0, none⟩)] #[]] wz (RetI (kindE (kindT t.vt) q.e) wz)) := Lib.hid (fun hf wz hz => HKE0.out wz (HXW.out.trans hz) q.e _ HX.out.2.1 HOQ.out.e (HOK.out.2 q (List.mem_of_getElem? HX.out.1) hf))
      have HTQ : Hid (typeQ t.vt q = if q.form = 1 then decide (kindE (kindT t.vt) q.e = kindT t.vt q.name) else if q.form = 2 then decide (kindT t.vt q.next = kindT t.vt q.name) && (decide (q.reset = eB) || decide (kindT t.vt q.reset = 1)) else if q.form = 3 then decide (kindT t.vt q.name = 1) else true) := Lib.hid rfl
      obtain ⟨k0, hk0⟩ : ∃ z, z = kindT t.vt q.name := ⟨_, rfl⟩
      obtain ⟨k1, hk1⟩ : ∃ z, z = kindT t.vt q.next := ⟨_, rfl⟩
      obtain ⟨k2, hk2⟩ : ∃ z, z = kindT t.vt q.reset := ⟨_, rfl⟩
      obtain ⟨ke, hke⟩ : ∃ z, z = kindE (kindT t.vt) q.e := ⟨_, rfl⟩
      rw [← hk0] at HT0 HTQ
      rw [← hk1] at HT1 HTQ
      rw [← hk2] at HT2 HTQ
      rw [← hke] at HKE HTQ
      clear hk0 hk1 hk2 hke HAD
      go_upto_region 5 with (first | (go_at_call 58; refine HT0.out.mono ?_; rintro e2 w2 ⟨rfl, H2⟩) | fail)
      have d0 := H2.out.cell d0
      have d1 := H2.out.cell d1
      have d2 := H2.out.cell d2
      have d3 := H2.out.cell d3
      have d4 := H2.out.cell d4
      have d5 := H2.out.cell d5
      have d6 := H2.out.cell d6
      have d7 := H2.out.cell d7
      have d8 := H2.out.cell d8
      have d9 := H2.out.cell d9
      have d10 := H2.out.cell d10
      have d11 := H2.out.cell d11
      have d12 := H2.out.cell d12
      have hyl := Nat.lt_of_lt_of_le hyl H2.out.size
      have HT1 : Hid (∀ wz, Ext w2 wz → Calls Try.prog 58 #[.pointer (some ⟨X, 0, none⟩), .string q.next] wz (RetI k1 wz)) := Lib.hid (fun wz hz => HT1.out wz (H2.out.trans hz))
      have HT2 : Hid (∀ wz, Ext w2 wz → Calls Try.prog 58 #[.pointer (some ⟨X, 0, none⟩), .string q.reset] wz (RetI k2 wz)) := Lib.hid (fun wz hz => HT2.out wz (H2.out.trans hz))
      have HKE := Lib.hid (fun (hf : q.form = 1) wz (hz : Ext w2 wz) => HKE.out hf wz (H2.out.trans hz))
      have HXW := Lib.hid (HXW.out.trans H2.out)
      clear HT0 H2 HXY
      by_cases a1 : q.form = 1
      · have q1 : (q.form == 1) = true := by simpa using a1
        have a1h := Lib.hid a1
        by_cases b1 : ke = k0
        · have q2 : (ke == k0) = true := by simpa using b1
          have HC := Lib.hid (HYES.out (by rw [HTQ.out]; simp [a1, b1]))
          subst b1
          clear a1
          go_wp2_with (first | (go_at_call 59; refine (HKE.out a1h.out _ (Ext.refl _)).mono ?_; rintro e3 w3 ⟨rfl, H3⟩) | fail)
          exact ⟨⟨k + 1, by omega, by go_num, Lib.hid (HXW.out.trans H3.out), HC⟩, by simp [intOf]; omega⟩
        · have q2 : (ke == k0) = false := by simpa using b1
          have HC := Lib.hid (HNO.out (by rw [HTQ.out]; simp [a1, b1]))
          clear a1
          go_wp2_with (first | (go_at_call 59; refine (HKE.out a1h.out _ (Ext.refl _)).mono ?_; rintro e3 w3 ⟨rfl, H3⟩) | fail)
          rw [HQ.out, HC.out]
          exact ⟨rfl, Lib.hid (HXW.out.trans H3.out)⟩
      · have q1 : (q.form == 1) = false := by simpa using a1
        by_cases a2 : q.form = 2
        · have q2 : (q.form == 2) = true := by simpa using a2
          by_cases b1 : k1 = k0
          · have q3 : (k1 == k0) = true := by simpa using b1
            by_cases a3 : q.reset = ⟨#[]⟩
            · have r3 : q.reset.toList.isEmpty = true := by rw [ba_nil.2 a3]; rfl
              have HC := Lib.hid (HYES.out (by rw [HTQ.out]; simp [a2, b1, a3]))
              subst b1
              clear a1 a2
              go_wp2_with (first | (go_at_call 58; (first | ((with_reducible refine (HT1.out _ (Ext.refl _)).mono ?_); rintro e3 w3 ⟨rfl, H3⟩; have d10 := H3.out.cell d10; have hyl := Nat.lt_of_lt_of_le hyl H3.out.size) | ((with_reducible refine (HT2.out _ H3.out).mono ?_); rintro e4 w4 ⟨rfl, H4⟩))) | fail)
              exact ⟨⟨k + 1, by omega, by go_num, Lib.hid (HXW.out.trans H3.out), HC⟩, by simp [intOf]; omega⟩
            · have r3 : q.reset.toList.isEmpty = false := by
                cases h : q.reset.toList with
                | nil => exact absurd (ba_nil.1 h) a3
                | cons _ _ => rfl
              have r4 : ¬ q.reset.toList = [] := fun e => a3 (ba_nil.1 e)
              by_cases b2 : k2 = 1
              · have q4 : (k2 == 1) = true := by simpa using b2
                have HC := Lib.hid (HYES.out (by rw [HTQ.out]; simp [a2, b1, a3, b2]))
                subst b1
                clear a1 a2
                go_wp2_with (first | (go_at_call 58; (first | ((with_reducible refine (HT1.out _ (Ext.refl _)).mono ?_); rintro e3 w3 ⟨rfl, H3⟩; have d10 := H3.out.cell d10; have hyl := Nat.lt_of_lt_of_le hyl H3.out.size) | ((with_reducible refine (HT2.out _ H3.out).mono ?_); rintro e4 w4 ⟨rfl, H4⟩))) | fail)
                exact ⟨⟨k + 1, by omega, by go_num, Lib.hid (HXW.out.trans (H3.out.trans H4.out)), HC⟩, by simp [intOf]; omega⟩
              · have q4 : (k2 == 1) = false := by simpa using b2
                have HC := Lib.hid (HNO.out (by rw [HTQ.out]; simp [a2, b1, a3, b2]))
                subst b1
                clear a1 a2
                go_wp2_with (first | (go_at_call 58; (first | ((with_reducible refine (HT1.out _ (Ext.refl _)).mono ?_); rintro e3 w3 ⟨rfl, H3⟩; have d10 := H3.out.cell d10; have hyl := Nat.lt_of_lt_of_le hyl H3.out.size) | ((with_reducible refine (HT2.out _ H3.out).mono ?_); rintro e4 w4 ⟨rfl, H4⟩))) | fail)
                rw [HQ.out, HC.out]
                exact ⟨rfl, Lib.hid (HXW.out.trans (H3.out.trans H4.out))⟩
          · have q3 : (k1 == k0) = false := by simpa using b1
            have HC := Lib.hid (HNO.out (by rw [HTQ.out]; simp [a2, b1]))
            clear a1 a2
            go_wp2_with (first | (go_at_call 58; (first | ((with_reducible refine (HT1.out _ (Ext.refl _)).mono ?_); rintro e3 w3 ⟨rfl, H3⟩; have d10 := H3.out.cell d10; have hyl := Nat.lt_of_lt_of_le hyl H3.out.size) | ((with_reducible refine (HT2.out _ H3.out).mono ?_); rintro e4 w4 ⟨rfl, H4⟩))) | fail)
            rw [HQ.out, HC.out]
            exact ⟨rfl, Lib.hid (HXW.out.trans H3.out)⟩
        · have q2 : (q.form == 2) = false := by simpa using a2
          by_cases a3 : q.form = 3
          · have q3 : (q.form == 3) = true := by simpa using a3
            by_cases b1 : k0 = 1
            · have q4 : (k0 == 1) = true := by simpa using b1
              have HC := Lib.hid (HYES.out (by rw [HTQ.out]; simp [a1, a2, a3, b1]))
              clear a1 a2 a3
              go_wp2_with fail
              exact ⟨⟨k + 1, by omega, by go_num, Lib.hid (HXW.out), HC⟩, by simp [intOf]; omega⟩
            · have q4 : (k0 == 1) = false := by simpa using b1
              have HC := Lib.hid (HNO.out (by rw [HTQ.out]; simp [a1, a2, a3, b1]))
              clear a1 a2 a3
              go_wp2_with fail
              rw [HQ.out, HC.out]
              exact ⟨rfl, Lib.hid (HXW.out)⟩
          · have q3 : (q.form == 3) = false := by simpa using a3
            have HC := Lib.hid (HYES.out (by rw [HTQ.out]; simp [a1, a2, a3]))
            clear a1 a2 a3
            go_wp2_with fail
            exact ⟨⟨k + 1, by omega, by go_num, Lib.hid (HXW.out), HC⟩, by simp [intOf]; omega⟩
    · have hji : ¬ (k : Int) < (n4 : Int) := fun e => hlt (Int.ofNat_lt.1 e)
      obtain rfl : k = n4 := by omega
      have HB1 : Hid (typesC t.vt c = c.vars.all fun v => v.clk.all fun e => decide (kindT t.vt e.1 = 1)) := Lib.hid (by
        rw [HQA.out, HJ2.out, HN.out.2.2.2, List.drop_length]
        rfl)
      have hkc3 := HKC.out.next HS2.out
      have g0 := hkc3.box.cells 0 _ rfl
      have g1 := hkc3.box.cells 1 _ rfl
      have g2 := hkc3.box.cells 2 _ rfl
      have g3 := hkc3.box.cells 3 _ rfl
      have gl := hkc3.box.lt
      clear hkc3
      obtain ⟨m, hm⟩ : ∃ l, l = c.vars := ⟨_, rfl⟩
      have HMM := Lib.hid hm
      obtain ⟨nm, hnm⟩ : ∃ n, n = m.length := ⟨_, rfl⟩
      have HNM2 := Lib.hid hnm
      have HF3 : Hid (Calls Try.prog 29 #[.agg #[iv, ov, lv, .slice p4 k c4]] wr fun e w' => ∃ p cap qs, e = .returned (.slice p nm cap) ∧ Hid (VsIn W0 w' (.slice p nm cap) m qs ∧ Ext wr w')) := Lib.hid ((HVS.out wr HS2.out).mono (fun e w' ⟨p, cap, qs, h1, h2⟩ => ⟨p, cap, qs, by rw [hnm, hm]; exact h1, Lib.hid (by rw [hnm, hm]; exact ⟨h2.out.1, h2.out.2.1⟩)⟩))
      clear hm hnm
      go_upto_region 17 with (first | (go_at_call 29; refine HF3.out.mono ?_; rintro e1 w5 ⟨pv5, cv5, qs5, rfl, H5⟩) | fail)
      have HV : Hid (VsIn W0 w5 (.slice pv5 nm cv5) m qs5) := Lib.hid H5.out.1
      obtain ⟨pz5, cz5, e5, hdv5, hmv5⟩ := HV.out.slice
      simp only [Value.slice.injEq] at e5
      have hcv5 : (cv5 : Int) ≤ 9223372036854775807 := by rw [e5.2.2]; unfold maxLen at hmv5; omega
      rw [← e5.2.2, ← HNM2.out] at hdv5
      have HPX : Hid (Ext w w5) := Lib.hid (HS2.out.trans H5.out.2)
      clear e5 hmv5 g0 g1 g2 g3 gl
      go_loopw [66] (fun i wr => ∃ j : Nat, j ≤ nm ∧ i = .int .i64 (j : Int) ∧ Hid (Ext w5 wr) ∧ Hid ((c.vars.all fun v => v.clk.all fun e => decide (kindT t.vt e.1 = 1)) = (m.drop j).all fun v => v.clk.all fun e => decide (kindT t.vt e.1 = 1))) (fun i _ => nm - (intOf i).toNat)
      case atStart => exact ⟨0, Nat.zero_le _, rfl, Lib.hid (Ext.refl _), Lib.hid (by rw [HMM.out]; rfl)⟩
      case round =>
        obtain ⟨j, hj, rfl, HS, HJ⟩ := hrel
        by_cases hlt : j < nm
        · have hji : (j : Int) < (nm : Int) := Int.ofNat_lt.2 hlt
          have hxl := HS.out
          obtain ⟨v, hv⟩ : ∃ v, (m)[j]? = some v := ⟨_, List.getElem?_eq_getElem (by rw [← HNM2.out]; exact hlt)⟩
          obtain ⟨bv_, ov_, pq, cq, hpe, hqv, v0_, v1_, v2_, hev, hvl⟩ := (HV.out.ext hxl).at hv
          subst hpe
          obtain ⟨mq, hnq⟩ : ∃ n, n = v.clk.length := ⟨_, rfl⟩
          rw [← hnq] at v2_ hev hqv
          have hjv : j < cv5 := by omega
          have HVV := Lib.hid (And.intro hv (And.intro hev (And.intro hnq hqv)))
          have hxy : Ext wr (wr.alloc (.cells #[.string v.name, .int .i64 v.kind, .slice pq mq cq] 30)) := (Ext.refl wr).alloc _
          have hby : BoxV wr.heap.size [.string v.name, .int .i64 v.kind, .slice pq mq cq] (wr.alloc (.cells #[.string v.name, .int .i64 v.kind, .slice pq mq cq] 30)) := BoxV.of_row (heap_alloc_last wr _)
          have HXY := Lib.hid hxy
          clear hv hev hnq hqv
          go_upto_region 19 with fail
          generalize (wr.alloc (.cells #[.string v.name, .int .i64 v.kind, .slice pq mq cq] 30)) = wy at hby hxy HXY ⊢
          generalize wr.heap.size = Y at hby ⊢
          have d0 := hby.cells 0 _ rfl
          have d1 := hby.cells 1 _ rfl
          have d2 := hby.cells 2 _ rfl
          have hyl := hby.lt
          clear hby hxy v0_ v1_ v2_ hvl
          have HAD := Lib.hid (all_drop (fun v : VR => v.clk.all fun e => decide (kindT t.vt e.1 = 1)) HVV.out.1)
          have HCE : Hid ((cq : Int) ≤ 9223372036854775807 ∧ mq ≤ cq) := Lib.hid (by
            obtain ⟨pz, cz, e1, h1, h2⟩ := HVV.out.2.1.slice
            simp only [Value.slice.injEq] at e1
            rw [e1.2.2]
            refine ⟨by unfold maxLen at h2; omega, by rw [HVV.out.2.2.1]; exact h1⟩)
          have hce1 := HCE.out.1
          have hce2 := HCE.out.2
          have HWY := Lib.hid (HPX.out.trans (HS.out.trans HXY.out))
          go_upto_region 20 with fail
          clear d0 d1 d2 hyl
          obtain ⟨wq6, hwq6⟩ : ∃ x, x = wy := ⟨_, rfl⟩
          subst hwq6
          go_loopw [73] (fun i wr => ∃ k : Nat, k ≤ mq ∧ i = .int .i64 (k : Int) ∧ Hid (Ext wq6 wr) ∧ Hid ((v.clk.all fun e => decide (kindT t.vt e.1 = 1)) = (v.clk.drop k).all fun e => decide (kindT t.vt e.1 = 1))) (fun i _ => mq - (intOf i).toNat)
          case atStart => exact ⟨0, Nat.zero_le _, rfl, Lib.hid (Ext.refl _), Lib.hid rfl⟩
          case round =>
            obtain ⟨k3, hk3, rfl, HS6, HJ6⟩ := hrel
            by_cases hlt3 : k3 < mq
            · have hji3 : (k3 : Int) < (mq : Int) := Int.ofNat_lt.2 hlt3
              have hxw : Ext W0 wr := HKC.out.ext.trans (HWY.out.trans HS6.out)
              have hkce : k3 < cq := by omega
              obtain ⟨ed, hed⟩ : ∃ z, z = v.clk := ⟨_, rfl⟩
              obtain ⟨g_, hg_⟩ : ∃ g, v.clk[k3]? = some g := ⟨_, List.getElem?_eq_getElem (by rw [← HVV.out.2.2.1]; exact hlt3)⟩
              obtain ⟨be_, oe_, hpe, e0_, e1_, hel⟩ := (HVV.out.2.1.ext hxw).at hg_
              subst hpe
              clear ed hed
              have HXV := Lib.hid HXY.out
              have HGG := Lib.hid hg_
              clear hg_
              have hxy : Ext wr (wr.alloc (.cells #[.string g_.1, .bool g_.2] 51)) := (Ext.refl wr).alloc _
              have hby : BoxV wr.heap.size [.string g_.1, .bool g_.2] (wr.alloc (.cells #[.string g_.1, .bool g_.2] 51)) := BoxV.of_row (heap_alloc_last wr _)
              have HXY := Lib.hid hxy
              go_upto_region 22 with fail
              generalize (wr.alloc (.cells #[.string g_.1, .bool g_.2] 51)) = wy at hby hxy HXY ⊢
              generalize wr.heap.size = Y2 at hby ⊢
              have d0e := hby.cells 0 _ rfl
              have d1e := hby.cells 1 _ rfl
              have hyle := hby.lt
              clear hby hxy e0_ e1_ hel
              have hns : g_.1.size ≤ maxLen := by
                have hv := List.mem_of_getElem? HVV.out.1
                rw [HMM.out] at hv
                unfold CP.vars at hv
                rcases List.mem_append.1 hv with h | h
                · rcases List.mem_append.1 h with h | h
                  · exact (HOK.out.1.ins v h).clk _ (List.mem_of_getElem? HGG.out)
                  · exact (HOK.out.1.outs v h).clk _ (List.mem_of_getElem? HGG.out)
                · exact (HOK.out.1.locals v h).clk _ (List.mem_of_getElem? HGG.out)
              have HXZ := Lib.hid (HWY.out.trans (HS6.out.trans HXY.out))
              have HTE : Hid (Calls Try.prog 58 #[.pointer (some ⟨X, 0, none⟩), .string g_.1] wy (RetI (kindT t.vt g_.1) wy)) := Lib.hid (HCK.out wy HXZ.out _ hns)
              have HAE := Lib.hid (all_drop (fun e : ByteArray × Bool => decide (kindT t.vt e.1 = 1)) HGG.out)
              obtain ⟨th, hth⟩ : ∃ z, z = kindT t.vt g_.1 := ⟨_, rfl⟩
              rw [← hth] at HTE
              have HTHB := Lib.hid hth
              clear hns hth
              by_cases b9 : th = 1
              · have q9 : (th == 1) = true := by simpa using b9
                have HCC : Hid ((v.clk.all fun e => decide (kindT t.vt e.1 = 1)) = (v.clk.drop (k3 + 1)).all fun e => decide (kindT t.vt e.1 = 1)) := Lib.hid (by rw [HJ6.out, HAE.out, ← HTHB.out]; simp [b9])
                clear HTHB
                go_wp2_with (first | (go_at_call 58; refine HTE.out.mono ?_; rintro e7 w7 ⟨rfl, H7⟩) | fail)
                exact ⟨⟨k3 + 1, by omega, by go_num, Lib.hid (HS6.out.trans (HXY.out.trans H7.out)), HCC⟩, by simp [intOf]; omega⟩
              · have q9 : (th == 1) = false := by simpa using b9
                have HCC : Hid (R = false) := Lib.hid (by rw [HR.out, HB1.out, HJ.out, HAD.out, HJ6.out, HAE.out, ← HTHB.out]; simp [b9])
                clear HTHB
                go_wp2_with (first | (go_at_call 58; refine HTE.out.mono ?_; rintro e7 w7 ⟨rfl, H7⟩) | fail)
                rw [HQ.out, HCC.out]
                exact ⟨rfl, Lib.hid (HXZ.out.trans H7.out)⟩
            · have hji3 : ¬ (k3 : Int) < (mq : Int) := fun e => hlt3 (Int.ofNat_lt.1 e)
              obtain rfl : k3 = mq := by omega
              have HCC : Hid ((c.vars.all fun v => v.clk.all fun e => decide (kindT t.vt e.1 = 1)) = (m.drop (j + 1)).all fun v => v.clk.all fun e => decide (kindT t.vt e.1 = 1)) := Lib.hid (by
                rw [HJ.out, HAD.out, HJ6.out, HVV.out.2.2.1, List.drop_length]; rfl)
              go_wp2
              exact ⟨⟨j + 1, by omega, by go_num, Lib.hid (HS.out.trans (HXY.out.trans HS6.out)), HCC⟩, by simp [intOf]; omega⟩
        · have hji : ¬ (j : Int) < (nm : Int) := fun e => hlt (Int.ofNat_lt.1 e)
          obtain rfl : j = nm := by omega
          have HCC : Hid (R = true) := Lib.hid (by
            rw [HR.out, HB1.out, HJ.out, HNM2.out, List.drop_length]; rfl)
          go_wp2
          rw [HQ.out, HCC.out]
          exact ⟨rfl, Lib.hid (HPX.out.trans HS.out)⟩
end Go.Proofs.Ytmommjagndadjaa
namespace Go.Proofs.Ytmommjagndadjaa
open Go.RowKit Go.Maps
set_option linter.unusedSimpArgs false
set_option linter.unusedVariables false
set_option maxRecDepth 100000

abbrev zE : Value := .agg #[.string ⟨#[]⟩, .bool false]
theorem infoEdge : (Try.prog.info? 51).map (fun i => (i.zero, i.size, i.bytes)) = some (some zE, 2, 24) := by kernel_rfl
theorem infoE_parts : ∃ i, Try.prog.info? 51 = some i ∧ i.zero = some zE ∧ i.size = 2 ∧ i.bytes = 24 := by
  have h := infoEdge
  cases h2 : Try.prog.info? 51 with
  | none => simp [h2] at h
  | some i =>
    simp only [h2, Option.map_some, Option.some.injEq, Prod.mk.injEq] at h
    exact ⟨i, rfl, h.1, h.2.1, h.2.2⟩
theorem edCells_one : ∀ l : CK0, ∀ u ∈ edCells l, u.oneCell' = true
  | [], u, h => by simp [edCells] at h
  | e :: l, u, h => by
    rw [edCells] at h
    rcases List.mem_append.1 h with h | h
    · simp at h
      rcases h with rfl | rfl <;> rfl
    · exact edCells_one l u h
theorem edIn_of {w : World} {p : Option Addr} {n c : Nat} {l : CK0} (h : SlC w (.slice p n c) l.length (edCells l)) : EdIn w (.slice p n c) l := h
set_option maxHeartbeats 8000000 in
theorem con_any {l : CK0} {v : Value} {nm : ByteArray} {b : Bool} {w : World} (hv : EdIn w v l) (hlen : l.length ≤ 1000000) :
    Calls Try.prog 71 #[v, .string nm, .bool b] w fun e w' => ∃ p c, e = .returned (.slice p (l.length + 1) c) ∧ Hid (EdIn w' (.slice p (l.length + 1) c) (l ++ [(nm, b)]) ∧ Ext w w' ∧ ∀ g, (Value.slice p (l.length + 1) c).ownBlock = some g → w.heap.size ≤ g) := by
  obtain ⟨i0, hi, hz0, hz1, hz2⟩ := infoE_parts
  obtain ⟨p, c, rfl, hc, hcm⟩ := hv.slice
  obtain ⟨n, hn⟩ : ∃ n, n = l.length := ⟨_, rfl⟩
  rw [← hn] at hv hc hlen
  rw [← hn]
  have HN := Lib.hid hn
  have HV := Lib.hid hv
  have hcI : (c : Int) ≤ 9223372036854775807 := by unfold maxLen at hcm; omega
  clear hn hv hcm
  have hpn : Hid (p = none → n = 0 ∧ n = 0) := Lib.hid (fun e => by
    subst e
    rcases Nat.eq_zero_or_pos n with h | h
    · exact ⟨h, h⟩
    · obtain ⟨x, hx⟩ : ∃ x, l[0]? = some x := ⟨_, List.getElem?_eq_getElem (by rw [← HN.out]; exact h)⟩
      obtain ⟨b', o', e1, -⟩ := HV.out.at hx
      exact absurd e1 (by simp))
  have hhold : Hid (∀ w', Ext w w' → ∀ b', p = some b' → ∀ j u, (edCells l)[j]? = some u → w'.cell? (b'.add j) = some u) := Lib.hid (fun w' hx b' e j u hu => by
    obtain ⟨a', cap, e1, -, -, h3⟩ := HV.out.ext hx
    simp only [Value.slice.injEq] at e1
    obtain ⟨b2, o2, e2, hcell⟩ := h3 j u hu
    have e3 : b' = ⟨b2, o2, none⟩ := Option.some.inj (e.symm.trans (e1.1.trans e2))
    rw [e3, Go.WideShapes.add_plain]
    exact hcell)
  have hnew : Hid (∀ j u, ([.string nm, .bool b] : List Value)[j]? = some u → (w.alloc (.cells #[.string nm, .bool b] 51)).cell? ((⟨w.heap.size, 0, none⟩ : Addr).add j) = some u) := Lib.hid (fun j u hu => by
    have h := BoxV.of_row (heap_alloc_last w (.cells #[.string nm, .bool b] 51))
    rw [Go.WideShapes.add_plain, Nat.zero_add]
    exact h.cells j u hu)
  have hone : Hid (∀ u ∈ ([.string nm, .bool b] : List Value), u.oneCell' = true) := Lib.hid (by simp [Value.oneCell'])
  have hel : Hid ((edCells l).length = n * 2) := Lib.hid (by rw [edCells_len, HN.out])
  have HQ : Hid (∀ v' w', w'.ownsRow (w.alloc (.cells #[.string nm, .bool b] 51)).heap.size 51 2 v' (n + 1) (edCells l ++ [.string nm, .bool b]) → (w.alloc (.cells #[.string nm, .bool b] 51)).grownBy w' none → ∃ p c, v' = .slice p (n + 1) c ∧ Hid (EdIn w' (.slice p (n + 1) c) (l ++ [(nm, b)]) ∧ Ext w w' ∧ ∀ g, (Value.slice p (n + 1) c).ownBlock = some g → w.heap.size ≤ g)) := Lib.hid (fun v' w' ho hg => by
    have h := SlC.of_owns ho
    obtain ⟨a', cap, rfl, h1, h2, h3⟩ := h
    refine ⟨a', cap, rfl, Lib.hid ⟨?_, ((Ext.refl w).alloc _).trans (ext_grown_nil hg), fun g hgg => by
      have h9 := (ho.lt g hgg).1
      have h8 := ((Ext.refl w).alloc (.cells #[.string nm, .bool b] 51)).size
      omega⟩⟩
    unfold EdIn
    rw [edCells_app]
    exact ⟨a', cap, by rw [List.length_append, ← HN.out]; rfl, by rw [List.length_append, ← HN.out]; exact h1, h2, h3⟩)
  have h0 : Hid (Try.prog.info? 51 = some i0 ∧ i0.zero = some zE ∧ i0.size = 2 ∧ i0.bytes = 24) := Lib.hid ⟨hi, hz0, hz1, hz2⟩
  clear hi hz0 hz1 hz2
  go_enter Try.func71, Try.ntmps71
  go_wp2_with (at_builtin; (refine wpList_append_grows _ rfl (.tmp 12) (.tmp 16) 28 rfl 51 i0 zE 2 24 Try.underlying28 h0.out.1 h0.out.2.1 h0.out.2.2.1 h0.out.2.2.2 rfl (by decide) p n n (edCells l) rfl hpn.out hel.out (hhold.out _ ((Ext.refl w).alloc _)) ⟨w.heap.size, 0, none⟩ 1 1 [.string nm, .bool b] rfl rfl hnew.out hone.out (by omega) (by unfold maxLen; omega) (by omega) ?_; intro v' w' ho hg; obtain ⟨p', c', rfl, H9⟩ := HQ.out v' w' ho hg; clear ho hg))
  go_ret
  exact ⟨p', c', rfl, H9⟩
end Go.Proofs.Ytmommjagndadjaa
namespace Go.Proofs.Ytmommjagndadjaa
open Go.RowKit Go.Maps
set_option linter.unusedSimpArgs false
set_option linter.unusedVariables false
set_option maxRecDepth 100000

abbrev KQ := Bool × CK0
def clkF (t : VT) (f n : Int) (nm : ByteArray) (l : List KQ) : Option KQ :=
  if f = 2 then some (false, clkT t nm)
  else if f = 9 then (if goesK (l.getD 0 (false, [])) (clkT t nm) then some (false, clkT t nm ++ [(nm, decide (n = 1))]) else none)
  else if f = 10 then (if goesK (l.getD 0 (false, [])) (clkT t nm ++ [(nm, true)]) ∧ goesK (l.getD 1 (false, [])) (clkT t nm ++ [(nm, false)]) then some (false, clkT t nm) else none)
  else joinK l (true, [])
theorem clkE_eq (t : VT) (e : CE) : clkE t e = (clkL t e.kids).bind (clkF t e.form e.n e.name) := by
  cases e with
  | mk f s k n nm ks => rw [clkE]; rfl
theorem clkL_none (t : VT) {ks : List CE} {j : Nat} {x : CE} (hx : ks[j]? = some x) (h0 : clkE t x = none) : clkL t (ks.drop j) = none := by
  rw [drop_cons hx, clkL, h0]; rfl
theorem clkL_more (t : VT) {ks : List CE} {j : Nat} {x : CE} {k : KQ} (hx : ks[j]? = some x) (h0 : clkE t x = some k) : clkL t (ks.drop j) = (clkL t (ks.drop (j + 1))).map (k :: ·) := by
  rw [drop_cons hx, clkL, h0]; rfl
/-! ### In memory -/
def kqCells : List KQ → List Value → List Value
  | k :: l, q :: qs => [.bool k.1, q] ++ kqCells l qs
  | _, _ => []
theorem kqCells_len : ∀ (l : List KQ) (qs : List Value), qs.length = l.length → (kqCells l qs).length = l.length * 2
  | [], [], _ => rfl
  | [], q :: qs, h => by simp at h
  | k :: l, [], h => by simp at h
  | k :: l, q :: qs, h => by rw [kqCells, List.length_append, kqCells_len l qs (by simpa using h)]; simp; omega
theorem kqCells_app : ∀ (l : List KQ) (qs : List Value) (m : List KQ) (rs : List Value), qs.length = l.length → kqCells (l ++ m) (qs ++ rs) = kqCells l qs ++ kqCells m rs
  | [], [], m, rs, _ => rfl
  | [], q :: qs, m, rs, h => by simp at h
  | v :: l, [], m, rs, h => by simp at h
  | v :: l, q :: qs, m, rs, h => by rw [List.cons_append, List.cons_append, kqCells, kqCells, kqCells_app l qs m rs (by simpa using h)]; simp
theorem kqCells_at : ∀ {l : List KQ} {qs : List Value} {i : Nat} {x : KQ}, qs.length = l.length → l[i]? = some x → ∃ q, qs[i]? = some q ∧ ∀ k u, ([.bool x.1, q] : List Value)[k]? = some u → (kqCells l qs)[i * 2 + k]? = some u
  | [], _, _, _, _, h => by simp at h
  | y :: l, [], _, _, h, _ => by simp at h
  | y :: l, q :: qs, 0, x, hl, h => by
    simp at h
    subst h
    refine ⟨q, by simp, fun k u hu => ?_⟩
    rw [kqCells, Nat.zero_mul, Nat.zero_add, List.getElem?_append_left]
    · exact hu
    · exact (List.getElem?_eq_some_iff.1 hu).1
  | y :: l, q :: qs, i + 1, x, hl, h => by
    obtain ⟨q', h1, h2⟩ := kqCells_at (l := l) (qs := qs) (i := i) (x := x) (by simpa using hl) (by simpa using h)
    refine ⟨q', by simp [h1], fun k u hu => ?_⟩
    rw [kqCells, List.getElem?_append_right (by simp; omega), show (i + 1) * 2 + k - List.length [Value.bool y.1, q] = i * 2 + k by simp; omega]
    exact h2 k u hu
/-- Clocks in a row of their own; each clock's slice. -/
structure KQs (w : World) (base : Nat) (v : Value) (n : Nat) (l : List KQ) (qs : List Value) : Prop where
  len : qs.length = l.length
  cnt : l.length = n
  row : w.ownsRow base 111 2 v n (kqCells l qs)
  clk : ∀ (i : Nat) (x : KQ) (q : Value), l[i]? = some x → qs[i]? = some q → EdIn w q x.2
  off : ∀ (i : Nat) (x : KQ) (q : Value), l[i]? = some x → qs[i]? = some q → x.2 ≠ [] → ∀ b, q.ownBlock = some b → v.ownBlock ≠ some b
/-- A slice's block is not there yet, or was there from the first. -/
def Far (W0 w : World) (v : Value) (l : CK0) : Prop := l ≠ [] → ∀ b, v.ownBlock = some b → b < W0.heap.size ∨ w.heap.size ≤ b
theorem EdIn.blk {w : World} {v : Value} {l : CK0} (h : EdIn w v l) (hl : l ≠ []) {b : Nat} (hb : v.ownBlock = some b) : b < w.heap.size := by
  obtain ⟨p, c, rfl, -, -⟩ := h.slice
  obtain ⟨x, hx⟩ : ∃ x, l[0]? = some x := ⟨_, List.getElem?_eq_getElem (List.length_pos_iff.2 hl)⟩
  obtain ⟨b', o', rfl, -, -, h3⟩ := h.at hx
  simp [Value.ownBlock] at hb
  omega
theorem EdIn.far {W0 w : World} {v : Value} {l : CK0} (h : EdIn W0 v l) : Far W0 w v l := fun hl b hb => .inl (h.blk hl hb)
theorem EdIn.kb {w w' : World} {v : Value} {l : CK0} {S : List Nat} (h : EdIn w v l) (hk : Kb S w w') (hS : l ≠ [] → ∀ b, v.ownBlock = some b → b ∉ S) : EdIn w' v l := by
  unfold EdIn at h ⊢
  obtain ⟨a, cap, rfl, h2, h3, h4⟩ := h
  refine ⟨a, cap, rfl, h2, h3, fun j u hu => ?_⟩
  obtain ⟨b, o, rfl, h5⟩ := h4 j u hu
  refine ⟨b, o, rfl, hk.cell (hS (fun e => ?_) b rfl) h5⟩
  subst e
  simp [edCells] at hu
theorem KQs.nil (w : World) (base : Nat) : KQs w base (.slice none 0 0) 0 [] [] := ⟨rfl, rfl, own_nil _ _ _ _, fun i x q h _ => by simp at h, fun i x q h _ => by simp at h⟩
theorem KQs.ext {w w' : World} {base n : Nat} {v : Value} {l : List KQ} {qs : List Value} (h : KQs w base v n l qs) (hx : Ext w w') : KQs w' base v n l qs :=
  ⟨h.len, h.cnt, ownsRow_ext h.row hx, fun i x q h1 h2 => (h.clk i x q h1 h2).ext hx, h.off⟩
/-- One clock more, the row moved or not. -/
theorem KQs.snoc {w w' : World} {base n : Nat} {v v' : Value} {l : List KQ} {qs : List Value} (h : KQs w base v n l qs) {k : KQ} {q : Value} (hq : EdIn w q k.2) (hqo : k.2 ≠ [] → ∀ b, q.ownBlock = some b → v.ownBlock ≠ some b)
    (hk : Kb v.ownBlock.toList w w') (hat : v'.ownBlock = v.ownBlock ∨ ∃ g, v'.ownBlock = some g ∧ w.heap.size ≤ g) (hr : w'.ownsRow base 111 2 v' (n + 1) (kqCells l qs ++ [.bool k.1, q])) : KQs w' base v' (n + 1) (l ++ [k]) (qs ++ [q]) := by
  have hoff : ∀ (i : Nat) (x : KQ) (q' : Value), (l ++ [k])[i]? = some x → (qs ++ [q])[i]? = some q' → EdIn w q' x.2 ∧ (x.2 ≠ [] → ∀ b, q'.ownBlock = some b → v.ownBlock ≠ some b) := fun i x q' h1 h2 => by
    by_cases hi : i < l.length
    · rw [List.getElem?_append_left hi] at h1
      rw [List.getElem?_append_left (by rw [h.len]; exact hi)] at h2
      exact ⟨h.clk i x q' h1 h2, h.off i x q' h1 h2⟩
    · rw [List.getElem?_append_right (by omega)] at h1
      rw [List.getElem?_append_right (by rw [h.len]; omega), h.len] at h2
      obtain ⟨h3, -⟩ := List.getElem?_eq_some_iff.1 h1
      simp at h3
      have h4 : i - l.length = 0 := by omega
      rw [h4] at h1 h2
      simp at h1 h2
      rw [← h1, ← h2]; exact ⟨hq, hqo⟩
  refine ⟨by simp [h.len], by simp [h.cnt], ?_, fun i x q' h1 h2 => ?_, fun i x q' h1 h2 hx b hb e => ?_⟩
  · rw [kqCells_app _ _ _ _ h.len]; exact hr
  · obtain ⟨h3, h4⟩ := hoff i x q' h1 h2
    exact h3.kb hk (fun hl b hb e => h4 hl b hb (Option.mem_toList.1 e))
  · obtain ⟨h3, h4⟩ := hoff i x q' h1 h2
    rcases hat with h5 | ⟨g, h5, h6⟩
    · exact h4 hx b hb (h5.symm.trans e)
    · rw [h5] at e
      have := h3.blk hx hb
      simp at e
      omega
theorem KQs.at {W0 w w1 : World} {base n c i : Nat} {p : Option Addr} {l : List KQ} {qs : List Value} {x : KQ} (h : KQs w base (.slice p n c) n l qs) (hfar : ∀ (i : Nat) (x : KQ) (q : Value), l[i]? = some x → qs[i]? = some q → Far W0 w1 q x.2) (hx : l[i]? = some x) : ∃ b o p2 c2, p = some ⟨b, o, none⟩ ∧ b < w.heap.size ∧ w.cell? ⟨b, o + i * 2, none⟩ = some (.bool x.1) ∧ w.cell? ⟨b, o + i * 2 + 1, none⟩ = some (.slice p2 x.2.length c2) ∧ EdIn w (.slice p2 x.2.length c2) x.2 ∧ Far W0 w1 (.slice p2 x.2.length c2) x.2 := by
  obtain ⟨a', cap, e, -, -, hc⟩ := SlC.of_owns h.row
  simp only [Value.slice.injEq] at e
  obtain ⟨q, hq, h6⟩ := kqCells_at h.len hx
  obtain ⟨b, o, e1, c0⟩ := hc _ _ (h6 0 _ rfl)
  obtain ⟨b', o', e2, c1⟩ := hc _ _ (h6 1 _ rfl)
  rw [e1] at e2
  simp only [Option.some.injEq, Addr.mk.injEq] at e2
  obtain ⟨rfl, rfl, -⟩ := e2
  have hE := h.clk i x q hx hq
  have hF := hfar i x q hx hq
  obtain ⟨p2, c2, rfl, -, -⟩ := hE.slice
  exact ⟨b, o, p2, c2, e.1.trans e1, World.block_lt_of_cell? w _ c0, c0, by rw [Nat.add_assoc]; exact c1, hE, hF⟩
theorem KQs.slice {w : World} {base n : Nat} {v : Value} {l : List KQ} {qs : List Value} (h : KQs w base v n l qs) : ∃ p c, v = .slice p n c ∧ n ≤ c ∧ c ≤ maxLen := by
  obtain ⟨a', cap, e, h1, h2, -⟩ := SlC.of_owns h.row
  exact ⟨a', cap, e, h1, h2⟩
def KFar (W0 w : World) (l : List KQ) (qs : List Value) : Prop := ∀ (i : Nat) (x : KQ) (q : Value), l[i]? = some x → qs[i]? = some q → Far W0 w q x.2
theorem Far.older {W0 w w' : World} {v : Value} {l : CK0} (h : Far W0 w' v l) (hx : w.heap.size ≤ w'.heap.size) : Far W0 w v l := fun hl b hb => (h hl b hb).imp id (fun h1 => Nat.le_trans hx h1)
theorem KFar.snoc {W0 w : World} {l : List KQ} {qs : List Value} (h : KFar W0 w l qs) (hl : qs.length = l.length) {k : KQ} {q : Value} (hq : Far W0 w q k.2) : KFar W0 w (l ++ [k]) (qs ++ [q]) := fun i x q' h1 h2 => by
  by_cases hi : i < l.length
  · rw [List.getElem?_append_left hi] at h1
    rw [List.getElem?_append_left (by rw [hl]; exact hi)] at h2
    exact h i x q' h1 h2
  · rw [List.getElem?_append_right (by omega)] at h1
    rw [List.getElem?_append_right (by rw [hl]; omega), hl] at h2
    obtain ⟨h3, -⟩ := List.getElem?_eq_some_iff.1 h1
    simp at h3
    have h4 : i - l.length = 0 := by omega
    rw [h4] at h1 h2
    simp at h1 h2
    rw [← h1, ← h2]; exact hq
theorem joinK_cons (k : KQ) (l : List KQ) (out : KQ) : joinK (k :: l) out = if k.1 then joinK l out else if out.1 then joinK l k else if out.2 = k.2 then joinK l out else none := by rw [joinK]
abbrev zK : Value := .agg #[.bool false, .slice none 0 0]
theorem infoClock : (Try.prog.info? 111).map (fun i => (i.zero, i.size, i.bytes)) = some (some zK, 2, 32) := by kernel_rfl
/-- What clock tells. -/
def RetK (W0 : World) (r : Option KQ) (w : World) (e : Ending) (w' : World) : Prop := ∃ any p m c, e = .returned (.tuple #[.agg #[.bool any, .slice p m c], .bool r.isSome]) ∧ Hid (Ext w w' ∧ ∀ k, r = some k → any = k.1 ∧ m = k.2.length ∧ EdIn w' (.slice p m c) k.2 ∧ Far W0 w (.slice p m c) k.2)
end Go.Proofs.Ytmommjagndadjaa
namespace Go.Proofs.Ytmommjagndadjaa
open Go.RowKit Go.Maps
set_option linter.unusedSimpArgs false
set_option linter.unusedVariables false
set_option maxRecDepth 100000

theorem step_unwanted {P : Program} {ops : Array Oper} {o : Oper} {a : Act} {w : World} {K : Act → World → Prop} {Q : Exit → Act → World → Prop} (h : Region.wanted o (yielded ops a.tmps) = false) (hK : K (a.put o.dst undef) w) :
    if Region.wanted o (yielded ops a.tmps) = true then Oper.wp P o a w K Q else K (a.put o.dst undef) w := by
  rw [if_neg (by rw [h]; simp)]
  exact hK
theorem zret {w wb w9 : World} {Z : Nat} {T : TypeId} {a b : Value} (hz : wb.heap[Z]? = some (.cells #[a, b] T (0, 0))) (hl : Z < wb.heap.size) (hx : Ext wb w9) (hww : Ext w wb) (hZw : w.heap.size ≤ Z) (u v : Value) : ((w9.setCell ⟨Z, 0, none⟩ u).setCell ⟨Z, 1, none⟩ v).heap[Z]? = some (.cells #[u, v] T (0, 0)) ∧ Ext w ((w9.setCell ⟨Z, 0, none⟩ u).setCell ⟨Z, 1, none⟩ v) := by
  have h9 : w9.heap[Z]? = some (.cells #[a, b] T (0, 0)) := (Below.block hx Z hl).trans hz
  refine ⟨?_, ((hww.trans hx).setCell hZw u).setCell hZw v⟩
  have h1 := heap_setCell_same w9 Z 0 _ T u h9
  have h2 := heap_setCell_same _ Z 1 _ T v h1
  simpa using h2
set_option maxHeartbeats 16000000 in
theorem cclock_at {W0 : World} {x : S4} {X M D : Nat} {t : TQ} {d : DT} (hb : ∀ n, (clkT t.vt n).length ≤ 100000) :
    ∀ (N : Nat) (e : CE), SizeOf.sizeOf e < N → ∀ (kv : Value) (w : World), KC W0 x X M D t d w → KIn W0 e kv → okE e → frm e →
    Calls Try.prog 61 #[.pointer (some ⟨X, 0, none⟩), eVal e kv] w (RetK W0 (clkE t.vt e) w) := by
  intro N
  induction N with
  | zero => intro e h; omega
  | succ N ih =>
    intro e hN kv w hkc0 hk hok hfr
    have HIH := Lib.hid ih
    have HKC := Lib.hid hkc0
    have HBD := Lib.hid hb
    have HW := Lib.hid (And.intro hN (And.intro hk (And.intro hok hfr)))
    obtain ⟨R, hR⟩ : ∃ R, R = clkE t.vt e := ⟨_, rfl⟩
    rw [← hR]
    obtain ⟨Q, hQ⟩ : ∃ Q, Q = RetK W0 R w := ⟨_, rfl⟩
    rw [← hQ]
    have HQ := Lib.hid hQ
    obtain ⟨p, c, rfl, hkc, hcm⟩ := hk.slice
    obtain ⟨n, hn⟩ : ∃ n, n = e.kids.length := ⟨_, rfl⟩
    rw [← hn] at hkc ⊢
    have hcI : (c : Int) ≤ 9223372036854775807 := by unfold maxLen at hcm; omega
    have hn3 : n ≤ 3 := by rw [hn]; exact hfr.here.2
    have HN := Lib.hid (And.intro hn hfr.here.1)
    obtain ⟨f, hf⟩ : ∃ f, f = e.form := ⟨_, rfl⟩
    obtain ⟨s, hs⟩ : ∃ s, s = e.sub := ⟨_, rfl⟩
    obtain ⟨k, hk2⟩ : ∃ s, s = e.kind := ⟨_, rfl⟩
    obtain ⟨nn, hnn⟩ : ∃ s, s = e.n := ⟨_, rfl⟩
    obtain ⟨nm, hnm⟩ : ∃ s, s = e.name := ⟨_, rfl⟩
    have HR : Hid (R = (clkL t.vt e.kids).bind (clkF t.vt f nn nm)) := Lib.hid (by rw [hR, clkE_eq, hf, hnn, hnm])
    have HNM : Hid (nm.size ≤ maxLen ∧ f = e.form) := Lib.hid ⟨by rw [hnm]; exact hok.name, hf⟩
    have HE := Lib.hid (show eVal e (.slice p n c) = .agg #[.int .i64 f, .int .i64 s, .int .i64 k, .int .i64 nn, .string nm, .slice p n c] by rw [hf, hs, hk2, hnn, hnm]; rfl)
    rw [HE.out]
    clear hQ hR hn hf hs hk2 hnn hnm hk hok hN ih hcm hfr hkc0 hb
    go_enter Try.func61, Try.ntmps61
    go_upto_region 1 with fail
    have hbx : BoxV w.heap.size [.int .i64 f, .int .i64 s, .int .i64 k, .int .i64 nn, .string nm, .slice p n c] ((w.alloc (.cells #[.int .i64 f, .int .i64 s, .int .i64 k, .int .i64 nn, .string nm, .slice p n c] 33)).alloc (.cells #[.bool false, .slice none 0 0] 111)) := (BoxV.of_row (heap_alloc_last w _)).ext ((Ext.refl _).alloc _)
    have hbz : BoxV (w.heap.size + 1) [.bool false, .slice none 0 0] ((w.alloc (.cells #[.int .i64 f, .int .i64 s, .int .i64 k, .int .i64 nn, .string nm, .slice p n c] 33)).alloc (.cells #[.bool false, .slice none 0 0] 111)) := by
      have := BoxV.of_row (heap_alloc_last (w.alloc (.cells #[.int .i64 f, .int .i64 s, .int .i64 k, .int .i64 nn, .string nm, .slice p n c] 33)) (.cells #[.bool false, .slice none 0 0] 111))
      simpa using this
    have hxb : Ext w ((w.alloc (.cells #[.int .i64 f, .int .i64 s, .int .i64 k, .int .i64 nn, .string nm, .slice p n c] 33)).alloc (.cells #[.bool false, .slice none 0 0] 111)) := ((Ext.refl w).alloc _).alloc _
    have hzh : ((w.alloc (.cells #[.int .i64 f, .int .i64 s, .int .i64 k, .int .i64 nn, .string nm, .slice p n c] 33)).alloc (.cells #[.bool false, .slice none 0 0] 111)).heap[w.heap.size + 1]? = some (.cells #[.bool false, .slice none 0 0] 111 (0, 0)) := by
      have := heap_alloc_last (w.alloc (.cells #[.int .i64 f, .int .i64 s, .int .i64 k, .int .i64 nn, .string nm, .slice p n c] 33)) (.cells #[.bool false, .slice none 0 0] 111)
      simpa using this
    obtain ⟨Z, hZ⟩ : ∃ z, z = w.heap.size + 1 := ⟨_, rfl⟩
    have HZW : Hid (w.heap.size ≤ Z) := Lib.hid (by omega)
    try rw [← hZ]
    rw [← hZ] at hbz hzh
    generalize ((w.alloc (.cells #[.int .i64 f, .int .i64 s, .int .i64 k, .int .i64 nn, .string nm, .slice p n c] 33)).alloc (.cells #[.bool false, .slice none 0 0] 111)) = wb at hbx hbz hxb hzh ⊢
    have HZH := Lib.hid (And.intro hzh hbz.lt)
    clear hzh
    generalize w.heap.size = Y at hbx hZ ⊢
    have HB := Lib.hid (And.intro hxb (And.intro hbx (And.intro hbz hZ)))
    have p5 := hbx.cells 5 _ rfl
    have hxl := hbx.lt
    clear hbx hxb hbz hZ
    go_upto_region 3 with fail
    go_loopw [6, 18] (fun v i wr => ∃ (j c1 : Nat) (p1 : Option Addr) (l : List KQ) (qs : List Value), j ≤ n ∧ i = .int .i64 (j : Int) ∧ v = .slice p1 j c1 ∧ Hid (KQs wr wb.heap.size (.slice p1 j c1) j l qs) ∧ Hid (KFar W0 wb l qs) ∧ Hid (Ext wb wr) ∧ Hid (clkL t.vt e.kids = (clkL t.vt (e.kids.drop j)).map (l ++ ·))) (fun _ i _ => n - (intOf i).toNat)
    case atStart => exact ⟨0, 0, none, [], [], Nat.zero_le _, rfl, rfl, Lib.hid (KQs.nil _ _), Lib.hid (fun i x q h _ => by simp at h), Lib.hid (Ext.refl _), Lib.hid (by simp)⟩
    case round =>
      obtain ⟨j, c1, p1, l, qs, hj, rfl, rfl, HO, HKF, HX, HL⟩ := hrel
      by_cases hlt : j < n
      · have hki : (j : Int) < (n : Int) := Int.ofNat_lt.2 hlt
        obtain ⟨x_, hx⟩ : ∃ x, e.kids[j]? = some x := ⟨_, List.getElem?_eq_getElem (by have := HN.out.1; omega)⟩
        have hww : Ext w wr := HB.out.1.trans HX.out
        have hxw : Ext W0 wr := HKC.out.ext.trans hww
        have hkw := HW.out.2.1
        rw [← HN.out.1] at hkw
        obtain ⟨-, -, -, b, o, xv, rfl, hkx, e0, e1, e2, e3, e4, e5, hbl⟩ := hkw.at hx
        obtain ⟨q, d_, rfl, -, -⟩ := hkx.slice
        replace e0 := hxw.cell e0
        replace e1 := hxw.cell e1
        replace e2 := hxw.cell e2
        replace e3 := hxw.cell e3
        replace e4 := hxw.cell e4
        replace e5 := hxw.cell e5
        replace hbl := Nat.lt_of_lt_of_le hbl hxw.size
        obtain ⟨m, hm⟩ : ∃ m, m = x_.kids.length := ⟨_, rfl⟩
        have hjc : j < c := by omega
        have HEX := Lib.hid (show eVal x_ (.slice q x_.kids.length d_) = .agg #[.int .i64 x_.form, .int .i64 x_.sub, .int .i64 x_.kind, .int .i64 x_.n, .string x_.name, .slice q m d_] by rw [hm]; rfl)
        rw [← hm] at e5
        have hxa : Ext wr (wr.alloc (.cells #[.int .i64 x_.form, .int .i64 x_.sub, .int .i64 x_.kind, .int .i64 x_.n, .string x_.name, .slice q m d_] 33)) := (Ext.refl wr).alloc _
        have HXA := Lib.hid hxa
        obtain ⟨r, hr⟩ : ∃ r, r = clkE t.vt x_ := ⟨_, rfl⟩
        have HF : Hid (Calls Try.prog 61 #[.pointer (some ⟨X, 0, none⟩), .agg #[.int .i64 x_.form, .int .i64 x_.sub, .int .i64 x_.kind, .int .i64 x_.n, .string x_.name, .slice q m d_]] (wr.alloc (.cells #[.int .i64 x_.form, .int .i64 x_.sub, .int .i64 x_.kind, .int .i64 x_.n, .string x_.name, .slice q m d_] 33)) (RetK W0 r (wr.alloc (.cells #[.int .i64 x_.form, .int .i64 x_.sub, .int .i64 x_.kind, .int .i64 x_.n, .string x_.name, .slice q m d_] 33)))) := Lib.hid (by
          rw [hr, ← HEX.out]
          have hs1 := CE.size_kids e
          have hs2 := size_at hx
          have hN := HW.out.1
          exact HIH.out x_ (by omega) _ _ (HKC.out.next (hww.trans hxa)) hkx (HW.out.2.2.1.kids.at hx) (HW.out.2.2.2.at hx))
        have HXX := Lib.hid (And.intro hx hr)
        have HZB : Hid (BoxV Z [.bool false, .slice none 0 0] wr) := Lib.hid (HB.out.2.2.1.ext HX.out)
        clear hx hxw hkw hkx hm hr hxa hww
        cases r with
        | none =>
          have HF2 : Hid (Calls Try.prog 61 #[.pointer (some ⟨X, 0, none⟩), .agg #[.int .i64 x_.form, .int .i64 x_.sub, .int .i64 x_.kind, .int .i64 x_.n, .string x_.name, .slice q m d_]] (wr.alloc (.cells #[.int .i64 x_.form, .int .i64 x_.sub, .int .i64 x_.kind, .int .i64 x_.n, .string x_.name, .slice q m d_] 33)) (fun e w' => ∃ any p mm c, e = .returned (.tuple #[.agg #[.bool any, .slice p mm c], .bool false]) ∧ Hid (Ext (wr.alloc (.cells #[.int .i64 x_.form, .int .i64 x_.sub, .int .i64 x_.kind, .int .i64 x_.n, .string x_.name, .slice q m d_] 33)) w'))) := Lib.hid (HF.out.mono (fun e w' ⟨a, p, mm, c, h1, h2⟩ => ⟨a, p, mm, c, h1, Lib.hid h2.out.1⟩))
          clear HF
          go_upto_region 7 with (first | (go_at_call 61; refine HF2.out.mono ?_; rintro e1 w2 ⟨ka, p2, m2, c2, rfl, H2⟩) | fail)
          have hb9 : BoxV Z [.bool false, .slice none 0 0] (w2.alloc (.cells #[.bool ka, .slice p2 m2 c2] 111)) := (HZB.out.ext (HXA.out.trans H2.out)).ext ((Ext.refl _).alloc _)
          have hxb9 : Ext wb (w2.alloc (.cells #[.bool ka, .slice p2 m2 c2] 111)) := (HX.out.trans (HXA.out.trans H2.out)).alloc _
          have hx9 : Ext w (w2.alloc (.cells #[.bool ka, .slice p2 m2 c2] 111)) := ((HB.out.1.trans HX.out).trans (HXA.out.trans H2.out)).alloc _
          generalize (w2.alloc (.cells #[.bool ka, .slice p2 m2 c2] 111)) = w9 at hb9 hx9 hxb9 ⊢
          have HX9 := Lib.hid hx9
          have HXB9 := Lib.hid hxb9
          have HB9 := Lib.hid hb9
          have z0 := hb9.cells 0 _ rfl
          have z1 := hb9.cells 1 _ rfl
          have zf0 := hb9.fz 0
          have zf1 := hb9.fz 1
          have zf2 : (w9.setCell ⟨Z, 0, none⟩ (.bool false)).frozen? ⟨Z, 1, none⟩ = false := by simp; exact hb9.fz 1
          have zl := hb9.lt
          have HC : Hid (R = none) := Lib.hid (by rw [HR.out, HL.out, clkL_none t.vt HXX.out.1 HXX.out.2.symm]; rfl)
          clear hb9 hx9 e0 e1 e2 e3 e4 e5 hbl
          clear hxb9
          go_wp2
          have h8 := zret HZH.out.1 HZH.out.2 HXB9.out HB.out.1 HZW.out (.bool false) (.slice none 0 0)
          refine ret_row2 rfl Z 111 #[.bool false, .slice none 0 0] _ rfl h8.1 Try.underlying111 rfl (by kernel_rfl) rfl ?_
          rw [HQ.out, HC.out]
          exact ⟨_, _, _, _, rfl, Lib.hid ⟨h8.2, fun k h => by simp at h⟩⟩
        | some kq =>
          obtain ⟨kb, kl⟩ := kq
          obtain ⟨mm, hmm⟩ : ∃ z, z = kl.length := ⟨_, rfl⟩
          have HMM := Lib.hid hmm
          have HF2 : Hid (Calls Try.prog 61 #[.pointer (some ⟨X, 0, none⟩), .agg #[.int .i64 x_.form, .int .i64 x_.sub, .int .i64 x_.kind, .int .i64 x_.n, .string x_.name, .slice q m d_]] (wr.alloc (.cells #[.int .i64 x_.form, .int .i64 x_.sub, .int .i64 x_.kind, .int .i64 x_.n, .string x_.name, .slice q m d_] 33)) (fun e w' => ∃ p c, e = .returned (.tuple #[.agg #[.bool kb, .slice p mm c], .bool true]) ∧ Hid (Ext (wr.alloc (.cells #[.int .i64 x_.form, .int .i64 x_.sub, .int .i64 x_.kind, .int .i64 x_.n, .string x_.name, .slice q m d_] 33)) w' ∧ EdIn w' (.slice p mm c) kl ∧ Far W0 (wr.alloc (.cells #[.int .i64 x_.form, .int .i64 x_.sub, .int .i64 x_.kind, .int .i64 x_.n, .string x_.name, .slice q m d_] 33)) (.slice p mm c) kl))) := Lib.hid (HF.out.mono (fun e w' ⟨a, p, m', c, h1, h2⟩ => by
            obtain ⟨h3, h4⟩ := h2.out
            obtain ⟨rfl, h5, h6, h7⟩ := h4 _ rfl
            rw [show m' = mm from by rw [h5, hmm]] at h1 h6 h7
            exact ⟨p, c, h1, Lib.hid ⟨h3, h6, h7⟩⟩))
          clear HF hmm
          go_upto_region 8 with (first | (go_at_call 61; refine HF2.out.mono ?_; rintro e1 w2 ⟨p2, c2, rfl, H2⟩) | fail)
          have hb9 : BoxV w2.heap.size [.bool kb, .slice p2 mm c2] (w2.alloc (.cells #[.bool kb, .slice p2 mm c2] 111)) := BoxV.of_row (heap_alloc_last w2 _)
          have hx9 : Ext w2 (w2.alloc (.cells #[.bool kb, .slice p2 mm c2] 111)) := (Ext.refl _).alloc _
          generalize (w2.alloc (.cells #[.bool kb, .slice p2 mm c2] 111)) = w9 at hb9 hx9 ⊢
          generalize w2.heap.size = B9 at hb9 ⊢
          have HX9 : Hid (Ext wb w9 ∧ EdIn w9 (.slice p2 mm c2) kl) := Lib.hid ⟨HX.out.trans (HXA.out.trans (H2.out.1.trans hx9)), H2.out.2.1.ext hx9⟩
          have HO9 : Hid (KQs w9 wb.heap.size (.slice p1 j c1) j l qs) := Lib.hid (HO.out.ext (HXA.out.trans (H2.out.1.trans hx9)))
          have z0 := hb9.cells 0 _ rfl
          have z1 := hb9.cells 1 _ rfl
          have zl := hb9.lt
          clear hb9 hx9 e0 e1 e2 e3 e4 e5 hbl
          go_wp2_with (at_builtin; (refine wpList_append_slc _ rfl (.tmp 31) (.tmp 33) 129 rfl wb.heap.size 111 zK 2 32 Try.underlying129 infoClock rfl (by decide) (.slice p1 j c1) j (kqCells l qs) rfl (HO9.out.row.alloc (.cells #[.bool kb, .slice p2 mm c2] 111)) _ 1 [.bool kb, .slice p2 mm c2] rfl (SlC.fresh _ #[.bool kb, .slice p2 mm c2] _ 1 _ (by simp) (by decide)) rfl (by simp [Value.oneCell']) (by unfold maxLen; omega) (by omega) (by have := HX9.out.1.size; simp; omega) ?_; intro v9 wc hown9 hg9 hat9; obtain ⟨xc, yc, zc, rfl⟩ := own_slice3 hown9; have HP := Lib.hid (And.intro hown9 (And.intro hg9 hat9)); clear hown9 hg9 hat9))
          have hk9 : Kb (Value.ownBlock (.slice p1 j c1)).toList (w9.alloc (.cells #[.bool kb, .slice p2 mm c2] 111)) wc := Kb.grown HP.out.2.1 (fun g hg => Option.mem_toList.2 hg)
          have hxc : Ext wb wc := hk9.ext (HX9.out.1.alloc _) (fun g hg => (HO9.out.row.lt g (Option.mem_toList.1 hg)).1)
          have hy : yc = j + 1 := by
            obtain ⟨a', c', e, -⟩ := SlC.of_owns HP.out.1
            simp at e
            exact e.2.1
          subst hy
          have hqo : kl ≠ [] → ∀ b, (Value.slice p2 mm c2).ownBlock = some b → (Value.slice p1 j c1).ownBlock ≠ some b := fun hl b hb e => by
            have h1 := HO.out.row.lt b e
            have h2 := HKC.out.ext.size
            have h3 := HB.out.1.size
            have h4 := HXA.out.size
            rcases H2.out.2.2 hl b hb with h | h <;> omega
          refine ⟨⟨j + 1, zc, xc, l ++ [(kb, kl)], qs ++ [.slice p2 mm c2], by omega, by go_num, rfl, Lib.hid (KQs.snoc (HO9.out.ext ((Ext.refl _).alloc _)) (k := (kb, kl)) (HX9.out.2.ext ((Ext.refl _).alloc _)) hqo hk9 (HP.out.2.2.imp id (fun h => ⟨_, h, Nat.le_refl _⟩)) HP.out.1), Lib.hid (KFar.snoc HKF.out HO9.out.len (H2.out.2.2.older (by have h4 := HX.out.size; have h5 := HXA.out.size; omega))), Lib.hid hxc, Lib.hid ?_⟩, by simp [intOf]; omega⟩
          rw [HL.out, clkL_more t.vt HXX.out.1 HXX.out.2.symm, Option.map_map]
          congr 1
          funext z
          simp
      · have hki : ¬ (j : Int) < (n : Int) := fun e => hlt (Int.ofNat_lt.1 e)
        obtain rfl : j = n := by omega
        have HRL : Hid (R = clkF t.vt f nn nm l) := Lib.hid (by
          rw [HR.out, HL.out, HN.out.1, List.drop_length, clkL]; simp)
        have hkc := HKC.out.next (HB.out.1.trans HX.out)
        obtain ⟨nmv, pv, cv, hlk, hev⟩ := hkc.lookA HNM.out.1
        have hlk2 := fun n' : Nat => hlk (wr.drewN n') ((Ext.refl wr).drewN n')
        have hlk0 := hlk wr (Ext.refl wr)
        obtain ⟨V, hV⟩ : ∃ z, z = clkT t.vt nm := ⟨_, rfl⟩
        have hVb : V.length ≤ 100000 := by rw [hV]; exact HBD.out nm
        rw [← hV] at hlk2 hlk0 hev
        obtain ⟨vl, hvl⟩ : ∃ z, z = V.length := ⟨_, rfl⟩
        rw [← hvl] at hlk2 hlk0 hev hVb
        have HVV := Lib.hid (And.intro hV (And.intro hvl hev))
        have g4 := hkc.box.cells 4 _ rfl
        have gl := hkc.box.lt
        have hby := HB.out.2.1.ext HX.out
        have y0 := hby.cells 0 _ rfl
        have y3 := hby.cells 3 _ rfl
        have y4 := hby.cells 4 _ rfl
        have yl := hby.lt
        clear hkc hlk hV hvl hev hby
        go_upto_region 10 with fail
        (refine region_drew (by kernel_rfl) (by kernel_rfl) ?_; (repeat (go_big_quiet_step (fail))); refine wpQuiet_nil ?_; rintro _ ⟨nq, rfl⟩)
        have hxv : Ext wr (wr.drewN nq) := (Ext.refl wr).drewN nq
        have y0 := hxv.cell y0
        have y3 := hxv.cell y3
        have y4 := hxv.cell y4
        have yl := Nat.lt_of_lt_of_le yl hxv.size
        have hbv : BoxV Z [.bool false, .slice none 0 0] (wr.drewN nq) := (HB.out.2.2.1.ext HX.out).ext hxv
        have HO := Lib.hid (HO.out.ext hxv)
        have HX := Lib.hid (HX.out.trans hxv)
        clear hlk2 hlk0 g4 gl
        generalize wr.drewN nq = wv at y0 y3 y4 yl hbv HO HX ⊢
        clear hxv
        have HZV := Lib.hid hbv
        have HEV : Hid (EdIn wv (.slice pv vl cv) V ∧ Far W0 w (.slice pv vl cv) V) := Lib.hid ⟨HVV.out.2.2.ext (HKC.out.ext.trans (HB.out.1.trans HX.out)), EdIn.far HVV.out.2.2⟩
        by_cases hf2 : f = 2
        · have HF := Lib.hid hf2
          have q2 : (f == 2) = true := by rw [HF.out]; rfl
          have HC : Hid (R = some (false, V)) := Lib.hid (by rw [HRL.out, HF.out, HVV.out.1]; rfl)
          have z0 := hbv.cells 0 _ rfl
          have z1 := hbv.cells 1 _ rfl
          have zf0 := hbv.fz 0
          have zf1 := hbv.fz 1
          have zf2 : (wv.setCell ⟨Z, 0, none⟩ (.bool false)).frozen? ⟨Z, 1, none⟩ = false := by simp; exact hbv.fz 1
          have zl := hbv.lt
          clear hf2 hbv
          go_wp2
          have h8 := zret HZH.out.1 HZH.out.2 HX.out HB.out.1 HZW.out (.bool false) (.slice pv vl cv)
          refine ret_row2 rfl Z 111 #[.bool false, .slice pv vl cv] _ rfl h8.1 Try.underlying111 rfl (by kernel_rfl) rfl ?_
          rw [HQ.out, HC.out]
          exact ⟨_, _, _, _, rfl, Lib.hid ⟨h8.2, fun k h => by
            simp only [Option.some.injEq] at h
            subst h
            refine ⟨rfl, HVV.out.2.1, HVV.out.2.2.ext (HKC.out.ext.trans h8.2), HEV.out.2⟩⟩⟩
        by_cases hf9 : f = 9
        · have HF := Lib.hid hf9
          have q2 : (f == 2) = false := by rw [HF.out]; rfl
          have q9 : (f == 9) = true := by rw [HF.out]; rfl
          have hj1 : 1 ≤ j := by have h1 := HN.out.2; rw [← HNM.out.2, HF.out] at h1; have h2 : wantF 9 = 1 := by decide
                                 rw [h2] at h1; rw [HN.out.1]; exact h1
          obtain ⟨kq, hkq⟩ : ∃ z, l[0]? = some z := ⟨_, List.getElem?_eq_getElem (by rw [HO.out.cnt]; omega)⟩
          obtain ⟨b9, o9, p9, c9, rfl, hb9, x0, x1, hE9, -⟩ := HO.out.at (W0 := W0) (w1 := wb) HKF.out hkq
          have hg0 : l.getD 0 (false, []) = kq := by simp [List.getD, hkq]
          obtain ⟨ka, kl⟩ := kq
          dsimp only at x0 x1 hE9
          rw [Nat.zero_mul, Nat.add_zero] at x0 x1
          obtain ⟨ml, hml⟩ : ∃ z, z = kl.length := ⟨_, rfl⟩
          rw [← hml] at x1 hE9
          obtain ⟨ge, hge⟩ : ∃ z, z = goesK (ka, kl) V := ⟨_, rfl⟩
          have HGE := Lib.hid hge
          have HGO : Hid (∀ w', Ext wv w' → Calls Try.prog 62 #[.agg #[.bool ka, .slice p9 ml c9], .slice pv vl cv] w' (RetX ge w')) := Lib.hid (fun w' hx => by
            rw [hge]
            exact cgoes_any (hE9.ext hx) (HEV.out.1.ext hx))
          have HR9 : Hid (R = if ge then some (false, V ++ [(nm, decide (nn = 1))]) else none) := Lib.hid (by
            rw [HRL.out, HF.out, hge, HVV.out.1]
            unfold clkF
            rw [if_neg (by decide), if_pos rfl, hg0])
          have hjc1 : j ≤ c1 ∧ (c1 : Int) ≤ 9223372036854775807 := by
            obtain ⟨a', c', e, h1, h2⟩ := HO.out.slice
            simp only [Value.slice.injEq] at e
            rw [e.2.2]
            unfold maxLen at h2
            exact ⟨h1, by omega⟩
          obtain ⟨hjc1, hjc2⟩ := hjc1
          have hj0' : (0 : Int) < (j : Int) := by omega
          have hj00 : 0 < j := by omega
          have z0 := hbv.cells 0 _ rfl
          have z1 := hbv.cells 1 _ rfl
          have zf0 := hbv.fz 0
          have zf1 := hbv.fz 1
          have zl := hbv.lt
          have hq0 : wv.cell? ⟨Y, 3, none⟩ = some (.int .i64 nn) ∧ wv.cell? ⟨Y, 4, none⟩ = some (.string nm) ∧ wv.cell? ⟨b9, o9, none⟩ = some (.bool ka) ∧ wv.cell? ⟨b9, o9 + 1, none⟩ = some (.slice p9 ml c9) := ⟨y3, y4, x0, x1⟩
          have HQQ : Hid (∀ w', Ext wv w' → w'.cell? ⟨Y, 3, none⟩ = some (.int .i64 nn) ∧ w'.cell? ⟨Y, 4, none⟩ = some (.string nm) ∧ w'.cell? ⟨b9, o9, none⟩ = some (.bool ka) ∧ w'.cell? ⟨b9, o9 + 1, none⟩ = some (.slice p9 ml c9)) := Lib.hid (fun w' hx => ⟨hx.cell y3, hx.cell y4, hx.cell x0, hx.cell x1⟩)
          have HQZ : Hid (∀ w' u v, Ext wv w' → ((w'.setCell ⟨Z, 0, none⟩ u).setCell ⟨Z, 1, none⟩ v).cell? ⟨Y, 3, none⟩ = some (.int .i64 nn) ∧ ((w'.setCell ⟨Z, 0, none⟩ u).setCell ⟨Z, 1, none⟩ v).cell? ⟨Y, 4, none⟩ = some (.string nm) ∧ ((w'.setCell ⟨Z, 0, none⟩ u).setCell ⟨Z, 1, none⟩ v).cell? ⟨b9, o9, none⟩ = some (.bool ka) ∧ ((w'.setCell ⟨Z, 0, none⟩ u).setCell ⟨Z, 1, none⟩ v).cell? ⟨b9, o9 + 1, none⟩ = some (.slice p9 ml c9)) := Lib.hid (fun w' u v hx => by
            have hk : Kb [Z] w' ((w'.setCell ⟨Z, 0, none⟩ u).setCell ⟨Z, 1, none⟩ v) := (Kb.set _ _ _ (by simp) _).trans (Kb.set _ _ _ (by simp) _)
            have n1 : Y ∉ [Z] := by have := HB.out.2.2.2; simp; omega
            have n2 : b9 ∉ [Z] := by
              have h1 := (HO.out.row.lt b9 rfl).1
              have h2 := HZH.out.2
              simp; omega
            exact ⟨hk.cell n1 (hx.cell y3), hk.cell n1 (hx.cell y4), hk.cell n2 (hx.cell x0), hk.cell n2 (hx.cell x1)⟩)
          have HZS : Hid (∀ w' u, Ext wv w' → w'.cell? ⟨Z, 0, none⟩ = some (.bool false) ∧ w'.cell? ⟨Z, 1, none⟩ = some (.slice none 0 0) ∧ w'.frozen? ⟨Z, 0, none⟩ = false ∧ w'.frozen? ⟨Z, 1, none⟩ = false ∧ (w'.setCell ⟨Z, 0, none⟩ u).frozen? ⟨Z, 1, none⟩ = false ∧ Z < w'.heap.size) := Lib.hid (fun w' u hx => ⟨hx.cell z0, hx.cell z1, by rw [hx.frozens _ _ zl]; exact zf0, by rw [hx.frozens _ _ zl]; exact zf1, by simp; rw [hx.frozens _ _ zl]; exact zf1, Nat.lt_of_lt_of_le zl hx.size⟩)
          have HZL := Lib.hid zl
          clear hf9 hbv hkq hg0 hE9 hml hge z0 z1 zf0 zf1 x0 x1
          by_cases hn1 : nn = 1
          · have qn : (nn == 1) = true := by simpa using hn1
            have HN1 : Hid (decide (nn = 1) = true) := Lib.hid (decide_eq_true hn1)
            clear hn1
            have HON : Hid (∀ w', Ext wv w' → Calls Try.prog 71 #[.slice pv vl cv, .string nm, .bool true] w' fun e w'' => ∃ p c, e = .returned (.slice p (vl + 1) c) ∧ Hid (EdIn w'' (.slice p (vl + 1) c) (V ++ [(nm, true)]) ∧ Ext w' w'' ∧ ∀ g, (Value.slice p (vl + 1) c).ownBlock = some g → w'.heap.size ≤ g)) := Lib.hid (fun w' hx => by
              have h := con_any (nm := nm) (b := true) (HEV.out.1.ext hx) (by rw [← HVV.out.2.1]; omega)
              rw [← HVV.out.2.1] at h
              exact h)
            have HRG : Hid (R = if ge then some (false, V ++ [(nm, true)]) else none) := Lib.hid (by rw [HR9.out, HN1.out])
            go_upto_region 15 with fail
            go_region_held3 (fun w' => w'.cell? ⟨Y, 3, none⟩ = some (.int .i64 nn) ∧ w'.cell? ⟨Y, 4, none⟩ = some (.string nm) ∧ w'.cell? ⟨b9, o9, none⟩ = some (.bool ka) ∧ w'.cell? ⟨b9, o9 + 1, none⟩ = some (.slice p9 ml c9))
              (first | with_reducible exact hq3 | with_reducible exact hq2 | with_reducible exact hq1 | with_reducible exact hq0 | exact HQQ.out _ (Ext.refl wv).drew)
              (first | (go_at_call 71; refine (HON.out _ (Ext.refl wv).drew).mono ?_; rintro e5 w5 ⟨p5_, c5, rfl, H5⟩; have H5X := Lib.hid ((Ext.refl wv).drew.trans H5.out.2.1); have hq1 := HQQ.out w5 H5X.out) | (go_at_call 62; refine (HGO.out _ H5X.out).mono ?_; rintro e6 w6 ⟨rfl, H6⟩; have H6X := Lib.hid (H5X.out.trans H6.out); have hq2 := HQQ.out w6 H6X.out; have hq3 := HQZ.out w6 (.bool false) (.slice p5_ (vl + 1) c5) H6X.out; obtain ⟨z0, z1, zf0, zf1, zf2, zl6⟩ := HZS.out w6 (.bool false) H6X.out))
            go_wp2
            have h8 := zret HZH.out.1 HZH.out.2 (HX.out.trans H6X.out) HB.out.1 HZW.out (.bool false) (.slice p5_ (vl + 1) c5)
            refine ret_row2 rfl Z 111 #[.bool false, .slice p5_ (vl + 1) c5] _ rfl h8.1 Try.underlying111 rfl (by kernel_rfl) rfl ?_
            rw [HQ.out, HRG.out]
            refine ⟨false, p5_, vl + 1, c5, by cases ge <;> rfl, Lib.hid ⟨h8.2, fun k h => ?_⟩⟩
            have hk : k = (false, V ++ [(nm, true)]) := by
              cases ge with
              | false => simp at h
              | true => simpa using h.symm
            subst hk
            have hsz : ∀ g, (Value.slice p5_ (vl + 1) c5).ownBlock = some g → wv.heap.size ≤ g := fun g hg => by
              have := H5.out.2.2 g hg
              simpa using this
            refine ⟨rfl, by rw [List.length_append, HVV.out.2.1]; rfl, (H5.out.1.ext H6.out).kb (S := [Z]) ((Kb.set _ _ _ (by simp) _).trans (Kb.set _ _ _ (by simp) _)) (fun _ g hg hm => ?_), fun _ g hg => .inr ?_⟩
            · have h1 := hsz g hg
              have h2 := HZL.out
              simp only [List.mem_singleton] at hm
              omega
            · have h1 := hsz g hg
              have h2 := HB.out.1.size
              have h3 := HX.out.size
              omega
          · have qn : (nn == 1) = false := by simpa using hn1
            have HN1 : Hid (decide (nn = 1) = false) := Lib.hid (decide_eq_false hn1)
            clear hn1
            have HON : Hid (∀ w', Ext wv w' → Calls Try.prog 71 #[.slice pv vl cv, .string nm, .bool false] w' fun e w'' => ∃ p c, e = .returned (.slice p (vl + 1) c) ∧ Hid (EdIn w'' (.slice p (vl + 1) c) (V ++ [(nm, false)]) ∧ Ext w' w'' ∧ ∀ g, (Value.slice p (vl + 1) c).ownBlock = some g → w'.heap.size ≤ g)) := Lib.hid (fun w' hx => by
              have h := con_any (nm := nm) (b := false) (HEV.out.1.ext hx) (by rw [← HVV.out.2.1]; omega)
              rw [← HVV.out.2.1] at h
              exact h)
            have HRG : Hid (R = if ge then some (false, V ++ [(nm, false)]) else none) := Lib.hid (by rw [HR9.out, HN1.out])
            go_upto_region 15 with fail
            go_region_held3 (fun w' => w'.cell? ⟨Y, 3, none⟩ = some (.int .i64 nn) ∧ w'.cell? ⟨Y, 4, none⟩ = some (.string nm) ∧ w'.cell? ⟨b9, o9, none⟩ = some (.bool ka) ∧ w'.cell? ⟨b9, o9 + 1, none⟩ = some (.slice p9 ml c9))
              (first | with_reducible exact hq3 | with_reducible exact hq2 | with_reducible exact hq1 | with_reducible exact hq0 | exact HQQ.out _ (Ext.refl wv).drew)
              (first | (go_at_call 71; refine (HON.out _ (Ext.refl wv).drew).mono ?_; rintro e5 w5 ⟨p5_, c5, rfl, H5⟩; have H5X := Lib.hid ((Ext.refl wv).drew.trans H5.out.2.1); have hq1 := HQQ.out w5 H5X.out) | (go_at_call 62; refine (HGO.out _ H5X.out).mono ?_; rintro e6 w6 ⟨rfl, H6⟩; have H6X := Lib.hid (H5X.out.trans H6.out); have hq2 := HQQ.out w6 H6X.out; have hq3 := HQZ.out w6 (.bool false) (.slice p5_ (vl + 1) c5) H6X.out; obtain ⟨z0, z1, zf0, zf1, zf2, zl6⟩ := HZS.out w6 (.bool false) H6X.out))
            go_wp2
            have h8 := zret HZH.out.1 HZH.out.2 (HX.out.trans H6X.out) HB.out.1 HZW.out (.bool false) (.slice p5_ (vl + 1) c5)
            refine ret_row2 rfl Z 111 #[.bool false, .slice p5_ (vl + 1) c5] _ rfl h8.1 Try.underlying111 rfl (by kernel_rfl) rfl ?_
            rw [HQ.out, HRG.out]
            refine ⟨false, p5_, vl + 1, c5, by cases ge <;> rfl, Lib.hid ⟨h8.2, fun k h => ?_⟩⟩
            have hk : k = (false, V ++ [(nm, false)]) := by
              cases ge with
              | false => simp at h
              | true => simpa using h.symm
            subst hk
            have hsz : ∀ g, (Value.slice p5_ (vl + 1) c5).ownBlock = some g → wv.heap.size ≤ g := fun g hg => by
              have := H5.out.2.2 g hg
              simpa using this
            refine ⟨rfl, by rw [List.length_append, HVV.out.2.1]; rfl, (H5.out.1.ext H6.out).kb (S := [Z]) ((Kb.set _ _ _ (by simp) _).trans (Kb.set _ _ _ (by simp) _)) (fun _ g hg hm => ?_), fun _ g hg => .inr ?_⟩
            · have h1 := hsz g hg
              have h2 := HZL.out
              simp only [List.mem_singleton] at hm
              omega
            · have h1 := hsz g hg
              have h2 := HB.out.1.size
              have h3 := HX.out.size
              omega
        by_cases hf10 : f = 10
        · have HF := Lib.hid hf10
          have q2 : (f == 2) = false := by rw [HF.out]; rfl
          have q9 : (f == 9) = false := by rw [HF.out]; rfl
          have q10 : (f == 10) = true := by rw [HF.out]; rfl
          have hj2 : 2 ≤ j := by have h1 := HN.out.2; rw [← HNM.out.2, HF.out] at h1; have h2 : wantF 10 = 2 := by decide
                                 rw [h2] at h1; rw [HN.out.1]; exact h1
          obtain ⟨kq, hkq⟩ : ∃ z, l[0]? = some z := ⟨_, List.getElem?_eq_getElem (by rw [HO.out.cnt]; omega)⟩
          obtain ⟨kr, hkr⟩ : ∃ z, l[1]? = some z := ⟨_, List.getElem?_eq_getElem (by rw [HO.out.cnt]; omega)⟩
          obtain ⟨b9, o9, p9, c9, rfl, hb9, x0, x1, hE9, -⟩ := HO.out.at (W0 := W0) (w1 := wb) HKF.out hkq
          obtain ⟨b8, o8, p8, c8, hpe, -, x2, x3, hE8, -⟩ := HO.out.at (W0 := W0) (w1 := wb) HKF.out hkr
          simp only [Option.some.injEq, Addr.mk.injEq] at hpe
          obtain ⟨rfl, rfl, -⟩ := hpe
          have hg0 : l.getD 0 (false, []) = kq := by simp [List.getD, hkq]
          have hg1 : l.getD 1 (false, []) = kr := by simp [List.getD, hkr]
          obtain ⟨ka, kl⟩ := kq
          obtain ⟨kb, km⟩ := kr
          dsimp only at x0 x1 hE9 x2 x3 hE8
          rw [Nat.zero_mul, Nat.add_zero] at x0 x1
          rw [Nat.one_mul] at x2 x3
          obtain ⟨ml, hml⟩ : ∃ z, z = kl.length := ⟨_, rfl⟩
          rw [← hml] at x1 hE9
          obtain ⟨ml8, hml8⟩ : ∃ z, z = km.length := ⟨_, rfl⟩
          rw [← hml8] at x3 hE8
          obtain ⟨g0, hge0⟩ : ∃ z, z = goesK (ka, kl) (V ++ [(nm, true)]) := ⟨_, rfl⟩
          obtain ⟨g1, hge1⟩ : ∃ z, z = goesK (kb, km) (V ++ [(nm, false)]) := ⟨_, rfl⟩
          have HGO0 : Hid (∀ w' u, Ext wv w' → EdIn w' u (V ++ [(nm, true)]) → Calls Try.prog 62 #[.agg #[.bool ka, .slice p9 ml c9], u] w' (RetX g0 w')) := Lib.hid (fun w' u hx hu => by
            rw [hge0]
            exact cgoes_any (hE9.ext hx) hu)
          have HGO1 : Hid (∀ w' u, Ext wv w' → EdIn w' u (V ++ [(nm, false)]) → Calls Try.prog 62 #[.agg #[.bool kb, .slice p8 ml8 c8], u] w' (RetX g1 w')) := Lib.hid (fun w' u hx hu => by
            rw [hge1]
            exact cgoes_any (hE8.ext hx) hu)
          have HR10 : Hid (R = if g0 = true ∧ g1 = true then some (false, V) else none) := Lib.hid (by
            rw [HRL.out, HF.out, hge0, hge1, HVV.out.1]
            unfold clkF
            rw [if_neg (by decide), if_neg (by decide), if_pos rfl, hg0, hg1])
          have hjc1 : j ≤ c1 ∧ (c1 : Int) ≤ 9223372036854775807 := by
            obtain ⟨a', c', e, h1, h2⟩ := HO.out.slice
            simp only [Value.slice.injEq] at e
            rw [e.2.2]
            unfold maxLen at h2
            exact ⟨h1, by omega⟩
          obtain ⟨hjc1, hjc2⟩ := hjc1
          have hj0' : (0 : Int) < (j : Int) := by omega
          have hj1' : (1 : Int) < (j : Int) := by omega
          have hj00 : 0 < j := by omega
          have hj01 : 1 < j := by omega
          have z0 := hbv.cells 0 _ rfl
          have z1 := hbv.cells 1 _ rfl
          have zf0 := hbv.fz 0
          have zf1 := hbv.fz 1
          have zl := hbv.lt
          have hq0 : wv.cell? ⟨Y, 4, none⟩ = some (.string nm) ∧ wv.cell? ⟨b9, o9, none⟩ = some (.bool ka) ∧ wv.cell? ⟨b9, o9 + 1, none⟩ = some (.slice p9 ml c9) ∧ wv.cell? ⟨b9, o9 + 2, none⟩ = some (.bool kb) ∧ wv.cell? ⟨b9, o9 + 2 + 1, none⟩ = some (.slice p8 ml8 c8) := ⟨y4, x0, x1, x2, x3⟩
          have HQQ : Hid (∀ w', Ext wv w' → w'.cell? ⟨Y, 4, none⟩ = some (.string nm) ∧ w'.cell? ⟨b9, o9, none⟩ = some (.bool ka) ∧ w'.cell? ⟨b9, o9 + 1, none⟩ = some (.slice p9 ml c9) ∧ w'.cell? ⟨b9, o9 + 2, none⟩ = some (.bool kb) ∧ w'.cell? ⟨b9, o9 + 2 + 1, none⟩ = some (.slice p8 ml8 c8)) := Lib.hid (fun w' hx => ⟨hx.cell y4, hx.cell x0, hx.cell x1, hx.cell x2, hx.cell x3⟩)
          have HQZ : Hid (∀ w' u v, Ext wv w' → ((w'.setCell ⟨Z, 0, none⟩ u).setCell ⟨Z, 1, none⟩ v).cell? ⟨Y, 4, none⟩ = some (.string nm) ∧ ((w'.setCell ⟨Z, 0, none⟩ u).setCell ⟨Z, 1, none⟩ v).cell? ⟨b9, o9, none⟩ = some (.bool ka) ∧ ((w'.setCell ⟨Z, 0, none⟩ u).setCell ⟨Z, 1, none⟩ v).cell? ⟨b9, o9 + 1, none⟩ = some (.slice p9 ml c9) ∧ ((w'.setCell ⟨Z, 0, none⟩ u).setCell ⟨Z, 1, none⟩ v).cell? ⟨b9, o9 + 2, none⟩ = some (.bool kb) ∧ ((w'.setCell ⟨Z, 0, none⟩ u).setCell ⟨Z, 1, none⟩ v).cell? ⟨b9, o9 + 2 + 1, none⟩ = some (.slice p8 ml8 c8)) := Lib.hid (fun w' u v hx => by
            have hk : Kb [Z] w' ((w'.setCell ⟨Z, 0, none⟩ u).setCell ⟨Z, 1, none⟩ v) := (Kb.set _ _ _ (by simp) _).trans (Kb.set _ _ _ (by simp) _)
            have n1 : Y ∉ [Z] := by have := HB.out.2.2.2; simp; omega
            have n2 : b9 ∉ [Z] := by
              have h1 := (HO.out.row.lt b9 rfl).1
              have h2 := HZH.out.2
              simp; omega
            exact ⟨hk.cell n1 (hx.cell y4), hk.cell n2 (hx.cell x0), hk.cell n2 (hx.cell x1), hk.cell n2 (hx.cell x2), hk.cell n2 (hx.cell x3)⟩)
          have HZS : Hid (∀ w' u, Ext wv w' → w'.cell? ⟨Z, 0, none⟩ = some (.bool false) ∧ w'.cell? ⟨Z, 1, none⟩ = some (.slice none 0 0) ∧ w'.frozen? ⟨Z, 0, none⟩ = false ∧ w'.frozen? ⟨Z, 1, none⟩ = false ∧ (w'.setCell ⟨Z, 0, none⟩ u).frozen? ⟨Z, 1, none⟩ = false ∧ Z < w'.heap.size) := Lib.hid (fun w' u hx => ⟨hx.cell z0, hx.cell z1, by rw [hx.frozens _ _ zl]; exact zf0, by rw [hx.frozens _ _ zl]; exact zf1, by simp; rw [hx.frozens _ _ zl]; exact zf1, Nat.lt_of_lt_of_le zl hx.size⟩)
          clear hf10 hbv hkq hkr hg0 hg1 hE9 hE8 hml hml8 hge0 hge1 z0 z1 zf0 zf1 x0 x1 x2 x3
          have HONT : Hid (∀ w', Ext wv w' → Calls Try.prog 71 #[.slice pv vl cv, .string nm, .bool true] w' fun e w'' => ∃ p c, e = .returned (.slice p (vl + 1) c) ∧ Hid (EdIn w'' (.slice p (vl + 1) c) (V ++ [(nm, true)]) ∧ Ext w' w'')) := Lib.hid (fun w' hx => by
            have h := con_any (nm := nm) (b := true) (HEV.out.1.ext hx) (by rw [← HVV.out.2.1]; omega)
            rw [← HVV.out.2.1] at h
            refine h.mono ?_
            rintro e w'' ⟨p, c, h1, h2⟩
            exact ⟨p, c, h1, Lib.hid ⟨h2.out.1, h2.out.2.1⟩⟩)
          have HONF : Hid (∀ w', Ext wv w' → Calls Try.prog 71 #[.slice pv vl cv, .string nm, .bool false] w' fun e w'' => ∃ p c, e = .returned (.slice p (vl + 1) c) ∧ Hid (EdIn w'' (.slice p (vl + 1) c) (V ++ [(nm, false)]) ∧ Ext w' w'')) := Lib.hid (fun w' hx => by
            have h := con_any (nm := nm) (b := false) (HEV.out.1.ext hx) (by rw [← HVV.out.2.1]; omega)
            rw [← HVV.out.2.1] at h
            refine h.mono ?_
            rintro e w'' ⟨p, c, h1, h2⟩
            exact ⟨p, c, h1, Lib.hid ⟨h2.out.1, h2.out.2.1⟩⟩)
          cases g0 with
          | false =>
            have HRG : Hid (R = none) := Lib.hid (by rw [HR10.out]; simp)
            go_upto_region 17 with fail
            refine wp_region_noPanic ?_
            refine hd_begin (S := fun w' => w'.cell? ⟨Y, 4, none⟩ = some (.string nm) ∧ w'.cell? ⟨b9, o9, none⟩ = some (.bool ka) ∧ w'.cell? ⟨b9, o9 + 1, none⟩ = some (.slice p9 ml c9) ∧ w'.cell? ⟨b9, o9 + 2, none⟩ = some (.bool kb) ∧ w'.cell? ⟨b9, o9 + 2 + 1, none⟩ = some (.slice p8 ml8 c8)) 21 (by kernel_rfl) (by kernel_rfl) (HQQ.out _ (Ext.refl wv).drew) (fun hHeld => ?_)
            have hxd : Ext wv wv.drew := (Ext.refl wv).drew
            generalize wv.drew = wd at hxd hHeld ⊢
            refine hd_take (i := 0) (v := .slice pv vl cv) rfl (by kernel_rfl) (by kernel_rfl) (fun _ _ _ h => h) (Or.inl ⟨by rfl, fun w' hSw => by ((try dsimp only at hSw); go_simp)⟩) hHeld ?_
            try simp only [Act.put, List.setIfInBounds_toArray, List.set_cons_zero, List.set_cons_succ]
            refine hd_take (i := 1) (v := .agg #[.bool false, .slice pv vl cv]) rfl (by kernel_rfl) (by kernel_rfl) (fun _ _ _ h => h) (Or.inl ⟨by rfl, fun w' hSw => by ((try dsimp only at hSw); go_simp)⟩) hHeld ?_
            try simp only [Act.put, List.setIfInBounds_toArray, List.set_cons_zero, List.set_cons_succ]
            refine hd_take (i := 2) (v := .slice (some ⟨b9, o9, none⟩) j c1) rfl (by kernel_rfl) (by kernel_rfl) (fun _ _ _ h => h) (Or.inl ⟨by rfl, fun w' hSw => by ((try dsimp only at hSw); go_simp)⟩) hHeld ?_
            try simp only [Act.put, List.setIfInBounds_toArray, List.set_cons_zero, List.set_cons_succ]
            refine hd_take (i := 3) (v := .pointer (some ⟨b9, o9, none⟩)) rfl (by kernel_rfl) (by kernel_rfl) (fun _ _ _ h => h) (Or.inl ⟨by rfl, fun w' hSw => by ((try dsimp only at hSw); go_simp)⟩) hHeld ?_
            try simp only [Act.put, List.setIfInBounds_toArray, List.set_cons_zero, List.set_cons_succ]
            refine hd_take (i := 4) (v := .agg #[.bool ka, .slice p9 ml c9]) rfl (by kernel_rfl) (by kernel_rfl) (fun _ _ _ h => h) (Or.inl ⟨by rfl, fun w' hSw => by ((try dsimp only at hSw); go_simp)⟩) hHeld ?_
            try simp only [Act.put, List.setIfInBounds_toArray, List.set_cons_zero, List.set_cons_succ]
            refine hd_take (i := 5) (v := .slice pv vl cv) rfl (by kernel_rfl) (by kernel_rfl) (fun _ _ _ h => h) (Or.inl ⟨by rfl, fun w' hSw => by ((try dsimp only at hSw); go_simp)⟩) hHeld ?_
            try simp only [Act.put, List.setIfInBounds_toArray, List.set_cons_zero, List.set_cons_succ]
            refine hd_take (i := 6) (v := .pointer (some ⟨Y, 4, none⟩)) rfl (by kernel_rfl) (by kernel_rfl) (fun _ _ _ h => h) (Or.inl ⟨by rfl, fun w' hSw => by ((try dsimp only at hSw); go_simp)⟩) hHeld ?_
            try simp only [Act.put, List.setIfInBounds_toArray, List.set_cons_zero, List.set_cons_succ]
            refine hd_take (i := 7) (v := .string nm) rfl (by kernel_rfl) (by kernel_rfl) (fun _ _ _ h => h) (Or.inl ⟨by rfl, fun w' hSw => by ((try dsimp only at hSw); go_simp)⟩) hHeld ?_
            try simp only [Act.put, List.setIfInBounds_toArray, List.set_cons_zero, List.set_cons_succ]
            refine hd_one (i := 8) rfl (by kernel_rfl) (by decide) (fun K hK => ?_)
            go_simp
            go_at_call 71
            (with_reducible refine (HONT.out _ hxd).mono ?_)
            rintro e5 w5 ⟨p5_, c5, rfl, H5⟩
            have H5X := Lib.hid (hxd.trans H5.out.2)
            refine hK.out _ _ (HQQ.out w5 H5X.out) (fun hHeld => ?_)
            clear hK K
            try simp only [Act.put, List.setIfInBounds_toArray, List.set_cons_zero, List.set_cons_succ]
            refine hd_one (i := 9) rfl (by kernel_rfl) (by decide) (fun K hK => ?_)
            go_simp
            go_at_call 62
            (with_reducible refine (HGO0.out _ _ H5X.out H5.out.1).mono ?_)
            rintro e6 w6 ⟨rfl, H6⟩
            have H6X := Lib.hid (H5X.out.trans H6.out)
            refine hK.out _ _ (HQQ.out w6 H6X.out) (fun hHeld => ?_)
            clear hK K
            try simp only [Act.put, List.setIfInBounds_toArray, List.set_cons_zero, List.set_cons_succ]
            refine hd_take (i := 10) (v := .bool false) rfl (by kernel_rfl) (by kernel_rfl) (fun _ _ _ h => h) (Or.inl ⟨by rfl, fun w' hSw => by ((try dsimp only at hSw); go_simp)⟩) hHeld ?_
            try simp only [Act.put, List.setIfInBounds_toArray, List.set_cons_zero, List.set_cons_succ]
            refine hd_take (i := 11) (v := undef) rfl (by kernel_rfl) (by kernel_rfl) (fun _ _ _ h => h) (Or.inr ⟨by rfl, rfl⟩) hHeld ?_
            try simp only [Act.put, List.setIfInBounds_toArray, List.set_cons_zero, List.set_cons_succ]
            refine hd_take (i := 12) (v := undef) rfl (by kernel_rfl) (by kernel_rfl) (fun _ _ _ h => h) (Or.inr ⟨by rfl, rfl⟩) hHeld ?_
            try simp only [Act.put, List.setIfInBounds_toArray, List.set_cons_zero, List.set_cons_succ]
            refine hd_take (i := 13) (v := undef) rfl (by kernel_rfl) (by kernel_rfl) (fun _ _ _ h => h) (Or.inr ⟨by rfl, rfl⟩) hHeld ?_
            try simp only [Act.put, List.setIfInBounds_toArray, List.set_cons_zero, List.set_cons_succ]
            refine hd_take (i := 14) (v := undef) rfl (by kernel_rfl) (by kernel_rfl) (fun _ _ _ h => h) (Or.inr ⟨by rfl, rfl⟩) hHeld ?_
            try simp only [Act.put, List.setIfInBounds_toArray, List.set_cons_zero, List.set_cons_succ]
            refine hd_take (i := 15) (v := undef) rfl (by kernel_rfl) (by kernel_rfl) (fun _ _ _ h => h) (Or.inr ⟨by rfl, rfl⟩) hHeld ?_
            try simp only [Act.put, List.setIfInBounds_toArray, List.set_cons_zero, List.set_cons_succ]
            refine hd_take (i := 16) (v := undef) rfl (by kernel_rfl) (by kernel_rfl) (fun _ _ _ h => h) (Or.inr ⟨by rfl, rfl⟩) hHeld ?_
            try simp only [Act.put, List.setIfInBounds_toArray, List.set_cons_zero, List.set_cons_succ]
            refine hd_one (i := 17) rfl (by kernel_rfl) (by decide) (fun K hK => ?_)
            refine step_unwanted (by rfl) ?_
            refine hK.out _ _ hHeld (fun hHeld => ?_)
            clear hK K
            try simp only [Act.put, List.setIfInBounds_toArray, List.set_cons_zero, List.set_cons_succ]
            refine hd_one (i := 18) rfl (by kernel_rfl) (by decide) (fun K hK => ?_)
            refine step_unwanted (by rfl) ?_
            refine hK.out _ _ hHeld (fun hHeld => ?_)
            clear hK K
            try simp only [Act.put, List.setIfInBounds_toArray, List.set_cons_zero, List.set_cons_succ]
            refine hd_take (i := 19) (v := .bool false) rfl (by kernel_rfl) (by kernel_rfl) (fun _ _ _ h => h) (Or.inl ⟨by rfl, fun w' hSw => by ((try dsimp only at hSw); go_simp)⟩) hHeld ?_
            try simp only [Act.put, List.setIfInBounds_toArray, List.set_cons_zero, List.set_cons_succ]
            obtain ⟨z0, z1, zf0, zf1, zf2, zl6⟩ := HZS.out w6 (.bool false) H6X.out
            refine hd_one (i := 20) rfl (by kernel_rfl) (by decide) (fun K hK => ?_)
            go_simp
            refine hK.out _ _ (HQZ.out w6 (.bool false) (.slice pv vl cv) H6X.out) (fun hHeld => ?_)
            clear hK K
            try simp only [Act.put, List.setIfInBounds_toArray, List.set_cons_zero, List.set_cons_succ]
            refine hd_end (by kernel_rfl) ?_
            simp only [List.drop_succ_cons, List.drop_zero]
            clear hHeld hxd
            go_wp2_with fail
            refine NoPanic.normal ?_
            go_wp2
            have h8 := zret HZH.out.1 HZH.out.2 (HX.out.trans H6X.out) HB.out.1 HZW.out (.bool false) (.slice pv vl cv)
            refine ret_row2 rfl Z 111 #[.bool false, .slice pv vl cv] _ rfl h8.1 Try.underlying111 rfl (by kernel_rfl) rfl ?_
            rw [HQ.out, HRG.out]
            exact ⟨false, pv, vl, cv, rfl, Lib.hid ⟨h8.2, fun k h => by simp at h⟩⟩
          | true =>
            have HRG : Hid (R = if g1 then some (false, V) else none) := Lib.hid (by rw [HR10.out]; simp)
            go_upto_region 17 with fail
            go_region_held3 (fun w' => w'.cell? ⟨Y, 4, none⟩ = some (.string nm) ∧ w'.cell? ⟨b9, o9, none⟩ = some (.bool ka) ∧ w'.cell? ⟨b9, o9 + 1, none⟩ = some (.slice p9 ml c9) ∧ w'.cell? ⟨b9, o9 + 2, none⟩ = some (.bool kb) ∧ w'.cell? ⟨b9, o9 + 2 + 1, none⟩ = some (.slice p8 ml8 c8))
              (first | with_reducible exact hq9 | with_reducible exact hq4 | with_reducible exact hq3 | with_reducible exact hq2 | with_reducible exact hq1 | with_reducible exact hq0 | exact HQQ.out _ (Ext.refl wv).drew)
              (first | (go_at_call 71; (with_reducible refine (HONT.out _ (Ext.refl wv).drew).mono ?_); rintro e5 w5 ⟨p5_, c5, rfl, H5⟩; have H5X := Lib.hid ((Ext.refl wv).drew.trans H5.out.2); have hq1 := HQQ.out w5 H5X.out) | (go_at_call 62; (with_reducible refine (HGO0.out _ _ H5X.out H5.out.1).mono ?_); rintro e6 w6 ⟨rfl, H6⟩; have H6X := Lib.hid (H5X.out.trans H6.out); have hq2 := HQQ.out w6 H6X.out) | (go_at_call 71; (with_reducible refine (HONF.out _ H6X.out).mono ?_); rintro e7 w7 ⟨p7_, c7, rfl, H7⟩; have H7X := Lib.hid (H6X.out.trans H7.out.2); have hq3 := HQQ.out w7 H7X.out) | (go_at_call 62; (with_reducible refine (HGO1.out _ _ H7X.out H7.out.1).mono ?_); rintro e8 w8 ⟨rfl, H8⟩; have H8X := Lib.hid (H7X.out.trans H8.out); have hq4 := HQQ.out w8 H8X.out; obtain ⟨z0, z1, zf0, zf1, zf2, zl6⟩ := HZS.out w8 (.bool false) H8X.out; have hq9 := HQZ.out w8 (.bool false) (.slice pv vl cv) H8X.out))
            go_wp2
            have h8 := zret HZH.out.1 HZH.out.2 (HX.out.trans H8X.out) HB.out.1 HZW.out (.bool false) (.slice pv vl cv)
            refine ret_row2 rfl Z 111 #[.bool false, .slice pv vl cv] _ rfl h8.1 Try.underlying111 rfl (by kernel_rfl) rfl ?_
            rw [HQ.out, HRG.out]
            refine ⟨false, pv, vl, cv, by cases g1 <;> rfl, Lib.hid ⟨h8.2, fun k h => ?_⟩⟩
            have hk : k = (false, V) := by
              cases g1 with
              | false => simp at h
              | true => simpa using h.symm
            subst hk
            exact ⟨rfl, HVV.out.2.1, HVV.out.2.2.ext (HKC.out.ext.trans h8.2), HEV.out.2⟩
        have q2 : (f == 2) = false := by simpa using hf2
        have q9 : (f == 9) = false := by simpa using hf9
        have q10 : (f == 10) = false := by simpa using hf10
        have HRJ : Hid (R = joinK l (true, [])) := Lib.hid (by rw [HRL.out]; unfold clkF; rw [if_neg hf2, if_neg hf9, if_neg hf10])
        have hjc1 : j ≤ c1 ∧ (c1 : Int) ≤ 9223372036854775807 := by
          obtain ⟨a', c', e, h1, h2⟩ := HO.out.slice
          simp only [Value.slice.injEq] at e
          rw [e.2.2]
          unfold maxLen at h2
          exact ⟨h1, by omega⟩
        obtain ⟨hjc1, hjc2⟩ := hjc1
        clear hf2 hf9 hf10 hbv
        go_upto_region 19 with fail
        have hbo : BoxV wv.heap.size [.bool true, .slice none 0 0] (wv.alloc (.cells #[.bool true, .slice none 0 0] 111)) := BoxV.of_row (heap_alloc_last wv _)
        have hxo : Ext wv (wv.alloc (.cells #[.bool true, .slice none 0 0] 111)) := (Ext.refl _).alloc _
        obtain ⟨O, hO⟩ : ∃ z, z = wv.heap.size := ⟨_, rfl⟩
        have HOV := Lib.hid hO
        rw [← hO] at hbo
        try rw [← hO]
        clear hO
        generalize (wv.alloc (.cells #[.bool true, .slice none 0 0] 111)) = wo at hbo hxo ⊢
        have HOO := Lib.hid (And.intro hbo hxo)
        clear hbo hxo
        go_upto_region 20 with fail
        go_loopw [90] (fun i wr => ∃ (j2 : Nat) (oa : Bool) (ol : CK0) (po : Option Addr) (co mo : Nat), j2 ≤ j ∧ i = .int .i64 (j2 : Int) ∧ Hid (Ext wv wr) ∧ Hid (BoxV O [.bool oa, .slice po mo co] wr) ∧ Hid (mo = ol.length ∧ EdIn wv (.slice po mo co) ol ∧ Far W0 wb (.slice po mo co) ol) ∧ Hid (R = joinK (l.drop j2) (oa, ol))) (fun i _ => j - (intOf i).toNat)
        case atStart => exact ⟨0, true, [], none, 0, 0, Nat.zero_le _, rfl, Lib.hid HOO.out.2, Lib.hid HOO.out.1, Lib.hid ⟨rfl, EdIn.nil _, fun h => absurd rfl h⟩, Lib.hid (by rw [HRJ.out]; rfl)⟩
        case round =>
          obtain ⟨j2, oa, ol, po, co, mo, hj2, rfl, HS, HBO, HEO, HJ⟩ := hrel
          have bo0 := HBO.out.cells 0 _ rfl
          have bo1 := HBO.out.cells 1 _ rfl
          have bol := HBO.out.lt
          by_cases hlt2 : j2 < j
          · have hki2 : (j2 : Int) < (j : Int) := Int.ofNat_lt.2 hlt2
            obtain ⟨kq, hkq⟩ : ∃ z, l[j2]? = some z := ⟨_, List.getElem?_eq_getElem (by rw [HO.out.cnt]; exact hlt2)⟩
            obtain ⟨b9, o9, p9, c9, rfl, hb9, x0, x1, hE9, hF9⟩ := (HO.out.ext HS.out).at (W0 := W0) (w1 := wb) HKF.out hkq

            have hjj : j2 < c1 := by omega
            have HDC := Lib.hid (drop_cons hkq)
            obtain ⟨ka, kl⟩ := kq
            dsimp only at x0 x1 hE9 hF9
            obtain ⟨ml, hml⟩ : ∃ z, z = kl.length := ⟨_, rfl⟩
            rw [← hml] at x1 hE9 hF9
            have HE9 : Hid (ml = kl.length ∧ EdIn wr (.slice p9 ml c9) kl ∧ Far W0 wb (.slice p9 ml c9) kl) := Lib.hid ⟨hml, hE9, hF9⟩
            have HEV9 : Hid (EdIn wv (.slice p9 ml c9) kl) := Lib.hid (by
              obtain ⟨b', o', p', c', e1, hb', u0, u1, hE', hF'⟩ := HO.out.at (W0 := W0) (w1 := wb) HKF.out hkq
              simp only [Option.some.injEq, Addr.mk.injEq] at e1
              obtain ⟨rfl, rfl, -⟩ := e1
              have h1 := (HS.out.cell u1).symm.trans x1
              simp only [Option.some.injEq, Value.slice.injEq] at h1
              obtain ⟨rfl, -, rfl⟩ := h1
              rw [hml]
              exact hE')
            have HJN : Hid (R = joinK ((ka, kl) :: l.drop (j2 + 1)) (oa, ol)) := Lib.hid (by rw [HJ.out, HDC.out])
            clear hkq hE9 hF9 hml
            have hxc : Ext wr (wr.alloc (.cells #[.bool ka, .slice p9 ml c9] 111)) := (Ext.refl _).alloc _
            have hbc : BoxV wr.heap.size [.bool ka, .slice p9 ml c9] (wr.alloc (.cells #[.bool ka, .slice p9 ml c9] 111)) := BoxV.of_row (heap_alloc_last wr _)
            have hbo2 := HBO.out.ext hxc
            go_upto_region 22 with fail
            obtain ⟨C, hC⟩ : ∃ z, z = wr.heap.size := ⟨_, rfl⟩
            rw [← hC] at hbc ⊢
            generalize (wr.alloc (.cells #[.bool ka, .slice p9 ml c9] 111)) = wc at hxc hbc hbo2 ⊢
            have HXC := Lib.hid (And.intro hxc (And.intro hbo2 hC))
            have k0 := hbc.cells 0 _ rfl
            have k1 := hbc.cells 1 _ rfl
            have kl0 := hbc.lt
            have bo0 := hbo2.cells 0 _ rfl
            have bo1 := hbo2.cells 1 _ rfl
            have bol := hbo2.lt
            have of0 := hbo2.fz 0
            have of1 := hbo2.fz 1
            have hOZ : Hid (wv.heap.size ≤ O) := Lib.hid (by have := HOV.out; omega)
            clear hxc hbc hbo2 hC x0 x1 hb9
            cases ka with
            | true =>
              have HC : Hid (R = joinK (l.drop (j2 + 1)) (oa, ol)) := Lib.hid (by rw [HJN.out, joinK_cons]; simp)
              go_wp2
              exact ⟨⟨j2 + 1, oa, ol, po, co, mo, by omega, by go_num, Lib.hid (HS.out.trans HXC.out.1), Lib.hid HXC.out.2.1, HEO, HC⟩, by simp [intOf]; omega⟩
            | false =>
              cases oa with
              | true =>
                have HC : Hid (R = joinK (l.drop (j2 + 1)) (false, kl)) := Lib.hid (by rw [HJN.out, joinK_cons]; simp)
                have of2 : (wc.setCell ⟨O, 0, none⟩ (.bool false)).frozen? ⟨O, 1, none⟩ = false := by simp; exact of1
                go_wp2
                exact ⟨⟨j2 + 1, false, kl, p9, c9, ml, by omega, by go_num, Lib.hid (((HS.out.trans HXC.out.1).setCell hOZ.out _).setCell hOZ.out _), Lib.hid (((HXC.out.2.1.put 0 (.bool false)).put 1 (.slice p9 ml c9)).cast rfl), Lib.hid ⟨HE9.out.1, HEV9.out, HE9.out.2.2⟩, HC⟩, by simp [intOf]; omega⟩
              | false =>
                have HSM : Hid (Calls Try.prog 60 #[.slice po mo co, .slice p9 ml c9] wc (RetX (decide (ol = kl)) wc)) := Lib.hid (csame_any ((HEO.out.2.1.ext HS.out).ext HXC.out.1) (HE9.out.2.1.ext HXC.out.1))
                by_cases he : ol = kl
                · rw [decide_eq_true he] at HSM
                  have HC : Hid (R = joinK (l.drop (j2 + 1)) (false, ol)) := Lib.hid (by rw [HJN.out, joinK_cons]; simp [he])
                  clear he
                  go_wp2_with (first | (go_at_call 60; refine HSM.out.mono ?_; rintro e5 w5 ⟨rfl, H5⟩) | fail)
                  exact ⟨⟨j2 + 1, false, ol, po, co, mo, by omega, by go_num, Lib.hid ((HS.out.trans HXC.out.1).trans H5.out), Lib.hid (HXC.out.2.1.ext H5.out), HEO, HC⟩, by simp [intOf]; omega⟩
                · rw [decide_eq_false he] at HSM
                  have HC : Hid (R = none) := Lib.hid (by rw [HJN.out, joinK_cons]; simp [he])
                  clear he
                  go_upto_region 26 with (first | (go_at_call 60; refine HSM.out.mono ?_; rintro e5 w5 ⟨rfl, H5⟩) | fail)
                  have hbv := HZV.out.ext ((HS.out.trans HXC.out.1).trans H5.out)
                  have z0 := hbv.cells 0 _ rfl
                  have z1 := hbv.cells 1 _ rfl
                  have zf0 := hbv.fz 0
                  have zf1 := hbv.fz 1
                  have zf2 : (w5.setCell ⟨Z, 0, none⟩ (.bool false)).frozen? ⟨Z, 1, none⟩ = false := by simp; exact hbv.fz 1
                  have zl := hbv.lt
                  clear hbv
                  go_wp2
                  have h8 := zret HZH.out.1 HZH.out.2 (HX.out.trans ((HS.out.trans HXC.out.1).trans H5.out)) HB.out.1 HZW.out (.bool false) (.slice none 0 0)
                  refine ret_row2 rfl Z 111 #[.bool false, .slice none 0 0] _ rfl h8.1 Try.underlying111 rfl (by kernel_rfl) rfl ?_
                  rw [HQ.out, HC.out]
                  exact ⟨_, _, _, _, rfl, Lib.hid ⟨h8.2, fun k h => by simp at h⟩⟩
          · have hki2 : ¬ (j2 : Int) < (j : Int) := fun e => hlt2 (Int.ofNat_lt.1 e)
            obtain rfl : j2 = j := by omega
            have HC : Hid (R = some (oa, ol)) := Lib.hid (by
              rw [HJ.out, List.drop_eq_nil_of_le (by rw [HO.out.cnt]; exact Nat.le_refl _)]; rfl)
            have hbv := HZV.out.ext HS.out
            have z0 := hbv.cells 0 _ rfl
            have z1 := hbv.cells 1 _ rfl
            have zf0 := hbv.fz 0
            have zf1 := hbv.fz 1
            have zf2 : (wr.setCell ⟨Z, 0, none⟩ (.bool oa)).frozen? ⟨Z, 1, none⟩ = false := by simp; exact hbv.fz 1
            have zl := hbv.lt
            clear hbv
            go_wp2
            have h8 := zret HZH.out.1 HZH.out.2 (HX.out.trans HS.out) HB.out.1 HZW.out (.bool oa) (.slice po mo co)
            refine ret_row2 rfl Z 111 #[.bool oa, .slice po mo co] _ rfl h8.1 Try.underlying111 rfl (by kernel_rfl) rfl ?_
            rw [HQ.out, HC.out]
            exact ⟨_, _, _, _, rfl, Lib.hid ⟨h8.2, fun k h => by
              simp only [Option.some.injEq] at h
              subst h
              refine ⟨rfl, HEO.out.1, ?_, HEO.out.2.2.older HB.out.1.size⟩
              refine (HEO.out.2.1.ext HS.out).kb (S := [Z]) ((Kb.set _ _ _ (by simp) _).trans (Kb.set _ _ _ (by simp) _)) (fun hl b hb hm => ?_)
              have h1 := HEO.out.2.2 hl b hb
              have h2 := HKC.out.ext.size
              have h3 := HZH.out.2
              have h4 := HZW.out
              simp only [List.mem_singleton] at hm
              omega⟩⟩
end Go.Proofs.Ytmommjagndadjaa
namespace Go.Proofs.Ytmommjagndadjaa
open Go.RowKit Go.Maps
set_option linter.unusedSimpArgs false
set_option linter.unusedVariables false
set_option maxRecDepth 100000

theorem prefix_more (t : VT) {l : CK0} {k : Nat} {g : ByteArray × Bool} (h : l[k]? = some g) : prefixOk t (l.take k) (l.drop k) = (decide (clkT t g.1 = l.take k) && prefixOk t (l.take (k + 1)) (l.drop (k + 1))) := by
  rw [drop_cons h, prefixOk]
  have e : l.take k ++ [g] = l.take (k + 1) := by
    obtain ⟨h1, h2⟩ := List.getElem?_eq_some_iff.1 h
    rw [List.take_succ_eq_append_getElem h1, h2]
  rw [e]
theorem EdIn.take {w : World} {p : Option Addr} {m c : Nat} {l : CK0} (h : EdIn w (.slice p m c) l) (k : Nat) (hk : k ≤ m) : EdIn w (.slice p k c) (l.take k) := by
  obtain ⟨p', c', e1, h2, h3⟩ := h.slice
  simp only [Value.slice.injEq] at e1
  obtain ⟨rfl, rfl, rfl⟩ := e1
  have hl : (l.take k).length = k := by rw [List.length_take]; omega
  unfold EdIn at h ⊢
  obtain ⟨a, cap, e2, h4, h5, h6⟩ := h
  simp only [Value.slice.injEq] at e2
  obtain ⟨rfl, -, rfl⟩ := e2
  refine ⟨p, c, by rw [hl], by rw [hl]; omega, h5, fun j u hu => h6 j u ?_⟩
  rw [← List.take_append_drop k l, edCells_app, List.getElem?_append_left (List.getElem?_eq_some_iff.1 hu).1]
  exact hu
theorem in_rx {P : Program} {f : FuncId} {args : Array Value} {W : World} {t : Tok} {b : Bool} (h : Calls P f args (W.extBy t) (RetX b (W.extBy t))) :
    Calls P f args (W.extBy t) (fun e w' => e = .returned (.bool b) ∧ ∃ t', w' = W.extBy t') := h.mono fun _ _ hh => ⟨hh.1, ((Ext.by W t).trans hh.2.out).tok⟩
theorem clockQ_1 (t : VT) (q : EQ) (h : q.form = 1) : clockQ t q = match clkE t q.e with | none => false | some k => goesK k (clkT t q.name) := by unfold clockQ; rw [if_pos h]; rfl
theorem clockQ_2 (t : VT) (q : EQ) (h1 : q.form ≠ 1) (h : q.form = 2) : clockQ t q = (decide (clkT t q.next = clkT t q.name) && (decide (q.reset = eB) || decide (clkT t q.reset = clkT t q.name))) := by unfold clockQ; rw [if_neg h1, if_pos h]
theorem clockQ_3 (t : VT) (q : EQ) (h1 : q.form ≠ 1) (h2 : q.form ≠ 2) (h : q.form = 3) : clockQ t q = decide (clkT t q.name = []) := by unfold clockQ; rw [if_neg h1, if_neg h2, if_pos h]
theorem clockQ_4 (t : VT) (q : EQ) (h1 : q.form ≠ 1) (h2 : q.form ≠ 2) (h3 : q.form ≠ 3) : clockQ t q = true := by unfold clockQ; rw [if_neg h1, if_neg h2, if_neg h3]
set_option maxHeartbeats 16000000 in
theorem cclocks_any {W0 : World} {c : CP} {x : S4} {X M D : Nat} {t : TQ} {d : DT} {w : World} (hc : CPIn W0 c x) (h : KC W0 x X M D t d w) (hok : okC c) (hl : c.ins.length ≤ 100000 ∧ c.outs.length ≤ 100000 ∧ c.locals.length ≤ 100000) (hfr : ∀ q ∈ c.eqs, q.form = 1 → frm q.e) (hb : ∀ n, (clkT t.vt n).length ≤ 100000) :
    Calls Try.prog 38 #[.pointer (some ⟨X, 0, none⟩)] w (RetX (clocksC t.vt c) w) := by
  obtain ⟨R, hR⟩ : ∃ R, R = clocksC t.vt c := ⟨_, rfl⟩
  rw [← hR]
  obtain ⟨Q, hQ⟩ : ∃ Q, Q = RetX R w := ⟨_, rfl⟩
  rw [← hQ]
  have HQ := Lib.hid hQ
  have HR := Lib.hid hR
  have HVS := Lib.hid (fun w' (hx : Ext w w') => cvars_any W0 c x w' hc (h.ext.trans hx) hl)
  have HCLK := Lib.hid (fun w' (hx : Ext w w') (e : CE) (kv : Value) (hk : KIn W0 e kv) (he : okE e) (hf : frm e) => cclock_at hb (SizeOf.sizeOf e + 1) e (Nat.lt_succ_self _) kv w' (h.next hx) hk he hf)
  obtain ⟨y, hy⟩ : ∃ y, y = x := ⟨_, rfl⟩
  have HKC0 : Hid (KC W0 y X M D t d w) := Lib.hid (by rw [hy]; exact h)
  have HKC := Lib.hid h
  have HOK := Lib.hid (And.intro hok hfr)
  have HLB := Lib.hid hb
  clear hQ hR h hok hfr hb
  obtain ⟨iv, ov, lv, ev⟩ := x
  obtain ⟨qs1, h1⟩ := hc.ins
  obtain ⟨qs2, h2⟩ := hc.outs
  obtain ⟨qs3, h3⟩ := hc.locals
  have h4 := hc.eqs
  obtain ⟨p1, c1, e1, hd1, hm1⟩ := h1.slice
  obtain ⟨p2, c2, e2, hd2, hm2⟩ := h2.slice
  obtain ⟨p3, c3, e3, hd3, hm3⟩ := h3.slice
  obtain ⟨p4, c4, e4, hd4, hm4⟩ := h4.slice
  simp only at e1 e2 e3 e4
  subst e1 e2 e3 e4
  simp only at h1 h2 h3 h4
  obtain ⟨n1, hn1⟩ : ∃ n, n = c.ins.length := ⟨_, rfl⟩
  obtain ⟨n2, hn2⟩ : ∃ n, n = c.outs.length := ⟨_, rfl⟩
  obtain ⟨n3, hn3⟩ : ∃ n, n = c.locals.length := ⟨_, rfl⟩
  obtain ⟨n4, hn4⟩ : ∃ n, n = c.eqs.length := ⟨_, rfl⟩
  have HN := Lib.hid (And.intro hn1 (And.intro hn2 (And.intro hn3 hn4)))
  have hcI1 : (c1 : Int) ≤ 9223372036854775807 := by unfold maxLen at hm1; omega
  have hcI2 : (c2 : Int) ≤ 9223372036854775807 := by unfold maxLen at hm2; omega
  have hcI3 : (c3 : Int) ≤ 9223372036854775807 := by unfold maxLen at hm3; omega
  have hcI4 : (c4 : Int) ≤ 9223372036854775807 := by unfold maxLen at hm4; omega
  rw [← hn1] at h1 hd1
  rw [← hn2] at h2 hd2
  rw [← hn3] at h3 hd3
  rw [← hn4] at h4 hd4
  simp only [← hn1, ← hn2, ← hn3, ← hn4] at HVS HKC HCLK hl hy
  have H1 := Lib.hid h1
  have H2 := Lib.hid h2
  have H3 := Lib.hid h3
  have HE := Lib.hid h4
  obtain ⟨hl1, hl2, hl3⟩ := hl
  have gl := HKC.out.box.lt
  clear hc h1 h2 h3 h4 hn1 hn2 hn3 hn4 hm1 hm2 hm3 hm4
  have HY := Lib.hid hy
  clear hy
  have HQA : Hid (clocksC t.vt c = (((c.ins ++ c.outs).all fun v => decide (v.clk = [])) && ((c.vars.all fun v => prefixOk t.vt [] v.clk) && c.eqs.all fun q => clockQ t.vt q))) := Lib.hid (by unfold clocksC; rw [Bool.and_assoc])
  go_enter Try.func38, Try.ntmps38
  go_upto_region 1 with fail
  have xa := HKC.out.box.cells 0 _ rfl
  have xb := HKC.out.box.cells 1 _ rfl
  obtain ⟨wa, hwa⟩ : ∃ z, z = w := ⟨_, rfl⟩
  have HWA : Hid (Ext w wa) := Lib.hid (by rw [hwa]; exact Ext.refl _)
  rw [← hwa] at xa xb gl ⊢
  clear hwa
  obtain ⟨k1, hk1⟩ : ∃ k, k = vrCells c.ins qs1 := ⟨_, rfl⟩
  obtain ⟨k2, hk2⟩ : ∃ k, k = vrCells c.outs qs2 := ⟨_, rfl⟩
  have HA1 : Hid (SlC wa (.slice p1 n1 c1) n1 k1 ∧ (∀ u ∈ k1, u.oneCell' = true) ∧ k1.length = n1 * 3) := Lib.hid (by
    have h := H1.out.row.ext (HKC.out.ext.trans HWA.out)
    have hl := vrCells_len c.ins qs1 H1.out.len
    have ho := H1.out.one
    rw [← hk1] at h hl ho
    rw [← HN.out.1] at h hl
    exact ⟨h, ho, hl⟩)
  have HA2 : Hid (SlC wa (.slice p2 n2 c2) n2 k2 ∧ (∀ u ∈ k2, u.oneCell' = true) ∧ k2.length = n2 * 3) := Lib.hid (by
    have h := H2.out.row.ext (HKC.out.ext.trans HWA.out)
    have hl := vrCells_len c.outs qs2 H2.out.len
    have ho := H2.out.one
    rw [← hk2] at h hl ho
    rw [← HN.out.2.1] at h hl
    exact ⟨h, ho, hl⟩)
  have HKK := Lib.hid (And.intro hk1 hk2)
  have hq0 : wa.cell? ⟨X, 0, none⟩ = some (.slice p1 n1 c1) ∧ wa.cell? ⟨X, 1, none⟩ = some (.slice p2 n2 c2) := ⟨xa, xb⟩
  have HQQ : Hid (∀ w', Ext wa w' → w'.cell? ⟨X, 0, none⟩ = some (.slice p1 n1 c1) ∧ w'.cell? ⟨X, 1, none⟩ = some (.slice p2 n2 c2)) := Lib.hid (fun w' hx => ⟨hx.cell xa, hx.cell xb⟩)
  clear hk1 hk2 xa xb
  go_region_held3 (fun w' => w'.cell? ⟨X, 0, none⟩ = some (.slice p1 n1 c1) ∧ w'.cell? ⟨X, 1, none⟩ = some (.slice p2 n2 c2))
    (first | (with_reducible exact hq2) | (with_reducible exact hq1) | (with_reducible exact hq0) | exact HQQ.out _ ((Ext.refl wa).drew))
    (first
      | (refine step_append_slc _ rfl (.const (.slice none 0 0)) (.tmp 18) 23 rfl wa.heap.size 30 zV 3 48 Try.underlying23 infoVar rfl (by decide) (.slice none 0 0) 0 [] rfl (own_nil _ _ _ _) _ n1 k1 rfl (HA1.out.1.ext (Ext.refl wa).drew) HA1.out.2.2 HA1.out.2.1 (by unfold maxLen; omega) (by omega) (Nat.le_refl _) ?_; intro v1 w1 hown1 hg1 hat1; have hX1 : Ext wa w1 := ((Ext.refl wa).drew).trans (ext_grown_nil hg1); have hq1 := HQQ.out w1 hX1; clear hg1 hat1)
      | (refine step_append_slc _ rfl (.tmp 19) (.tmp 24) 23 rfl wa.heap.size 30 zV 3 48 Try.underlying23 infoVar rfl (by decide) v1 (0 + n1) ([] ++ k1) rfl hown1 _ n2 k2 rfl (HA2.out.1.ext hX1) HA2.out.2.2 HA2.out.2.1 (by unfold maxLen; omega) (by omega) hX1.size ?_; intro v2 w2 hown2 hg2 hat2; have hX2 : Ext wa w2 := (Kb.grown (S := v1.ownBlock.toList) hg2 (fun g hg => Option.mem_toList.2 hg)).ext hX1 (fun g hg => (hown1.lt g (Option.mem_toList.1 hg)).1); have hq2 := HQQ.out w2 hX2; have HO := Lib.hid (And.intro hown2 hX2); obtain ⟨pv, nvx, cv, hv2⟩ := own_slice3 hown2; subst hv2; clear hown2 hg2 hat2))
  obtain ⟨l, hll⟩ : ∃ l, l = c.ins ++ c.outs := ⟨_, rfl⟩
  have hnvx : nvx = l.length := by
    obtain ⟨a', c', e, -⟩ := SlC.of_owns HO.out.1
    simp only [Value.slice.injEq] at e
    rw [e.2.1, hll, List.length_append, HN.out.1, HN.out.2.1]
    omega
  obtain ⟨qs, hqs⟩ : ∃ q, q = qs1 ++ qs2 := ⟨_, rfl⟩
  have HV : Hid (VsIn W0 w2 (.slice pv nvx cv) l qs) := Lib.hid (by
    have h := SlC.of_owns HO.out.1
    rw [HKK.out.1, HKK.out.2] at h
    subst hll hqs
    exact (H1.out.ext (Ext.refl _)).app2 (H2.out.ext (Ext.refl _)) h (by rw [HN.out.1, HN.out.2.1, List.length_append]; omega) hnvx)
  have HOWN : Hid (w2.ownsRow wa.heap.size 30 3 (.slice pv nvx cv) nvx (vrCells l qs)) := Lib.hid (by
    have h := HO.out.1
    have e1 : vrCells l qs = [] ++ k1 ++ k2 := by rw [hll, hqs, vrCells_app _ _ _ _ H1.out.len, HKK.out.1, HKK.out.2]; rfl
    have e2 : 0 + n1 + n2 = nvx := by rw [hnvx, hll, List.length_append, HN.out.1, HN.out.2.1]; omega
    rw [e1]
    rw [e2] at h
    exact h)
  have hnvb : nvx ≤ n1 + n2 := by
    rw [hnvx, hll, List.length_append, HN.out.1, HN.out.2.1]; omega
  have HLL := Lib.hid hll
  have hnv := hnvx
  clear hll hqs hnvx hX1 hX2 hq0 hq1 hq2 hown1
  obtain ⟨pz, cz, e1, hdv, hmv⟩ := HV.out.slice
  simp only [Value.slice.injEq] at e1
  have hcv : (cv : Int) ≤ 9223372036854775807 := by rw [e1.2.2]; unfold maxLen at hmv; omega
  rw [← e1.2.2] at hdv
  rw [← hnv] at hdv
  clear e1 hmv
  have HA2 : Hid (clocksC t.vt c = ((l.all fun v => decide (v.clk = [])) && ((c.vars.all fun v => prefixOk t.vt [] v.clk) && c.eqs.all fun q => clockQ t.vt q))) := Lib.hid (by rw [HQA.out, HLL.out])
  have HPX := Lib.hid (HWA.out.trans HO.out.2)
  go_upto_region 2 with fail
  go_loopw [27] (fun i wr => ∃ j : Nat, j ≤ nvx ∧ i = .int .i64 (j : Int) ∧ Hid (Ext w2 wr) ∧ Hid ((l.all fun v => decide (v.clk = [])) = (l.drop j).all fun v => decide (v.clk = []))) (fun i _ => nvx - (intOf i).toNat)
  case atStart => exact ⟨0, Nat.zero_le _, rfl, Lib.hid (Ext.refl _), Lib.hid rfl⟩
  case round =>
    obtain ⟨j, hj, rfl, HS, HJ⟩ := hrel
    by_cases hlt : j < nvx
    · have hji : (j : Int) < (nvx : Int) := Int.ofNat_lt.2 hlt
      have hxl := HS.out
      obtain ⟨v, hv⟩ : ∃ v, (l)[j]? = some v := ⟨_, List.getElem?_eq_getElem (by rw [← hnv]; exact hlt)⟩
      obtain ⟨bv_, ov_, pq, cq, hpe, hqv, v0_, v1_, v2_, hev, hvl⟩ := (HV.out.ext hxl).at hv
      subst hpe
      obtain ⟨mq, hnq⟩ : ∃ n, n = v.clk.length := ⟨_, rfl⟩
      rw [← hnq] at v2_ hev hqv
      have hjv : j < cv := by omega
      have HVV := Lib.hid (And.intro hv (And.intro hev (And.intro hnq hqv)))
      have hxy : Ext wr (wr.alloc (.cells #[.string v.name, .int .i64 v.kind, .slice pq mq cq] 30)) := (Ext.refl wr).alloc _
      have hby : BoxV wr.heap.size [.string v.name, .int .i64 v.kind, .slice pq mq cq] (wr.alloc (.cells #[.string v.name, .int .i64 v.kind, .slice pq mq cq] 30)) := BoxV.of_row (heap_alloc_last wr _)
      have HXY := Lib.hid hxy
      clear hv hev hnq hqv
      go_upto_region 4 with fail
      generalize (wr.alloc (.cells #[.string v.name, .int .i64 v.kind, .slice pq mq cq] 30)) = wy at hby hxy HXY ⊢
      generalize wr.heap.size = Y at hby ⊢
      have d0 := hby.cells 0 _ rfl
      have d1 := hby.cells 1 _ rfl
      have d2 := hby.cells 2 _ rfl
      have hyl := hby.lt
      clear hby hxy v0_ v1_ v2_ hvl
      have HAD := Lib.hid (all_drop (fun v : VR => decide (v.clk = [])) HVV.out.1)
      by_cases h0 : (0 : Int) < (mq : Int)
      · have HC : Hid (R = false) := Lib.hid (by
          have hne : v.clk ≠ [] := fun e => by have h1 := HVV.out.2.2.1; rw [e] at h1; simp at h1; omega
          rw [HR.out, HA2.out, HJ.out, HAD.out, decide_eq_false hne]; simp)
        go_wp2
        rw [HQ.out, HC.out]
        exact ⟨rfl, Lib.hid (HPX.out.trans (HS.out.trans HXY.out))⟩
      · have HC : Hid ((l.all fun v => decide (v.clk = [])) = (l.drop (j + 1)).all fun v => decide (v.clk = [])) := Lib.hid (by
          have hne : v.clk = [] := List.eq_nil_of_length_eq_zero (by have h1 := HVV.out.2.2.1; omega)
          rw [HJ.out, HAD.out, decide_eq_true hne]; simp)
        go_wp2
        exact ⟨⟨j + 1, by omega, by go_num, Lib.hid (HS.out.trans HXY.out), HC⟩, by simp [intOf]; omega⟩
    · have hji : ¬ (j : Int) < (nvx : Int) := fun e => hlt (Int.ofNat_lt.1 e)
      obtain rfl : j = nvx := by omega
      have HA3 : Hid (clocksC t.vt c = ((c.vars.all fun v => prefixOk t.vt [] v.clk) && c.eqs.all fun q => clockQ t.vt q)) := Lib.hid (by
        rw [HA2.out, HJ.out, hnv, List.drop_length]; simp)
      have HPX := Lib.hid (HPX.out.trans HS.out)
      have hkc3 := HKC0.out.next HPX.out
      have g0 := hkc3.box.cells 0 _ rfl
      have g1 := hkc3.box.cells 1 _ rfl
      have g2 := hkc3.box.cells 2 _ rfl
      have g3 := hkc3.box.cells 3 _ rfl
      rw [HY.out] at g0 g1 g2 g3
      have gl := hkc3.box.lt
      clear hkc3
      obtain ⟨m, hm⟩ : ∃ l, l = c.vars := ⟨_, rfl⟩
      have HMM := Lib.hid hm
      obtain ⟨nm, hnm⟩ : ∃ n, n = m.length := ⟨_, rfl⟩
      have HNM2 := Lib.hid hnm
      have HF3 : Hid (Calls Try.prog 29 #[.agg #[.slice p1 n1 c1, .slice p2 n2 c2, .slice p3 n3 c3, .slice p4 n4 c4]] wr fun e w' => ∃ p cap qs, e = .returned (.slice p nm cap) ∧ Hid (VsIn W0 w' (.slice p nm cap) m qs ∧ Ext wr w')) := Lib.hid ((HVS.out wr HPX.out).mono (fun e w' ⟨p, cap, qs, h1, h2⟩ => ⟨p, cap, qs, by rw [hnm, hm]; exact h1, Lib.hid (by rw [hnm, hm]; exact ⟨h2.out.1, h2.out.2.1⟩)⟩))
      clear hm hnm
      obtain ⟨wq, hwq⟩ : ∃ x, x = wr := ⟨_, rfl⟩
      subst hwq
      go_upto_region 8 with (first | (go_at_call 29; refine HF3.out.mono ?_; rintro e1 w5 ⟨pv5, cv5, qs5, rfl, H5⟩) | fail)
      have HV : Hid (VsIn W0 w5 (.slice pv5 nm cv5) m qs5) := Lib.hid H5.out.1
      obtain ⟨pz5, cz5, e5, hdv5, hmv5⟩ := HV.out.slice
      simp only [Value.slice.injEq] at e5
      have hcv5 : (cv5 : Int) ≤ 9223372036854775807 := by rw [e5.2.2]; unfold maxLen at hmv5; omega
      rw [← e5.2.2, ← HNM2.out] at hdv5
      have HPX : Hid (Ext w w5) := Lib.hid (HPX.out.trans H5.out.2)
      clear e5 hmv5 g0 g1 g2 g3 gl
      go_loopw [42] (fun i wr => ∃ j : Nat, j ≤ nm ∧ i = .int .i64 (j : Int) ∧ Hid (Ext w5 wr) ∧ Hid ((c.vars.all fun v => prefixOk t.vt [] v.clk) = (m.drop j).all fun v => prefixOk t.vt [] v.clk)) (fun i _ => nm - (intOf i).toNat)
      case atStart => exact ⟨0, Nat.zero_le _, rfl, Lib.hid (Ext.refl _), Lib.hid (by rw [HMM.out]; rfl)⟩
      case round =>
        obtain ⟨j, hj, rfl, HS, HJ⟩ := hrel
        by_cases hlt : j < nm
        · have hji : (j : Int) < (nm : Int) := Int.ofNat_lt.2 hlt
          have hxl := HS.out
          obtain ⟨v, hv⟩ : ∃ v, (m)[j]? = some v := ⟨_, List.getElem?_eq_getElem (by rw [← HNM2.out]; exact hlt)⟩
          obtain ⟨bv_, ov_, pq, cq, hpe, hqv, v0_, v1_, v2_, hev, hvl⟩ := (HV.out.ext hxl).at hv
          subst hpe
          obtain ⟨mq, hnq⟩ : ∃ n, n = v.clk.length := ⟨_, rfl⟩
          rw [← hnq] at v2_ hev hqv
          have hjv : j < cv5 := by omega
          have HVV := Lib.hid (And.intro hv (And.intro hev (And.intro hnq hqv)))
          have hxy : Ext wr (wr.alloc (.cells #[.string v.name, .int .i64 v.kind, .slice pq mq cq] 30)) := (Ext.refl wr).alloc _
          have hby : BoxV wr.heap.size [.string v.name, .int .i64 v.kind, .slice pq mq cq] (wr.alloc (.cells #[.string v.name, .int .i64 v.kind, .slice pq mq cq] 30)) := BoxV.of_row (heap_alloc_last wr _)
          have HXY := Lib.hid hxy
          clear hv hev hnq hqv
          go_upto_region 10 with fail
          generalize (wr.alloc (.cells #[.string v.name, .int .i64 v.kind, .slice pq mq cq] 30)) = wy at hby hxy HXY ⊢
          generalize wr.heap.size = Y at hby ⊢
          have d0 := hby.cells 0 _ rfl
          have d1 := hby.cells 1 _ rfl
          have d2 := hby.cells 2 _ rfl
          have hyl := hby.lt
          clear hby hxy v0_ v1_ v2_ hvl
          have HAD := Lib.hid (all_drop (fun v : VR => prefixOk t.vt [] v.clk) HVV.out.1)
          have HCE : Hid ((cq : Int) ≤ 9223372036854775807 ∧ mq ≤ cq) := Lib.hid (by
            obtain ⟨pz, cz, e1, h1, h2⟩ := HVV.out.2.1.slice
            simp only [Value.slice.injEq] at e1
            rw [e1.2.2]
            refine ⟨by unfold maxLen at h2; omega, by rw [HVV.out.2.2.1]; exact h1⟩)
          have hce1 := HCE.out.1
          have hce2 := HCE.out.2
          have HWY := Lib.hid (HPX.out.trans (HS.out.trans HXY.out))
          have HD2 := Lib.hid (And.intro d2 hyl)
          go_upto_region 11 with fail
          clear d0 d1 d2 hyl
          obtain ⟨wq6, hwq6⟩ : ∃ x, x = wy := ⟨_, rfl⟩
          subst hwq6
          go_loopw [49] (fun i wr => ∃ k : Nat, k ≤ mq ∧ i = .int .i64 (k : Int) ∧ Hid (Ext wq6 wr) ∧ Hid (prefixOk t.vt [] v.clk = prefixOk t.vt (v.clk.take k) (v.clk.drop k))) (fun i _ => mq - (intOf i).toNat)
          case atStart => exact ⟨0, Nat.zero_le _, rfl, Lib.hid (Ext.refl _), Lib.hid rfl⟩
          case round =>
            obtain ⟨k3, hk3, rfl, HS6, HJ6⟩ := hrel
            by_cases hlt3 : k3 < mq
            · have hji3 : (k3 : Int) < (mq : Int) := Int.ofNat_lt.2 hlt3
              have hxw : Ext W0 wr := HKC0.out.ext.trans (HWY.out.trans HS6.out)
              have hkce : k3 < cq := by omega
              obtain ⟨ed, hed⟩ : ∃ z, z = v.clk := ⟨_, rfl⟩
              obtain ⟨g_, hg_⟩ : ∃ g, v.clk[k3]? = some g := ⟨_, List.getElem?_eq_getElem (by rw [← HVV.out.2.2.1]; exact hlt3)⟩
              obtain ⟨be_, oe_, hpe, e0_, e1_, hel⟩ := (HVV.out.2.1.ext hxw).at hg_
              subst hpe
              clear ed hed
              have HXV := Lib.hid HXY.out
              have HGG := Lib.hid hg_
              clear hg_
              have hxy : Ext wr (wr.alloc (.cells #[.string g_.1, .bool g_.2] 51)) := (Ext.refl wr).alloc _
              have hby : BoxV wr.heap.size [.string g_.1, .bool g_.2] (wr.alloc (.cells #[.string g_.1, .bool g_.2] 51)) := BoxV.of_row (heap_alloc_last wr _)
              have HXY := Lib.hid hxy
              go_upto_region 13 with fail
              generalize (wr.alloc (.cells #[.string g_.1, .bool g_.2] 51)) = wy at hby hxy HXY ⊢
              generalize wr.heap.size = Y2 at hby ⊢
              have d0e := hby.cells 0 _ rfl
              have d1e := hby.cells 1 _ rfl
              have hyle := hby.lt
              clear hby hxy e0_ e1_ hel
              have hns : g_.1.size ≤ maxLen := by
                have hv := List.mem_of_getElem? HVV.out.1
                rw [HMM.out] at hv
                unfold CP.vars at hv
                rcases List.mem_append.1 hv with h | h
                · rcases List.mem_append.1 h with h | h
                  · exact (HOK.out.1.ins v h).clk _ (List.mem_of_getElem? HGG.out)
                  · exact (HOK.out.1.outs v h).clk _ (List.mem_of_getElem? HGG.out)
                · exact (HOK.out.1.locals v h).clk _ (List.mem_of_getElem? HGG.out)
              have HXZ := Lib.hid (HWY.out.trans (HS6.out.trans HXY.out))
              have d2 := HXY.out.cell (HS6.out.cell HD2.out.1)
              have hyl := Nat.lt_of_lt_of_le HD2.out.2 (HS6.out.trans HXY.out).size
              have hkc := HKC0.out.next HXZ.out
              have g4 := hkc.box.cells 4 _ rfl
              have gl := hkc.box.lt
              obtain ⟨nmL, pL, cL, hlkL, hevL⟩ := hkc.lookA hns
              have hlk2 := fun tk : Tok => hlkL (wy.extBy tk) (Ext.by wy tk)
              obtain ⟨VL, hVL⟩ : ∃ z, z = clkT t.vt g_.1 := ⟨_, rfl⟩
              rw [← hVL] at hlk2 hevL
              obtain ⟨nL, hnL⟩ : ∃ z, z = VL.length := ⟨_, rfl⟩
              rw [← hnL] at hlk2 hevL
              obtain ⟨b9, hb9⟩ : ∃ z, z = decide (VL = v.clk.take k3) := ⟨_, rfl⟩
              have hk30 : (0 : Int) ≤ (k3 : Int) := Int.natCast_nonneg _
              have hk31 : (k3 : Int) ≤ (cq : Int) := by omega
              have HSM : Hid (∀ tk : Tok, Calls Try.prog 60 #[.slice pL nL cL, .slice (some ⟨be_, oe_, none⟩) k3 cq] (wy.extBy tk) (RetX b9 (wy.extBy tk))) := Lib.hid (fun tk => by
                rw [hb9]
                exact csame_any (hevL.ext (HKC0.out.ext.trans (HXZ.out.trans (Ext.by wy tk)))) ((HVV.out.2.1.take k3 hk3).ext (HKC0.out.ext.trans (HXZ.out.trans (Ext.by wy tk)))))
              have HAE : Hid (prefixOk t.vt [] v.clk = (b9 && prefixOk t.vt (v.clk.take (k3 + 1)) (v.clk.drop (k3 + 1)))) := Lib.hid (by rw [HJ6.out, prefix_more t.vt HGG.out, hb9, hVL])
              clear hns hkc hlkL hVL hnL hb9 hevL
              cases b9 with
              | true =>
                have HCC : Hid (prefixOk t.vt [] v.clk = prefixOk t.vt (v.clk.take (k3 + 1)) (v.clk.drop (k3 + 1))) := Lib.hid (by rw [HAE.out]; simp)
                ((first | (with_reducible refine region_ext2 (by kernel_rfl) (by kernel_rfl) ?_) | refine region_ext (by kernel_rfl) (by kernel_rfl) ?_); (repeat (go_big_quiet_step (exact in_rx (HSM.out _)))); refine wpQuiet_nil ?_; rintro _ ⟨t1, rfl⟩)
                go_wp2
                exact ⟨⟨k3 + 1, by omega, by go_num, Lib.hid (HS6.out.trans (HXY.out.trans (Ext.by _ _))), HCC⟩, by simp [intOf]; omega⟩
              | false =>
                have HCC : Hid (R = false) := Lib.hid (by rw [HR.out, HA3.out, HJ.out, HAD.out, HAE.out]; simp)
                ((first | (with_reducible refine region_ext2 (by kernel_rfl) (by kernel_rfl) ?_) | refine region_ext (by kernel_rfl) (by kernel_rfl) ?_); (repeat (go_big_quiet_step (exact in_rx (HSM.out _)))); refine wpQuiet_nil ?_; rintro _ ⟨t1, rfl⟩)
                go_wp2
                rw [HQ.out, HCC.out]
                exact ⟨rfl, Lib.hid (HXZ.out.trans (Ext.by _ _))⟩
            · have hji3 : ¬ (k3 : Int) < (mq : Int) := fun e => hlt3 (Int.ofNat_lt.1 e)
              obtain rfl : k3 = mq := by omega
              have HCC : Hid ((c.vars.all fun v => prefixOk t.vt [] v.clk) = (m.drop (j + 1)).all fun v => prefixOk t.vt [] v.clk) := Lib.hid (by
                rw [HJ.out, HAD.out, HJ6.out, HVV.out.2.2.1, List.drop_length, prefixOk]; simp)
              go_wp2
              exact ⟨⟨j + 1, by omega, by go_num, Lib.hid (HS.out.trans (HXY.out.trans HS6.out)), HCC⟩, by simp [intOf]; omega⟩
        · have hji : ¬ (j : Int) < (nm : Int) := fun e => hlt (Int.ofNat_lt.1 e)
          obtain rfl : j = nm := by omega
          have HB1 : Hid (clocksC t.vt c = c.eqs.all fun q => clockQ t.vt q) := Lib.hid (by
            rw [HA3.out, HJ.out, HNM2.out, List.drop_length]; simp)
          have HPX := Lib.hid (HPX.out.trans HS.out)
          have hkc3 := HKC0.out.next HPX.out
          have g3 := hkc3.box.cells 3 _ rfl
          rw [HY.out] at g3
          have gl := hkc3.box.lt
          clear hkc3
          obtain ⟨wq8, hwq8⟩ : ∃ x, x = wr := ⟨_, rfl⟩
          subst hwq8
          go_upto_region 18 with fail
          clear g3 gl
          go_loopw [76] (fun i wr => ∃ k : Nat, k ≤ n4 ∧ i = .int .i64 (k : Int) ∧ Hid (Ext wq8 wr) ∧ Hid ((c.eqs.all fun q => clockQ t.vt q) = (c.eqs.drop k).all fun q => clockQ t.vt q)) (fun i _ => n4 - (intOf i).toNat)
          case atStart => exact ⟨0, Nat.zero_le _, rfl, Lib.hid (Ext.refl _), Lib.hid rfl⟩
          case round =>
            obtain ⟨k, hk, rfl, HS2, HJ2⟩ := hrel
            by_cases hlt : k < n4
            · have hji : (k : Int) < (n4 : Int) := Int.ofNat_lt.2 hlt
              have hxw : Ext W0 wr := HKC0.out.ext.trans (HPX.out.trans HS2.out)
              obtain ⟨q, hq⟩ : ∃ q, c.eqs[k]? = some q := ⟨_, List.getElem?_eq_getElem (by have := HN.out.2.2.2; omega)⟩
              obtain ⟨b, o, pk, ck, hpe, hkq, hcq, hbl⟩ := HE.out.at hq
              subst hpe
              obtain ⟨nk, hnk⟩ : ∃ n, n = q.e.kids.length := ⟨_, rfl⟩
              rw [← hnk] at hkq hcq
              have hjc : k < c4 := by omega
              have hbl2 := Nat.lt_of_lt_of_le hbl hxw.size
              have c0_ := hxw.cell (hcq 0 _ rfl)
              have c1_ := hxw.cell (hcq 1 _ rfl)
              have c2_ := hxw.cell (hcq 2 _ rfl)
              have c3_ := hxw.cell (hcq 3 _ rfl)
              have c4_ := hxw.cell (hcq 4 _ rfl)
              have c5_ := hxw.cell (hcq 5 _ rfl)
              have c6_ := hxw.cell (hcq 6 _ rfl)
              have c7_ := hxw.cell (hcq 7 _ rfl)
              have c8_ := hxw.cell (hcq 8 _ rfl)
              have c9_ := hxw.cell (hcq 9 _ rfl)
              have c10_ := hxw.cell (hcq 10 _ rfl)
              have c11_ := hxw.cell (hcq 11 _ rfl)
              have c12_ := hxw.cell (hcq 12 _ rfl)
              rw [Nat.add_zero] at c0_
              have HX := Lib.hid (And.intro hq (And.intro hkq hnk))
              have hxy : Ext wr (wr.alloc (.cells #[.int .i64 q.form, .string q.name, .int .i64 q.e.form, .int .i64 q.e.sub, .int .i64 q.e.kind, .int .i64 q.e.n, .string q.e.name, .slice pk nk ck, .int .i64 q.init, .string q.next, .string q.reset, .int .i64 q.period, .int .i64 q.offset] 35)) := (Ext.refl wr).alloc _
              have hby : BoxV wr.heap.size [.int .i64 q.form, .string q.name, .int .i64 q.e.form, .int .i64 q.e.sub, .int .i64 q.e.kind, .int .i64 q.e.n, .string q.e.name, .slice pk nk ck, .int .i64 q.init, .string q.next, .string q.reset, .int .i64 q.period, .int .i64 q.offset] (wr.alloc (.cells #[.int .i64 q.form, .string q.name, .int .i64 q.e.form, .int .i64 q.e.sub, .int .i64 q.e.kind, .int .i64 q.e.n, .string q.e.name, .slice pk nk ck, .int .i64 q.init, .string q.next, .string q.reset, .int .i64 q.period, .int .i64 q.offset] 35)) := BoxV.of_row (heap_alloc_last wr _)
              have HXY := Lib.hid hxy
              clear hq hkq hcq hbl hnk hxw
              go_upto_region 20 with fail
              generalize (wr.alloc (.cells #[.int .i64 q.form, .string q.name, .int .i64 q.e.form, .int .i64 q.e.sub, .int .i64 q.e.kind, .int .i64 q.e.n, .string q.e.name, .slice pk nk ck, .int .i64 q.init, .string q.next, .string q.reset, .int .i64 q.period, .int .i64 q.offset] 35)) = wy at hby hxy HXY ⊢
              generalize wr.heap.size = Y at hby ⊢
              have d0 := hby.cells 0 _ rfl
              have d1 := hby.cells 1 _ rfl
              have d2 := hby.cells 2 _ rfl
              have d3 := hby.cells 3 _ rfl
              have d4 := hby.cells 4 _ rfl
              have d5 := hby.cells 5 _ rfl
              have d6 := hby.cells 6 _ rfl
              have d7 := hby.cells 7 _ rfl
              have d8 := hby.cells 8 _ rfl
              have d9 := hby.cells 9 _ rfl
              have d10 := hby.cells 10 _ rfl
              have d11 := hby.cells 11 _ rfl
              have d12 := hby.cells 12 _ rfl
              have hyl := hby.lt
              clear hby hxy hbl2 c0_ c1_ c2_ c3_ c4_ c5_ c6_ c7_ c8_ c9_ c10_ c11_ c12_
              have HAD := Lib.hid (all_drop (fun q : EQ => clockQ t.vt q) HX.out.1)
              have HNO : Hid (clockQ t.vt q = false → R = false) := Lib.hid (fun e => by rw [HR.out, HB1.out, HJ2.out, HAD.out, e]; simp)
              have HYES : Hid (clockQ t.vt q = true → (c.eqs.all fun q => clockQ t.vt q) = (c.eqs.drop (k + 1)).all fun q => clockQ t.vt q) := Lib.hid (fun e => by rw [HJ2.out, HAD.out, e]; simp)
              have HOQ := Lib.hid (HOK.out.1.eqs q (List.mem_of_getElem? HX.out.1))
              have HXW := Lib.hid (HPX.out.trans (HS2.out.trans HXY.out))
              have hkc := HKC0.out.next HXW.out
              have g4 := hkc.box.cells 4 _ rfl
              have gl := hkc.box.lt
              obtain ⟨nmv, pv9, cv9, hlkv, hevv⟩ := hkc.lookA HOQ.out.name
              have hlk2 := fun n' : Nat => hlkv (wy.drewN n') ((Ext.refl wy).drewN n')
              obtain ⟨V, hV⟩ : ∃ z, z = clkT t.vt q.name := ⟨_, rfl⟩
              rw [← hV] at hlk2 hevv
              obtain ⟨vl, hvl⟩ : ∃ z, z = V.length := ⟨_, rfl⟩
              rw [← hvl] at hlk2 hevv
              have HVV := Lib.hid (And.intro hV (And.intro hvl hevv))
              clear hkc hlkv hV hvl hevv HAD
              (refine region_drew (by kernel_rfl) (by kernel_rfl) ?_; (repeat (go_big_quiet_step (fail))); refine wpQuiet_nil ?_; rintro _ ⟨nq, rfl⟩)
              have hxv : Ext wy (wy.drewN nq) := (Ext.refl wy).drewN nq
              have d0 := hxv.cell d0
              have d1 := hxv.cell d1
              have d2 := hxv.cell d2
              have d3 := hxv.cell d3
              have d4 := hxv.cell d4
              have d5 := hxv.cell d5
              have d6 := hxv.cell d6
              have d7 := hxv.cell d7
              have d8 := hxv.cell d8
              have d9 := hxv.cell d9
              have d10 := hxv.cell d10
              have d11 := hxv.cell d11
              have d12 := hxv.cell d12
              have g4 := hxv.cell g4
              have gl := Nat.lt_of_lt_of_le gl hxv.size
              have hyl := Nat.lt_of_lt_of_le hyl hxv.size
              have HXW := Lib.hid (HXW.out.trans hxv)
              have HXS := Lib.hid (HS2.out.trans (HXY.out.trans hxv))
              clear hlk2
              generalize wy.drewN nq = wv at d0 d1 d2 d3 d4 d5 d6 d7 d8 d9 d10 d11 d12 g4 gl hyl HXW HXS ⊢
              clear hxv
              by_cases a1 : q.form = 1
              · have q1 : (q.form == 1) = true := by simpa using a1
                have HFK : Hid (Calls Try.prog 61 #[.pointer (some ⟨X, 0, none⟩), .agg #[.int .i64 q.e.form, .int .i64 q.e.sub, .int .i64 q.e.kind, .int .i64 q.e.n, .string q.e.name, .slice pk nk ck]] wv (RetK W0 (clkE t.vt q.e) wv)) := Lib.hid (HCLK.out wv HXW.out q.e _ HX.out.2.1 HOQ.out.e (HOK.out.2 q (List.mem_of_getElem? HX.out.1) a1))
                have HTQ := Lib.hid (clockQ_1 t.vt q a1)
                obtain ⟨r, hr⟩ : ∃ z, z = clkE t.vt q.e := ⟨_, rfl⟩
                rw [← hr] at HFK HTQ
                clear a1 hr
                cases r with
                | none =>
                  have HF2 : Hid (Calls Try.prog 61 #[.pointer (some ⟨X, 0, none⟩), .agg #[.int .i64 q.e.form, .int .i64 q.e.sub, .int .i64 q.e.kind, .int .i64 q.e.n, .string q.e.name, .slice pk nk ck]] wv (fun e w' => ∃ any p mm c, e = .returned (.tuple #[.agg #[.bool any, .slice p mm c], .bool false]) ∧ Hid (Ext wv w'))) := Lib.hid (HFK.out.mono (fun e w' ⟨a, p, mm, c, h1, h2⟩ => ⟨a, p, mm, c, h1, Lib.hid h2.out.1⟩))
                  clear HFK
                  have HC := Lib.hid (HNO.out HTQ.out)
                  go_wp2_with (first | (go_at_call 61; refine HF2.out.mono ?_; rintro e2 w3 ⟨ka, p3_, m3, c3_, rfl, H3⟩) | fail)
                  rw [HQ.out, HC.out]
                  exact ⟨rfl, Lib.hid ((HXW.out.trans H3.out).trans ((Ext.refl _).alloc _))⟩
                | some kq =>
                  obtain ⟨kb, kl⟩ := kq
                  obtain ⟨mm, hmm⟩ : ∃ z, z = kl.length := ⟨_, rfl⟩
                  obtain ⟨b1, hb1⟩ : ∃ z, z = goesK (kb, kl) V := ⟨_, rfl⟩
                  have HTQ2 : Hid (clockQ t.vt q = b1) := Lib.hid (by rw [HTQ.out, hb1, HVV.out.1])
                  have HF2 : Hid (Calls Try.prog 61 #[.pointer (some ⟨X, 0, none⟩), .agg #[.int .i64 q.e.form, .int .i64 q.e.sub, .int .i64 q.e.kind, .int .i64 q.e.n, .string q.e.name, .slice pk nk ck]] wv (fun e w' => ∃ p c, e = .returned (.tuple #[.agg #[.bool kb, .slice p mm c], .bool true]) ∧ Hid (Ext wv w' ∧ ∀ w'', Ext w' w'' → Calls Try.prog 62 #[.agg #[.bool kb, .slice p mm c], .slice pv9 vl cv9] w'' (RetX b1 w'')))) := Lib.hid (HFK.out.mono (fun e w' ⟨a, p, m', c, h1, h2⟩ => by
                    obtain ⟨h3, h4⟩ := h2.out
                    obtain ⟨rfl, h5, h6, -⟩ := h4 _ rfl
                    rw [show m' = mm from by rw [h5, hmm]] at h1 h6
                    exact ⟨p, c, h1, Lib.hid ⟨h3, fun w'' hx => by
                      rw [hb1]
                      exact cgoes_any (h6.ext hx) (HVV.out.2.2.ext (HKC0.out.ext.trans (HXW.out.trans (h3.trans hx))))⟩⟩))
                  clear HFK hmm hb1 HTQ
                  cases b1 with
                  | false =>
                    have HC := Lib.hid (HNO.out HTQ2.out)
                    go_wp2_with (first | (go_at_call 61; refine HF2.out.mono ?_; rintro e2 w3 ⟨p3_, c3_, rfl, H3⟩) | (go_at_call 62; refine (H3.out.2 _ ((Ext.refl _).alloc _)).mono ?_; rintro e4 w4 ⟨rfl, H4⟩) | fail)
                    rw [HQ.out, HC.out]
                    exact ⟨rfl, Lib.hid ((HXW.out.trans H3.out.1).trans (((Ext.refl _).alloc _).trans H4.out))⟩
                  | true =>
                    have HC := Lib.hid (HYES.out HTQ2.out)
                    go_wp2_with (first | (go_at_call 61; refine HF2.out.mono ?_; rintro e2 w3 ⟨p3_, c3_, rfl, H3⟩) | (go_at_call 62; refine (H3.out.2 _ ((Ext.refl _).alloc _)).mono ?_; rintro e4 w4 ⟨rfl, H4⟩) | fail)
                    exact ⟨⟨k + 1, by omega, by go_num, Lib.hid (HXS.out.trans (H3.out.1.trans (((Ext.refl _).alloc _).trans H4.out))), HC⟩, by simp [intOf]; omega⟩
              · have q1 : (q.form == 1) = false := by simpa using a1
                by_cases a2 : q.form = 2
                · have q2 : (q.form == 2) = true := by simpa using a2
                  have HTQ := Lib.hid (clockQ_2 t.vt q a1 a2)
                  have hkc := HKC0.out.next HXW.out
                  obtain ⟨nmN, pN, cN, hlkN, hevN⟩ := hkc.lookA HOQ.out.next
                  obtain ⟨nmR, pR, cR, hlkR, hevR⟩ := hkc.lookA HOQ.out.reset
                  have hlkN2 := fun tk : Tok => hlkN (wv.extBy tk) (Ext.by wv tk)
                  have hlkR2 := fun tk : Tok => hlkR (wv.extBy tk) (Ext.by wv tk)
                  obtain ⟨VN, hVN⟩ : ∃ z, z = clkT t.vt q.next := ⟨_, rfl⟩
                  obtain ⟨VR, hVR⟩ : ∃ z, z = clkT t.vt q.reset := ⟨_, rfl⟩
                  rw [← hVN] at hlkN2 hevN
                  rw [← hVR] at hlkR2 hevR
                  obtain ⟨nN, hnN⟩ : ∃ z, z = VN.length := ⟨_, rfl⟩
                  obtain ⟨nR, hnR⟩ : ∃ z, z = VR.length := ⟨_, rfl⟩
                  rw [← hnN] at hlkN2 hevN
                  rw [← hnR] at hlkR2 hevR
                  obtain ⟨b1, hb1⟩ : ∃ z, z = decide (VN = V) := ⟨_, rfl⟩
                  obtain ⟨b2, hb2⟩ : ∃ z, z = decide (VR = V) := ⟨_, rfl⟩
                  have HSN : Hid (∀ tk : Tok, Calls Try.prog 60 #[.slice pN nN cN, .slice pv9 vl cv9] (wv.extBy tk) (RetX b1 (wv.extBy tk))) := Lib.hid (fun tk => by
                    rw [hb1]
                    exact csame_any (hevN.ext (HKC0.out.ext.trans (HXW.out.trans (Ext.by wv tk)))) (HVV.out.2.2.ext (HKC0.out.ext.trans (HXW.out.trans (Ext.by wv tk)))))
                  have HSR : Hid (∀ tk : Tok, Calls Try.prog 60 #[.slice pR nR cR, .slice pv9 vl cv9] (wv.extBy tk) (RetX b2 (wv.extBy tk))) := Lib.hid (fun tk => by
                    rw [hb2]
                    exact csame_any (hevR.ext (HKC0.out.ext.trans (HXW.out.trans (Ext.by wv tk)))) (HVV.out.2.2.ext (HKC0.out.ext.trans (HXW.out.trans (Ext.by wv tk)))))
                  have HT2 : Hid (clockQ t.vt q = (b1 && (decide (q.reset = eB) || b2))) := Lib.hid (by rw [HTQ.out, hb1, hb2, hVN, hVR, HVV.out.1])
                  clear hkc hlkN hlkR hVN hVR hnN hnR hb1 hb2 hevN hevR HTQ a1 a2
                  cases b1 with
                  | false =>
                    have HC := Lib.hid (HNO.out (by rw [HT2.out]; simp))
                    go_upto_region 27 with fail
                    ((first | (with_reducible refine region_ext2 (by kernel_rfl) (by kernel_rfl) ?_) | refine region_ext (by kernel_rfl) (by kernel_rfl) ?_); (repeat (go_big_quiet_step (first | (with_reducible exact in_rx (HSN.out _)) | (with_reducible exact in_rx (HSR.out _))))); refine wpQuiet_nil ?_; rintro _ ⟨t1, rfl⟩)
                    go_wp2
                    rw [HQ.out, HC.out]
                    exact ⟨rfl, Lib.hid (HXW.out.trans (Ext.by _ _))⟩
                  | true =>
                    by_cases a3 : q.reset = ⟨#[]⟩
                    · have r3 : q.reset.toList.isEmpty = true := by rw [ba_nil.2 a3]; rfl
                      have HC := Lib.hid (HYES.out (by rw [HT2.out]; simp [a3]))
                      go_upto_region 27 with fail
                      ((first | (with_reducible refine region_ext2 (by kernel_rfl) (by kernel_rfl) ?_) | refine region_ext (by kernel_rfl) (by kernel_rfl) ?_); (repeat (go_big_quiet_step (first | (with_reducible exact in_rx (HSN.out _)) | (with_reducible exact in_rx (HSR.out _))))); refine wpQuiet_nil ?_; rintro _ ⟨t1, rfl⟩)
                      go_wp2
                      exact ⟨⟨k + 1, by omega, by go_num, Lib.hid (HXS.out.trans (Ext.by _ _)), HC⟩, by simp [intOf]; omega⟩
                    · have r3 : q.reset.toList.isEmpty = false := by
                        cases h : q.reset.toList with
                        | nil => exact absurd (ba_nil.1 h) a3
                        | cons _ _ => rfl
                      have r4 : ¬ q.reset.toList = [] := fun e => a3 (ba_nil.1 e)
                      cases b2 with
                      | false =>
                        have HC := Lib.hid (HNO.out (by rw [HT2.out]; simp [a3]))
                        go_upto_region 27 with fail
                        ((first | (with_reducible refine region_ext2 (by kernel_rfl) (by kernel_rfl) ?_) | refine region_ext (by kernel_rfl) (by kernel_rfl) ?_); (repeat (go_big_quiet_step (first | (with_reducible exact in_rx (HSN.out _)) | (with_reducible exact in_rx (HSR.out _))))); refine wpQuiet_nil ?_; rintro _ ⟨t1, rfl⟩)
                        go_wp2
                        rw [HQ.out, HC.out]
                        exact ⟨rfl, Lib.hid (HXW.out.trans (Ext.by _ _))⟩
                      | true =>
                        have HC := Lib.hid (HYES.out (by rw [HT2.out]; simp))
                        go_upto_region 27 with fail
                        ((first | (with_reducible refine region_ext2 (by kernel_rfl) (by kernel_rfl) ?_) | refine region_ext (by kernel_rfl) (by kernel_rfl) ?_); (repeat (go_big_quiet_step (first | (with_reducible exact in_rx (HSN.out _)) | (with_reducible exact in_rx (HSR.out _))))); refine wpQuiet_nil ?_; rintro _ ⟨t1, rfl⟩)
                        go_wp2
                        exact ⟨⟨k + 1, by omega, by go_num, Lib.hid (HXS.out.trans (Ext.by _ _)), HC⟩, by simp [intOf]; omega⟩
                · have q2 : (q.form == 2) = false := by simpa using a2
                  by_cases a3 : q.form = 3
                  · have q3 : (q.form == 3) = true := by simpa using a3
                    have HTQ := Lib.hid (clockQ_3 t.vt q a1 a2 a3)
                    clear a1 a2 a3
                    by_cases h0 : (0 : Int) < (vl : Int)
                    · have HC := Lib.hid (HNO.out (by
                        rw [HTQ.out]
                        refine decide_eq_false (fun e => ?_)
                        have h1 := HVV.out.1
                        rw [e] at h1
                        have h2 := HVV.out.2.1
                        rw [h1] at h2
                        simp at h2
                        omega))
                      go_wp2_with fail
                      rw [HQ.out, HC.out]
                      exact ⟨rfl, HXW⟩
                    · have HC := Lib.hid (HYES.out (by
                        rw [HTQ.out]
                        refine decide_eq_true ?_
                        rw [← HVV.out.1]
                        exact List.eq_nil_of_length_eq_zero (by have h2 := HVV.out.2.1; omega)))
                      go_wp2_with fail
                      exact ⟨⟨k + 1, by omega, by go_num, HXS, HC⟩, by simp [intOf]; omega⟩
                  · have q3 : (q.form == 3) = false := by simpa using a3
                    have HC := Lib.hid (HYES.out (clockQ_4 t.vt q a1 a2 a3))
                    clear a1 a2 a3
                    go_wp2_with fail
                    exact ⟨⟨k + 1, by omega, by go_num, HXS, HC⟩, by simp [intOf]; omega⟩
            · have hji : ¬ (k : Int) < (n4 : Int) := fun e => hlt (Int.ofNat_lt.1 e)
              obtain rfl : k = n4 := by omega
              have HCC : Hid (R = true) := Lib.hid (by
                rw [HR.out, HB1.out, HJ2.out, HN.out.2.2.2, List.drop_length]; rfl)
              go_wp2
              rw [HQ.out, HCC.out]
              exact ⟨rfl, Lib.hid (HPX.out.trans HS2.out)⟩
end Go.Proofs.Ytmommjagndadjaa

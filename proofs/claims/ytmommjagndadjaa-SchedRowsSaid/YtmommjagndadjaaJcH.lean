/-
  The walk: whether all names are there.
  Condition: the program and its checker lie in memory.
  The walk: whether equations and expressions have their forms.
  Condition: the program and its checker lie in memory.
  The walk: whether a program is too long.
  Condition: the program and its checker lie in memory.
-/
import Derived.Test.YtmommjagndadjaaJcF
import Derived.Test.YtmommjagndadjaaJcE
namespace Go.Proofs.Ytmommjagndadjaa
open Go.RowKit Go.Maps
set_option linter.unusedSimpArgs false
set_option linter.unusedVariables false
set_option maxRecDepth 100000

def nameQ (t : VT) (od : DT) (q : EQ) : Bool := decide (lookD od q.name ≠ 0) && (decide (q.form ≠ 2) || (thereT t q.next && (decide (q.reset = eB) || thereT t q.reset)))
def ownL (l : List VR) : DT := l.map fun v => (v.name, (1 : Int))
set_option maxHeartbeats 16000000 in
theorem cnames_any {W0 : World} {c : CP} {x : S4} {X M D : Nat} {t : TQ} {d : DT} {w : World} (hc : CPIn W0 c x) (h : KC W0 x X M D t d w) (hok : okC c) (hl : c.ins.length ≤ 20000 ∧ c.outs.length ≤ 20000 ∧ c.locals.length ≤ 20000) (hle : c.eqs.length ≤ 20000) (hclk : ∀ v ∈ c.vars, v.clk.length ≤ 9223372036854775807) :
    Calls Try.prog 34 #[.pointer (some ⟨X, 0, none⟩)] w (RetX (namesC t.vt c) w) := by
  obtain ⟨R, hR⟩ : ∃ R, R = namesC t.vt c := ⟨_, rfl⟩
  rw [← hR]
  obtain ⟨Q, hQ⟩ : ∃ Q, Q = RetX R w := ⟨_, rfl⟩
  rw [← hQ]
  have HQ := Lib.hid hQ
  have HR := Lib.hid hR
  have HVS := Lib.hid (fun w' (hx : Ext w w') => cvars_any W0 c x w' hc (h.ext.trans hx) ⟨by omega, by omega, by omega⟩)
  have HEX := Lib.hid (fun (P : Nat) w' (hx : Ext w w') (hb : BoxV P [.pointer (some ⟨X, 0, none⟩)] w') => cexps_any (w := w') hc (h.next hx) (pN t.vt) 55 #[.pointer (some ⟨P, 0, none⟩)] _ (clo_names1 W0 x X M D t d P) ⟨h.next hx, hb⟩ (fun q hq => (hok.eqs q hq).e))
  have HTHR := Lib.hid (fun w' (hx : Ext w w') n (hn : n.size ≤ maxLen) => cthere_any (h.next hx) n hn)
  obtain ⟨y, hy⟩ : ∃ y, y = x := ⟨_, rfl⟩
  have HKC : Hid (KC W0 y X M D t d w) := Lib.hid (by rw [hy]; exact h)
  have HKC0 := Lib.hid h
  have HOK := Lib.hid hok
  clear hQ hR h hok
  obtain ⟨iv, ov, lv, ev⟩ := x
  obtain ⟨qs1, h1⟩ := hc.ins
  obtain ⟨qs2, h2⟩ := hc.outs
  obtain ⟨qs3, h3⟩ := hc.locals
  have h4 := hc.eqs
  obtain ⟨p1, c1, e1, hd1, hm1⟩ := h1.slice
  obtain ⟨p2, c2, e2, hd2, hm2⟩ := h2.slice
  obtain ⟨p3, c3, e3, hd3, hm3⟩ := h3.slice
  obtain ⟨p4, c4, e4, hd4, hm4⟩ := h4.slice
  simp only at e1 e2 e3 e4
  subst e1 e2 e3 e4
  simp only at h1 h2 h3 h4
  obtain ⟨n1, hn1⟩ : ∃ n, n = c.ins.length := ⟨_, rfl⟩
  obtain ⟨n2, hn2⟩ : ∃ n, n = c.outs.length := ⟨_, rfl⟩
  obtain ⟨n3, hn3⟩ : ∃ n, n = c.locals.length := ⟨_, rfl⟩
  obtain ⟨n4, hn4⟩ : ∃ n, n = c.eqs.length := ⟨_, rfl⟩
  have HN := Lib.hid (And.intro hn1 (And.intro hn2 (And.intro hn3 hn4)))
  have hcI1 : (c1 : Int) ≤ 9223372036854775807 := by unfold maxLen at hm1; omega
  have hcI2 : (c2 : Int) ≤ 9223372036854775807 := by unfold maxLen at hm2; omega
  have hcI3 : (c3 : Int) ≤ 9223372036854775807 := by unfold maxLen at hm3; omega
  have hcI4 : (c4 : Int) ≤ 9223372036854775807 := by unfold maxLen at hm4; omega
  rw [← hn1] at h1 hd1
  rw [← hn2] at h2 hd2
  rw [← hn3] at h3 hd3
  rw [← hn4] at h4 hd4
  simp only [← hn1, ← hn2, ← hn3, ← hn4] at HVS HKC0 hl hle hy
  have H1 := Lib.hid h1
  have H2 := Lib.hid h2
  have H3 := Lib.hid h3
  have HE := Lib.hid h4
  obtain ⟨hl1, hl2, hl3⟩ := hl
  have gl := HKC0.out.box.lt
  clear hc h1 h2 h3 h4 hn1 hn2 hn3 hn4 hm1 hm2 hm3 hm4
  have g0 := HKC0.out.box.cells 0 _ rfl
  have g1 := HKC0.out.box.cells 1 _ rfl
  have g2 := HKC0.out.box.cells 2 _ rfl
  have g3 := HKC0.out.box.cells 3 _ rfl
  have HY := Lib.hid hy
  clear hy
  have hmk := @run_makeMap Try.prog
  go_enter Try.func34, Try.ntmps34
  go_upto_region 2 with fail
  obtain ⟨P, hP⟩ : ∃ z, z = w.heap.size := ⟨_, rfl⟩
  have hsm : SM Try.prog 9 (P + 1) [] ((w.alloc (.cells #[.pointer (some ⟨X, 0, none⟩)] 76)).alloc (.map #[] 0)) := by
    have := SM.made Try.prog 9 (w.alloc (.cells #[.pointer (some ⟨X, 0, none⟩)] 76))
    rw [hP]
    simpa using this
  have hbp : BoxV P [.pointer (some ⟨X, 0, none⟩)] ((w.alloc (.cells #[.pointer (some ⟨X, 0, none⟩)] 76)).alloc (.map #[] 0)) := by
    rw [hP]
    exact (BoxV.of_row (heap_alloc_last w _)).ext ((Ext.refl _).alloc _)
  have hxa : Ext w ((w.alloc (.cells #[.pointer (some ⟨X, 0, none⟩)] 76)).alloc (.map #[] 0)) := ((Ext.refl w).alloc _).alloc _
  have HPW : Hid (P = w.heap.size) := Lib.hid hP
  rw [← hP]
  clear hP hmk
  generalize ((w.alloc (.cells #[.pointer (some ⟨X, 0, none⟩)] 76)).alloc (.map #[] 0)) = wa at hsm hbp hxa ⊢
  obtain ⟨O, hO⟩ : ∃ z, z = P + 1 := ⟨_, rfl⟩
  rw [← hO] at hsm ⊢
  have HO0 : Hid (SM Try.prog 9 O [] wa ∧ BoxV P [.pointer (some ⟨X, 0, none⟩)] wa ∧ P ≠ O ∧ w.heap.size ≤ O) := Lib.hid ⟨hsm, hbp, by omega, by rw [hO, HPW.out]; omega⟩
  have HWA := Lib.hid hxa
  have xa := hxa.cell g1
  have xb := hxa.cell g2
  have xp := hbp.cells 0 _ rfl
  have gl2 := Nat.lt_of_lt_of_le gl hxa.size
  have gpl := hbp.lt
  clear hO hsm hbp hxa g0 g1 g2 g3 gl
  obtain ⟨k1, hk1⟩ : ∃ k, k = vrCells c.outs qs2 := ⟨_, rfl⟩
  obtain ⟨k2, hk2⟩ : ∃ k, k = vrCells c.locals qs3 := ⟨_, rfl⟩
  have HA1 : Hid (SlC wa (.slice p2 n2 c2) n2 k1 ∧ (∀ u ∈ k1, u.oneCell' = true) ∧ k1.length = n2 * 3) := Lib.hid (by
    have h := H2.out.row.ext (HKC.out.ext.trans HWA.out)
    have hl := vrCells_len c.outs qs2 H2.out.len
    have ho := H2.out.one
    rw [← hk1] at h hl ho
    rw [← HN.out.2.1] at h hl
    exact ⟨h, ho, hl⟩)
  have HA2 : Hid (SlC wa (.slice p3 n3 c3) n3 k2 ∧ (∀ u ∈ k2, u.oneCell' = true) ∧ k2.length = n3 * 3) := Lib.hid (by
    have h := H3.out.row.ext (HKC.out.ext.trans HWA.out)
    have hl := vrCells_len c.locals qs3 H3.out.len
    have ho := H3.out.one
    rw [← hk2] at h hl ho
    rw [← HN.out.2.2.1] at h hl
    exact ⟨h, ho, hl⟩)
  have HKK := Lib.hid (And.intro hk1 hk2)
  have hq0 : wa.cell? ⟨X, 1, none⟩ = some (.slice p2 n2 c2) ∧ wa.cell? ⟨X, 2, none⟩ = some (.slice p3 n3 c3) ∧ wa.cell? ⟨P, 0, none⟩ = some (.pointer (some ⟨X, 0, none⟩)) := ⟨xa, xb, xp⟩
  have HQQ : Hid (∀ w', Ext wa w' → w'.cell? ⟨X, 1, none⟩ = some (.slice p2 n2 c2) ∧ w'.cell? ⟨X, 2, none⟩ = some (.slice p3 n3 c3) ∧ w'.cell? ⟨P, 0, none⟩ = some (.pointer (some ⟨X, 0, none⟩))) := Lib.hid (fun w' hx => ⟨hx.cell xa, hx.cell xb, hx.cell xp⟩)
  clear hk1 hk2 xa xb xp
  go_region_held3 (fun w' => w'.cell? ⟨X, 1, none⟩ = some (.slice p2 n2 c2) ∧ w'.cell? ⟨X, 2, none⟩ = some (.slice p3 n3 c3) ∧ w'.cell? ⟨P, 0, none⟩ = some (.pointer (some ⟨X, 0, none⟩)))
    (first | (with_reducible exact hq2) | (with_reducible exact hq1) | (with_reducible exact hq0) | exact HQQ.out _ ((Ext.refl wa).drew))
    (first
      | (refine step_append_slc _ rfl (.const (.slice none 0 0)) (.tmp 17) 23 rfl wa.heap.size 30 zV 3 48 Try.underlying23 infoVar rfl (by decide) (.slice none 0 0) 0 [] rfl (own_nil _ _ _ _) _ n2 k1 rfl (HA1.out.1.ext (Ext.refl wa).drew) HA1.out.2.2 HA1.out.2.1 (by unfold maxLen; omega) (by omega) (Nat.le_refl _) ?_; intro v1 w1 hown1 hg1 hat1; have hX1 : Ext wa w1 := ((Ext.refl wa).drew).trans (ext_grown_nil hg1); have hq1 := HQQ.out w1 hX1; clear hg1 hat1)
      | (refine step_append_slc _ rfl (.tmp 18) (.tmp 23) 23 rfl wa.heap.size 30 zV 3 48 Try.underlying23 infoVar rfl (by decide) v1 (0 + n2) ([] ++ k1) rfl hown1 _ n3 k2 rfl (HA2.out.1.ext hX1) HA2.out.2.2 HA2.out.2.1 (by unfold maxLen; omega) (by omega) hX1.size ?_; intro v2 w2 hown2 hg2 hat2; have hX2 : Ext wa w2 := (Kb.grown (S := v1.ownBlock.toList) hg2 (fun g hg => Option.mem_toList.2 hg)).ext hX1 (fun g hg => (hown1.lt g (Option.mem_toList.1 hg)).1); have hq2 := HQQ.out w2 hX2; have HO := Lib.hid (And.intro hown2 hX2); obtain ⟨pv, nvx, cv, hv2⟩ := own_slice3 hown2; subst hv2; clear hown2 hg2 hat2))
  obtain ⟨l, hll⟩ : ∃ l, l = c.outs ++ c.locals := ⟨_, rfl⟩
  have hnvx : nvx = l.length := by
    obtain ⟨a', c', e, -⟩ := SlC.of_owns HO.out.1
    simp only [Value.slice.injEq] at e
    rw [e.2.1, hll, List.length_append, HN.out.2.1, HN.out.2.2.1]
    omega
  obtain ⟨qs, hqs⟩ : ∃ q, q = qs2 ++ qs3 := ⟨_, rfl⟩
  have HV : Hid (VsIn W0 w2 (.slice pv nvx cv) l qs) := Lib.hid (by
    have h := SlC.of_owns HO.out.1
    rw [HKK.out.1, HKK.out.2] at h
    subst hll hqs
    exact (H2.out.ext (Ext.refl _)).app2 (H3.out.ext (Ext.refl _)) h (by rw [HN.out.2.1, HN.out.2.2.1, List.length_append]; omega) hnvx)
  have HOWN : Hid (w2.ownsRow wa.heap.size 30 3 (.slice pv nvx cv) nvx (vrCells l qs)) := Lib.hid (by
    have h := HO.out.1
    have e1 : vrCells l qs = [] ++ k1 ++ k2 := by rw [hll, hqs, vrCells_app _ _ _ _ H2.out.len, HKK.out.1, HKK.out.2]; rfl
    have e2 : 0 + n2 + n3 = nvx := by rw [hnvx, hll, List.length_append, HN.out.2.1, HN.out.2.2.1]; omega
    rw [e1]
    rw [e2] at h
    exact h)
  have hnvb : nvx ≤ n2 + n3 := by
    rw [hnvx, hll, List.length_append, HN.out.2.1, HN.out.2.2.1]; omega
  have HLL := Lib.hid hll
  have hnv := hnvx
  clear hll hqs hnvx hX1 hX2 hq0 hq1 hq2 hown1
  have HNV := Lib.hid hnv
  clear hnv
  obtain ⟨pz, cz, e1, hdv, hmv⟩ := HV.out.slice
  simp only [Value.slice.injEq] at e1
  have hcv : (cv : Int) ≤ 9223372036854775807 := by rw [e1.2.2]; unfold maxLen at hmv; omega
  rw [← e1.2.2] at hdv
  rw [← HNV.out] at hdv
  clear e1 hmv
  have HPO : Hid (P < wa.heap.size ∧ O < wa.heap.size) := Lib.hid ⟨HO0.out.2.1.lt, HO0.out.1.lt⟩
  have HNM : Hid (∀ v ∈ l, v.name.size ≤ maxLen) := Lib.hid (fun v hv => by
    rw [HLL.out] at hv
    rcases List.mem_append.1 hv with h | h
    · exact (HOK.out.outs v h).name
    · exact (HOK.out.locals v h).name)
  have hnvb2 : nvx ≤ 60000 := by omega
  go_upto_region 3 with fail
  go_loopw [26] (fun i wr => ∃ (j : Nat) (od : DT), j ≤ nvx ∧ i = .int .i64 (j : Int) ∧ od.length = j ∧ Hid (SM Try.prog 9 O (dtL od) wr ∧ Kb [O] w2 wr) ∧ Hid ((ownL l).reverse = (ownL (l.drop j)).reverse ++ od)) (fun i _ => nvx - (intOf i).toNat)
  case atStart => exact ⟨0, [], Nat.zero_le _, rfl, rfl, Lib.hid ⟨HO0.out.1.ext HO.out.2, Kb.refl _ _⟩, Lib.hid (by simp)⟩
  case round =>
    obtain ⟨j, od, hj, rfl, hol, HS, HJ⟩ := hrel
    by_cases hlt : j < nvx
    · have hji : (j : Int) < (nvx : Int) := Int.ofNat_lt.2 hlt
      have hxl : Ext wr wr := Ext.refl _
      have HV : Hid (VsIn W0 wr (.slice pv nvx cv) l qs) := Lib.hid (by
        have h1 := HS.out.2.row HOWN.out (fun g hg e => by
          have h2 := (HOWN.out.lt g e).1
          have h3 := HPO.out.2
          simp at hg
          omega)
        have h4 := SlC.of_owns h1
        rw [HNV.out] at h4 ⊢
        exact ⟨HV.out.len, h4, HV.out.clk⟩)
      obtain ⟨v, hv⟩ : ∃ v, (l)[j]? = some v := ⟨_, List.getElem?_eq_getElem (by rw [← HNV.out]; exact hlt)⟩
      obtain ⟨bv_, ov_, pq, cq, hpe, hqv, v0_, v1_, v2_, hev, hvl⟩ := (HV.out.ext hxl).at hv
      subst hpe
      obtain ⟨mq, hnq⟩ : ∃ n, n = v.clk.length := ⟨_, rfl⟩
      rw [← hnq] at v2_ hev hqv
      have hjv : j < cv := by omega
      have HVV := Lib.hid (And.intro hv (And.intro hev (And.intro hnq hqv)))
      have hxy : Ext wr (wr.alloc (.cells #[.string v.name, .int .i64 v.kind, .slice pq mq cq] 30)) := (Ext.refl wr).alloc _
      have hby : BoxV wr.heap.size [.string v.name, .int .i64 v.kind, .slice pq mq cq] (wr.alloc (.cells #[.string v.name, .int .i64 v.kind, .slice pq mq cq] 30)) := BoxV.of_row (heap_alloc_last wr _)
      have HXY := Lib.hid hxy
      clear hv hev hnq hqv
      go_upto_region 5 with fail
      generalize (wr.alloc (.cells #[.string v.name, .int .i64 v.kind, .slice pq mq cq] 30)) = wy at hby hxy HXY ⊢
      generalize wr.heap.size = Y at hby ⊢
      have d0 := hby.cells 0 _ rfl
      have d1 := hby.cells 1 _ rfl
      have d2 := hby.cells 2 _ rfl
      have hyl := hby.lt
      clear hby hxy v0_ v1_ v2_ hvl
      have htl2 : od.length ≤ 100000 := by omega
      obtain ⟨w9, hrun, hm9, hg9⟩ := (HS.out.1.ext HXY.out).put Try.underlying9 Try.underlying68 (by unfold dtL maxLen; simp; omega) (HNM.out v (List.mem_of_getElem? HVV.out.1)) (.int .i64 1)
      have hk9 : Kb [O] wy w9 := Kb.grown hg9 (fun g hg => by simp at hg; simp [hg])
      have H9 := Lib.hid (And.intro hm9 hk9)
      clear hm9 hk9 hg9
      go_wp2
      refine ⟨⟨j + 1, (v.name, 1) :: od, by omega, by go_num, by simp; omega, Lib.hid ⟨H9.out.1, (HS.out.2.trans (Kb.of_ext HXY.out)).trans H9.out.2⟩, Lib.hid ?_⟩, by simp [intOf]; omega⟩
      rw [HJ.out, drop_at HVV.out.1]
      simp [ownL]
    · have hji : ¬ (j : Int) < (nvx : Int) := fun e => hlt (Int.ofNat_lt.1 e)
      obtain rfl : j = nvx := by omega
      have HOD : Hid (ownC c = od) := Lib.hid (by
        have h1 := HJ.out
        rw [HNV.out, List.drop_length] at h1
        have h2 : ownC c = (ownL l).reverse := by rw [HLL.out]; rfl
        rw [h2, h1]
        rfl)
      have HPB : Hid (BoxV P [.pointer (some ⟨X, 0, none⟩)] wr ∧ KC W0 y X M D t d wr) := Lib.hid (by
        have hx0 : Ext w wr := HS.out.2.ext (HWA.out.trans HO.out.2) (by simpa using HO0.out.2.2.2)
        refine ⟨(HO0.out.2.1.ext HO.out.2).kb HS.out.2 (by simpa using HO0.out.2.2.1), HKC.out.next hx0⟩)
      have HEW : Hid (Ext w wr) := Lib.hid (HS.out.2.ext (HWA.out.trans HO.out.2) (by simpa using HO0.out.2.2.2))
      have g3 := HPB.out.2.box.cells 3 _ rfl
      have gl := HPB.out.2.box.lt
      rw [HY.out] at g3
      have xp := HPB.out.1.cells 0 _ rfl
      have gpl := HPB.out.1.lt
      have HSM := Lib.hid HS.out.1
      obtain ⟨wq, hwq⟩ : ∃ x, x = wr := ⟨_, rfl⟩
      subst hwq
      go_upto_region 8 with fail
      have HQA : Hid (namesC t.vt c = ((c.eqs.all fun q => nameQ t.vt od q) && ((c.vars.all fun v => v.clk.all fun e => thereT t.vt e.1) && expsC (pN t.vt) c))) := Lib.hid (by
        unfold namesC
        rw [HOD.out, Bool.and_assoc]
        rfl)
      go_loopw [40] (fun i wr => ∃ k : Nat, k ≤ n4 ∧ i = .int .i64 (k : Int) ∧ Hid (Ext wq wr) ∧ Hid ((c.eqs.all fun q => nameQ t.vt od q) = (c.eqs.drop k).all fun q => nameQ t.vt od q)) (fun i _ => n4 - (intOf i).toNat)
      case atStart => exact ⟨0, Nat.zero_le _, rfl, Lib.hid (Ext.refl _), Lib.hid rfl⟩
      case round =>
        obtain ⟨k, hk, rfl, HS2, HJ2⟩ := hrel
        by_cases hlt2 : k < n4
        · have hji2 : (k : Int) < (n4 : Int) := Int.ofNat_lt.2 hlt2
          have hxw : Ext W0 wr := HPB.out.2.ext.trans HS2.out
          have xp := HS2.out.cell xp
          have gpl := Nat.lt_of_lt_of_le gpl HS2.out.size
          obtain ⟨q, hq⟩ : ∃ q, c.eqs[k]? = some q := ⟨_, List.getElem?_eq_getElem (by have := HN.out.2.2.2; omega)⟩
          obtain ⟨b, o, pk, ck, hpe, hkq, hcq, hbl⟩ := HE.out.at hq
          subst hpe
          obtain ⟨nk, hnk⟩ : ∃ n, n = q.e.kids.length := ⟨_, rfl⟩
          rw [← hnk] at hkq hcq
          have hjc : k < c4 := by omega
          have hbl2 := Nat.lt_of_lt_of_le hbl hxw.size
          have c0_ := hxw.cell (hcq 0 _ rfl)
          have c1_ := hxw.cell (hcq 1 _ rfl)
          have c2_ := hxw.cell (hcq 2 _ rfl)
          have c3_ := hxw.cell (hcq 3 _ rfl)
          have c4_ := hxw.cell (hcq 4 _ rfl)
          have c5_ := hxw.cell (hcq 5 _ rfl)
          have c6_ := hxw.cell (hcq 6 _ rfl)
          have c7_ := hxw.cell (hcq 7 _ rfl)
          have c8_ := hxw.cell (hcq 8 _ rfl)
          have c9_ := hxw.cell (hcq 9 _ rfl)
          have c10_ := hxw.cell (hcq 10 _ rfl)
          have c11_ := hxw.cell (hcq 11 _ rfl)
          have c12_ := hxw.cell (hcq 12 _ rfl)
          rw [Nat.add_zero] at c0_
          have HX := Lib.hid (And.intro hq (And.intro hkq hnk))
          have xp := ((Ext.refl wr).alloc (.cells #[.int .i64 q.form, .string q.name, .int .i64 q.e.form, .int .i64 q.e.sub, .int .i64 q.e.kind, .int .i64 q.e.n, .string q.e.name, .slice pk nk ck, .int .i64 q.init, .string q.next, .string q.reset, .int .i64 q.period, .int .i64 q.offset] 35)).cell xp
          have gpl : P < (wr.alloc (.cells #[.int .i64 q.form, .string q.name, .int .i64 q.e.form, .int .i64 q.e.sub, .int .i64 q.e.kind, .int .i64 q.e.n, .string q.e.name, .slice pk nk ck, .int .i64 q.init, .string q.next, .string q.reset, .int .i64 q.period, .int .i64 q.offset] 35)).heap.size := by simp; omega
          have hxy : Ext wr (wr.alloc (.cells #[.int .i64 q.form, .string q.name, .int .i64 q.e.form, .int .i64 q.e.sub, .int .i64 q.e.kind, .int .i64 q.e.n, .string q.e.name, .slice pk nk ck, .int .i64 q.init, .string q.next, .string q.reset, .int .i64 q.period, .int .i64 q.offset] 35)) := (Ext.refl wr).alloc _
          have hby : BoxV wr.heap.size [.int .i64 q.form, .string q.name, .int .i64 q.e.form, .int .i64 q.e.sub, .int .i64 q.e.kind, .int .i64 q.e.n, .string q.e.name, .slice pk nk ck, .int .i64 q.init, .string q.next, .string q.reset, .int .i64 q.period, .int .i64 q.offset] (wr.alloc (.cells #[.int .i64 q.form, .string q.name, .int .i64 q.e.form, .int .i64 q.e.sub, .int .i64 q.e.kind, .int .i64 q.e.n, .string q.e.name, .slice pk nk ck, .int .i64 q.init, .string q.next, .string q.reset, .int .i64 q.period, .int .i64 q.offset] 35)) := BoxV.of_row (heap_alloc_last wr _)
          have HXY := Lib.hid hxy
          clear hq hkq hcq hbl hnk hxw
          go_upto_region 10 with fail
          generalize (wr.alloc (.cells #[.int .i64 q.form, .string q.name, .int .i64 q.e.form, .int .i64 q.e.sub, .int .i64 q.e.kind, .int .i64 q.e.n, .string q.e.name, .slice pk nk ck, .int .i64 q.init, .string q.next, .string q.reset, .int .i64 q.period, .int .i64 q.offset] 35)) = wy at hby hxy HXY xp gpl ⊢
          generalize wr.heap.size = Y at hby ⊢
          have d0 := hby.cells 0 _ rfl
          have d1 := hby.cells 1 _ rfl
          have d2 := hby.cells 2 _ rfl
          have d3 := hby.cells 3 _ rfl
          have d4 := hby.cells 4 _ rfl
          have d5 := hby.cells 5 _ rfl
          have d6 := hby.cells 6 _ rfl
          have d7 := hby.cells 7 _ rfl
          have d8 := hby.cells 8 _ rfl
          have d9 := hby.cells 9 _ rfl
          have d10 := hby.cells 10 _ rfl
          have d11 := hby.cells 11 _ rfl
          have d12 := hby.cells 12 _ rfl
          have hyl := hby.lt
          clear hby hxy hbl2 c0_ c1_ c2_ c3_ c4_ c5_ c6_ c7_ c8_ c9_ c10_ c11_ c12_
          have hoq := HOK.out.eqs q (List.mem_of_getElem? HX.out.1)
          have HAD := Lib.hid (all_drop (fun q : EQ => nameQ t.vt od q) HX.out.1)
          have hlk : (Instr.lookup 68 (.map (some O)) (.string q.name) false).run Try.prog wy = .ok (.int .i64 (lookD od q.name)) wy := by
            rw [← find_dt]
            exact (HSM.out.ext (HS2.out.trans HXY.out)).look Try.underlying9 Try.underlying68 (czeroI wy) hoq.name
          have HT1 : Hid (∀ wz, Ext wy wz → Calls Try.prog 53 #[.pointer (some ⟨X, 0, none⟩), .string q.next] wz (RetX (thereT t.vt q.next) wz)) := Lib.hid (fun wz hz => HTHR.out wz (HEW.out.trans ((HS2.out.trans HXY.out).trans hz)) _ hoq.next)
          have HT2 : Hid (∀ wz, Ext wy wz → Calls Try.prog 53 #[.pointer (some ⟨X, 0, none⟩), .string q.reset] wz (RetX (thereT t.vt q.reset) wz)) := Lib.hid (fun wz hz => HTHR.out wz (HEW.out.trans ((HS2.out.trans HXY.out).trans hz)) _ hoq.reset)
          have HNQ : Hid (nameQ t.vt od q = (decide (lookD od q.name ≠ 0) && (decide (q.form ≠ 2) || (thereT t.vt q.next && (decide (q.reset = eB) || thereT t.vt q.reset))))) := Lib.hid rfl
          obtain ⟨ld, hld⟩ : ∃ z, z = lookD od q.name := ⟨_, rfl⟩
          obtain ⟨b1, hb1⟩ : ∃ z, z = thereT t.vt q.next := ⟨_, rfl⟩
          obtain ⟨b2, hb2⟩ : ∃ z, z = thereT t.vt q.reset := ⟨_, rfl⟩
          rw [← hld] at hlk HNQ
          rw [← hb1] at HT1 HNQ
          rw [← hb2] at HT2 HNQ
          clear hld hb1 hb2 hoq
          have HNO : Hid (nameQ t.vt od q = false → R = false) := Lib.hid (fun e => by rw [HR.out, HQA.out, HJ2.out, HAD.out, e]; simp)
          have HYES : Hid (nameQ t.vt od q = true → (c.eqs.all fun q => nameQ t.vt od q) = (c.eqs.drop (k + 1)).all fun q => nameQ t.vt od q) := Lib.hid (fun e => by rw [HJ2.out, HAD.out, e]; simp)
          clear HAD
          by_cases a0 : ld = 0
          · have q0 : (ld == 0) = true := by simpa using a0
            have HC := HNO.out (by rw [HNQ.out]; simp [a0])
            have HCC := Lib.hid HC
            clear HC a0
            go_wp2_with (first | (go_at_call 53; (first | ((with_reducible refine (HT1.out _ (Ext.refl _)).mono ?_); rintro e2 w3 ⟨rfl, HA⟩; have d10 := HA.out.cell d10; have xp := HA.out.cell xp; have hyl := Nat.lt_of_lt_of_le hyl HA.out.size; have gpl := Nat.lt_of_lt_of_le gpl HA.out.size) | ((with_reducible refine (HT2.out _ HA.out).mono ?_); rintro e3 w4 ⟨rfl, HB⟩))) | fail)
            rw [HQ.out, HCC.out]
            exact ⟨rfl, Lib.hid ((HEW.out.trans (HS2.out.trans HXY.out)).trans (Ext.refl _))⟩
          · have q0 : (ld == 0) = false := by simpa using a0
            by_cases a2 : q.form = 2
            · have q2 : (q.form == 2) = true := by simpa using a2
              cases b1 with
              | false =>
                have HC := HNO.out (by rw [HNQ.out]; simp [a0, a2])
                have HCC := Lib.hid HC
                clear HC a0 a2
                go_wp2_with (first | (go_at_call 53; (first | ((with_reducible refine (HT1.out _ (Ext.refl _)).mono ?_); rintro e2 w3 ⟨rfl, HA⟩; have d10 := HA.out.cell d10; have xp := HA.out.cell xp; have hyl := Nat.lt_of_lt_of_le hyl HA.out.size; have gpl := Nat.lt_of_lt_of_le gpl HA.out.size) | ((with_reducible refine (HT2.out _ HA.out).mono ?_); rintro e3 w4 ⟨rfl, HB⟩))) | fail)
                rw [HQ.out, HCC.out]
                exact ⟨rfl, Lib.hid ((HEW.out.trans (HS2.out.trans HXY.out)).trans HA.out)⟩
              | true =>
                by_cases a3 : q.reset = ⟨#[]⟩
                · have r3 : q.reset.toList.isEmpty = true := by rw [ba_nil.2 a3]; rfl
                  have HC := Lib.hid (HYES.out (by rw [HNQ.out]; simp [a0, a2, a3]))
                  clear a0 a2
                  go_wp2_with (first | (go_at_call 53; (first | ((with_reducible refine (HT1.out _ (Ext.refl _)).mono ?_); rintro e2 w3 ⟨rfl, HA⟩; have d10 := HA.out.cell d10; have xp := HA.out.cell xp; have hyl := Nat.lt_of_lt_of_le hyl HA.out.size; have gpl := Nat.lt_of_lt_of_le gpl HA.out.size) | ((with_reducible refine (HT2.out _ HA.out).mono ?_); rintro e3 w4 ⟨rfl, HB⟩))) | fail)
                  exact ⟨⟨k + 1, by omega, by go_num, Lib.hid ((HS2.out.trans HXY.out).trans HA.out), HC⟩, by simp [intOf]; omega⟩
                · have r3 : q.reset.toList.isEmpty = false := by
                    cases h : q.reset.toList with
                    | nil => exact absurd (ba_nil.1 h) a3
                    | cons _ _ => rfl
                  have r4 : ¬ q.reset.toList = [] := fun e => a3 (ba_nil.1 e)
                  cases b2 with
                  | false =>
                    have HC := HNO.out (by rw [HNQ.out]; simp [a0, a2, a3])
                    have HCC := Lib.hid HC
                    clear HC a0 a2
                    go_wp2_with (first | (go_at_call 53; (first | ((with_reducible refine (HT1.out _ (Ext.refl _)).mono ?_); rintro e2 w3 ⟨rfl, HA⟩; have d10 := HA.out.cell d10; have xp := HA.out.cell xp; have hyl := Nat.lt_of_lt_of_le hyl HA.out.size; have gpl := Nat.lt_of_lt_of_le gpl HA.out.size) | ((with_reducible refine (HT2.out _ HA.out).mono ?_); rintro e3 w4 ⟨rfl, HB⟩))) | fail)
                    rw [HQ.out, HCC.out]
                    exact ⟨rfl, Lib.hid ((HEW.out.trans (HS2.out.trans HXY.out)).trans (HA.out.trans HB.out))⟩
                  | true =>
                    have HC := Lib.hid (HYES.out (by rw [HNQ.out]; simp [a0, a2, a3]))
                    clear a0 a2
                    go_wp2_with (first | (go_at_call 53; (first | ((with_reducible refine (HT1.out _ (Ext.refl _)).mono ?_); rintro e2 w3 ⟨rfl, HA⟩; have d10 := HA.out.cell d10; have xp := HA.out.cell xp; have hyl := Nat.lt_of_lt_of_le hyl HA.out.size; have gpl := Nat.lt_of_lt_of_le gpl HA.out.size) | ((with_reducible refine (HT2.out _ HA.out).mono ?_); rintro e3 w4 ⟨rfl, HB⟩))) | fail)
                    exact ⟨⟨k + 1, by omega, by go_num, Lib.hid ((HS2.out.trans HXY.out).trans (HA.out.trans HB.out)), HC⟩, by simp [intOf]; omega⟩
            · have q2 : (q.form == 2) = false := by simpa using a2
              have HC := Lib.hid (HYES.out (by rw [HNQ.out]; simp [a0, a2]))
              clear a0 a2
              go_wp2_with (first | (go_at_call 53; (first | ((with_reducible refine (HT1.out _ (Ext.refl _)).mono ?_); rintro e2 w3 ⟨rfl, HA⟩; have d10 := HA.out.cell d10; have xp := HA.out.cell xp; have hyl := Nat.lt_of_lt_of_le hyl HA.out.size; have gpl := Nat.lt_of_lt_of_le gpl HA.out.size) | ((with_reducible refine (HT2.out _ HA.out).mono ?_); rintro e3 w4 ⟨rfl, HB⟩))) | fail)
              exact ⟨⟨k + 1, by omega, by go_num, Lib.hid ((HS2.out.trans HXY.out).trans (Ext.refl _)), HC⟩, by simp [intOf]; omega⟩
        · have hji2 : ¬ (k : Int) < (n4 : Int) := fun e => hlt2 (Int.ofNat_lt.1 e)
          obtain rfl : k = n4 := by omega
          have HB1 : Hid (namesC t.vt c = ((c.vars.all fun v => v.clk.all fun e => thereT t.vt e.1) && expsC (pN t.vt) c)) := Lib.hid (by
            rw [HQA.out, HJ2.out, HN.out.2.2.2, List.drop_length]
            rfl)
          have HEW3 := Lib.hid (HEW.out.trans HS2.out)
          have hkc3 := HPB.out.2.next HS2.out
          have g0 := hkc3.box.cells 0 _ rfl
          have g1 := hkc3.box.cells 1 _ rfl
          have g2 := hkc3.box.cells 2 _ rfl
          have g3 := hkc3.box.cells 3 _ rfl
          rw [HY.out] at g0 g1 g2 g3
          have gl := hkc3.box.lt
          have xp := HS2.out.cell xp
          have gpl := Nat.lt_of_lt_of_le gpl HS2.out.size
          clear hkc3
          obtain ⟨m, hm⟩ : ∃ l, l = c.vars := ⟨_, rfl⟩
          have HMM := Lib.hid hm
          obtain ⟨nm, hnm⟩ : ∃ n, n = m.length := ⟨_, rfl⟩
          have HNM2 := Lib.hid hnm
          have HF3 : Hid (Calls Try.prog 29 #[.agg #[.slice p1 n1 c1, .slice p2 n2 c2, .slice p3 n3 c3, .slice p4 k c4]] wr fun e w' => ∃ p cap qs, e = .returned (.slice p nm cap) ∧ Hid (VsIn W0 w' (.slice p nm cap) m qs ∧ Ext wr w')) := Lib.hid ((HVS.out wr HEW3.out).mono (fun e w' ⟨p, cap, qs, h1, h2⟩ => ⟨p, cap, qs, by rw [hnm, hm]; exact h1, Lib.hid (by rw [hnm, hm]; exact ⟨h2.out.1, h2.out.2.1⟩)⟩))
          clear hm hnm
          go_upto_region 14 with (first | (go_at_call 29; refine HF3.out.mono ?_; rintro e1 w5 ⟨pv5, cv5, qs5, rfl, H5⟩) | fail)
          have HV : Hid (VsIn W0 w5 (.slice pv5 nm cv5) m qs5) := Lib.hid H5.out.1
          obtain ⟨pz5, cz5, e5, hdv5, hmv5⟩ := HV.out.slice
          simp only [Value.slice.injEq] at e5
          have hcv5 : (cv5 : Int) ≤ 9223372036854775807 := by rw [e5.2.2]; unfold maxLen at hmv5; omega
          rw [← e5.2.2, ← HNM2.out] at hdv5
          have HPX : Hid (BoxV P [.pointer (some ⟨X, 0, none⟩)] w5 ∧ Ext w w5) := Lib.hid ⟨(HPB.out.1.ext HS2.out).ext H5.out.2, HEW3.out.trans H5.out.2⟩
          clear e5 hmv5 g0 g1 g2 g3 gl xp gpl
          go_loopw [80] (fun i wr => ∃ j : Nat, j ≤ nm ∧ i = .int .i64 (j : Int) ∧ Hid (Ext w5 wr) ∧ Hid ((c.vars.all fun v => v.clk.all fun e => thereT t.vt e.1) = (m.drop j).all fun v => v.clk.all fun e => thereT t.vt e.1)) (fun i _ => nm - (intOf i).toNat)
          case atStart => exact ⟨0, Nat.zero_le _, rfl, Lib.hid (Ext.refl _), Lib.hid (by rw [HMM.out]; rfl)⟩
          case round =>
            obtain ⟨j, hj, rfl, HS, HJ⟩ := hrel
            by_cases hlt : j < nm
            · have hji : (j : Int) < (nm : Int) := Int.ofNat_lt.2 hlt
              have hxl := HS.out
              obtain ⟨v, hv⟩ : ∃ v, (m)[j]? = some v := ⟨_, List.getElem?_eq_getElem (by rw [← HNM2.out]; exact hlt)⟩
              obtain ⟨bv_, ov_, pq, cq, hpe, hqv, v0_, v1_, v2_, hev, hvl⟩ := (HV.out.ext hxl).at hv
              subst hpe
              obtain ⟨mq, hnq⟩ : ∃ n, n = v.clk.length := ⟨_, rfl⟩
              rw [← hnq] at v2_ hev hqv
              have hjv : j < cv5 := by omega
              have HVV := Lib.hid (And.intro hv (And.intro hev (And.intro hnq hqv)))
              have hxy : Ext wr (wr.alloc (.cells #[.string v.name, .int .i64 v.kind, .slice pq mq cq] 30)) := (Ext.refl wr).alloc _
              have hby : BoxV wr.heap.size [.string v.name, .int .i64 v.kind, .slice pq mq cq] (wr.alloc (.cells #[.string v.name, .int .i64 v.kind, .slice pq mq cq] 30)) := BoxV.of_row (heap_alloc_last wr _)
              have HXY := Lib.hid hxy
              clear hv hev hnq hqv
              go_upto_region 16 with fail
              generalize (wr.alloc (.cells #[.string v.name, .int .i64 v.kind, .slice pq mq cq] 30)) = wy at hby hxy HXY ⊢
              generalize wr.heap.size = Y at hby ⊢
              have d0 := hby.cells 0 _ rfl
              have d1 := hby.cells 1 _ rfl
              have d2 := hby.cells 2 _ rfl
              have hyl := hby.lt
              clear hby hxy v0_ v1_ v2_ hvl
              have HAD := Lib.hid (all_drop (fun v : VR => v.clk.all fun e => thereT t.vt e.1) HVV.out.1)
              have HCE : Hid ((cq : Int) ≤ 9223372036854775807 ∧ mq ≤ cq) := Lib.hid (by
                obtain ⟨pz, cz, e1, h1, h2⟩ := HVV.out.2.1.slice
                simp only [Value.slice.injEq] at e1
                rw [e1.2.2]
                refine ⟨by unfold maxLen at h2; omega, by rw [HVV.out.2.2.1]; exact h1⟩)
              have hce1 := HCE.out.1
              have hce2 := HCE.out.2
              have HWY := Lib.hid (HPX.out.2.trans (HS.out.trans HXY.out))
              go_upto_region 17 with fail
              clear d0 d1 d2 hyl
              obtain ⟨wq6, hwq6⟩ : ∃ x, x = wy := ⟨_, rfl⟩
              subst hwq6
              go_loopw [87] (fun i wr => ∃ k : Nat, k ≤ mq ∧ i = .int .i64 (k : Int) ∧ Hid (Ext wq6 wr) ∧ Hid ((v.clk.all fun e => thereT t.vt e.1) = (v.clk.drop k).all fun e => thereT t.vt e.1)) (fun i _ => mq - (intOf i).toNat)
              case atStart => exact ⟨0, Nat.zero_le _, rfl, Lib.hid (Ext.refl _), Lib.hid rfl⟩
              case round =>
                obtain ⟨k3, hk3, rfl, HS6, HJ6⟩ := hrel
                by_cases hlt3 : k3 < mq
                · have hji3 : (k3 : Int) < (mq : Int) := Int.ofNat_lt.2 hlt3
                  have hxw : Ext W0 wr := HKC0.out.ext.trans (HWY.out.trans HS6.out)
                  have hkce : k3 < cq := by omega
                  obtain ⟨ed, hed⟩ : ∃ z, z = v.clk := ⟨_, rfl⟩
                  obtain ⟨g_, hg_⟩ : ∃ g, v.clk[k3]? = some g := ⟨_, List.getElem?_eq_getElem (by rw [← HVV.out.2.2.1]; exact hlt3)⟩
                  obtain ⟨be_, oe_, hpe, e0_, e1_, hel⟩ := (HVV.out.2.1.ext hxw).at hg_
                  subst hpe
                  clear ed hed
                  have HBP := Lib.hid (HPX.out.1.ext (HS.out.trans (HXY.out.trans HS6.out)))
                  have xp := HBP.out.cells 0 _ rfl
                  have gpl := HBP.out.lt
                  have xp := ((Ext.refl wr).alloc (.cells #[.string g_.1, .bool g_.2] 51)).cell xp
                  have gpl : P < (wr.alloc (.cells #[.string g_.1, .bool g_.2] 51)).heap.size := by simp; omega
                  have HXV := Lib.hid HXY.out
                  have HGG := Lib.hid hg_
                  clear hg_
                  have hxy : Ext wr (wr.alloc (.cells #[.string g_.1, .bool g_.2] 51)) := (Ext.refl wr).alloc _
                  have hby : BoxV wr.heap.size [.string g_.1, .bool g_.2] (wr.alloc (.cells #[.string g_.1, .bool g_.2] 51)) := BoxV.of_row (heap_alloc_last wr _)
                  have HXY := Lib.hid hxy
                  go_upto_region 19 with fail
                  generalize (wr.alloc (.cells #[.string g_.1, .bool g_.2] 51)) = wy at hby hxy HXY xp gpl ⊢
                  generalize wr.heap.size = Y2 at hby ⊢
                  have d0e := hby.cells 0 _ rfl
                  have d1e := hby.cells 1 _ rfl
                  have hyle := hby.lt
                  clear hby hxy e0_ e1_ hel
                  have hns : g_.1.size ≤ maxLen := by
                    have hv := List.mem_of_getElem? HVV.out.1
                    rw [HMM.out] at hv
                    unfold CP.vars at hv
                    rcases List.mem_append.1 hv with h | h
                    · rcases List.mem_append.1 h with h | h
                      · exact (HOK.out.ins v h).clk _ (List.mem_of_getElem? HGG.out)
                      · exact (HOK.out.outs v h).clk _ (List.mem_of_getElem? HGG.out)
                    · exact (HOK.out.locals v h).clk _ (List.mem_of_getElem? HGG.out)
                  have HXZ := Lib.hid (HWY.out.trans (HS6.out.trans HXY.out))
                  have HTE : Hid (Calls Try.prog 53 #[.pointer (some ⟨X, 0, none⟩), .string g_.1] wy (RetX (thereT t.vt g_.1) wy)) := Lib.hid (HTHR.out wy HXZ.out _ hns)
                  have HAE := Lib.hid (all_drop (fun e : ByteArray × Bool => thereT t.vt e.1) HGG.out)
                  obtain ⟨th, hth⟩ : ∃ z, z = thereT t.vt g_.1 := ⟨_, rfl⟩
                  rw [← hth] at HTE
                  have HTHB := Lib.hid hth
                  clear hns hth
                  cases th with
                  | false =>
                    have HCC : Hid (R = false) := Lib.hid (by rw [HR.out, HB1.out, HJ.out, HAD.out, HJ6.out, HAE.out, ← HTHB.out]; simp)
                    go_wp2_with (first | (go_at_call 53; refine HTE.out.mono ?_; rintro e7 w7 ⟨rfl, H7⟩) | fail)
                    rw [HQ.out, HCC.out]
                    exact ⟨rfl, Lib.hid (HXZ.out.trans H7.out)⟩
                  | true =>
                    have HCC : Hid ((v.clk.all fun e => thereT t.vt e.1) = (v.clk.drop (k3 + 1)).all fun e => thereT t.vt e.1) := Lib.hid (by rw [HJ6.out, HAE.out, ← HTHB.out]; simp)
                    go_wp2_with (first | (go_at_call 53; refine HTE.out.mono ?_; rintro e7 w7 ⟨rfl, H7⟩) | fail)
                    exact ⟨⟨k3 + 1, by omega, by go_num, Lib.hid (HS6.out.trans (HXY.out.trans H7.out)), HCC⟩, by simp [intOf]; omega⟩
                · have hji3 : ¬ (k3 : Int) < (mq : Int) := fun e => hlt3 (Int.ofNat_lt.1 e)
                  obtain rfl : k3 = mq := by omega
                  have HCC : Hid ((c.vars.all fun v => v.clk.all fun e => thereT t.vt e.1) = (m.drop (j + 1)).all fun v => v.clk.all fun e => thereT t.vt e.1) := Lib.hid (by
                    rw [HJ.out, HAD.out, HJ6.out, HVV.out.2.2.1, List.drop_length]; rfl)
                  go_wp2
                  exact ⟨⟨j + 1, by omega, by go_num, Lib.hid (HS.out.trans (HXY.out.trans HS6.out)), HCC⟩, by simp [intOf]; omega⟩
            · have hji : ¬ (j : Int) < (nm : Int) := fun e => hlt (Int.ofNat_lt.1 e)
              obtain rfl : j = nm := by omega
              have HBP := Lib.hid (HPX.out.1.ext HS.out)
              have xp := HBP.out.cells 0 _ rfl
              have gpl := HBP.out.lt
              have HX8 : Hid (Calls Try.prog 54 #[.pointer (some ⟨X, 0, none⟩), .func (.func 55) #[] #[.pointer (some ⟨P, 0, none⟩)]] wr (RetX R wr)) := Lib.hid (by
                have h1 := HEX.out P wr (HPX.out.2.trans HS.out) HBP.out
                have h2 : R = expsC (pN t.vt) c := by
                  rw [HR.out, HB1.out, HJ.out, HNM2.out, List.drop_length]; rfl
                rw [h2]
                exact h1)
              have hmf : ∀ wz, Sem.run Try.prog (Instr.makeFunc (.func 55) #[] #[.pointer (some ⟨P, 0, none⟩)]) wz = .ok (.func (.func 55) #[] #[.pointer (some ⟨P, 0, none⟩)]) wz := fun wz => rfl
              go_wp2_with (first | (go_at_call 54; refine HX8.out.mono ?_; rintro e9 w9 ⟨rfl, H9⟩) | fail)
              rw [HQ.out]
              exact ⟨rfl, Lib.hid ((HPX.out.2.trans HS.out).trans H9.out)⟩
end Go.Proofs.Ytmommjagndadjaa
namespace Go.Proofs.Ytmommjagndadjaa
open Go.RowKit Go.Maps
set_option linter.unusedSimpArgs false
set_option linter.unusedVariables false
set_option maxRecDepth 100000

set_option maxHeartbeats 16000000 in
theorem cforms_any {W0 : World} {c : CP} {x : S4} {X M D : Nat} {t : TQ} {d : DT} {w : World} (hc : CPIn W0 c x) (h : KC W0 x X M D t d w) (hok : okC c) :
    Calls Try.prog 36 #[.pointer (some ⟨X, 0, none⟩)] w (RetX (formsC t.vt c) w) := by
  obtain ⟨R, hR⟩ : ∃ R, R = formsC t.vt c := ⟨_, rfl⟩
  rw [← hR]
  obtain ⟨Q, hQ⟩ : ∃ Q, Q = RetX R w := ⟨_, rfl⟩
  rw [← hQ]
  have HQ := Lib.hid hQ
  have HR := Lib.hid hR
  have HEX := Lib.hid (fun w' (hx : Ext w w') => cexps_any (w := w') hc (h.next hx) pF 56 #[] _ (clo_forms1 W0) trivial (fun q hq => (hok.eqs q hq).e))
  have HKC := Lib.hid h
  have HOK := Lib.hid hok
  clear hQ hR h hok
  obtain ⟨iv, ov, lv, ev⟩ := x
  have h4 := hc.eqs
  obtain ⟨p4, c4, e4, hd4, hm4⟩ := h4.slice
  simp only at e4
  subst e4
  simp only at h4
  obtain ⟨n4, hn4⟩ : ∃ n, n = c.eqs.length := ⟨_, rfl⟩
  rw [← hn4] at h4 hd4 HKC
  have HN : Hid (True ∧ True ∧ True ∧ n4 = c.eqs.length) := Lib.hid ⟨trivial, trivial, trivial, hn4⟩
  have hcI4 : (c4 : Int) ≤ 9223372036854775807 := by unfold maxLen at hm4; omega
  have HE := Lib.hid h4
  have g3 := HKC.out.box.cells 3 _ rfl
  have gl := HKC.out.box.lt
  clear h4 hn4 hm4
  have HFA : Hid (formsC t.vt c = ((c.eqs.all fun q => formQ t.vt q) && expsC pF c)) := Lib.hid rfl
  clear hc
  go_enter Try.func36, Try.ntmps36
  go_upto_region 2 with fail
  go_loopw [11] (fun i wr => ∃ j : Nat, j ≤ n4 ∧ i = .int .i64 (j : Int) ∧ Hid (Ext w wr) ∧ Hid ((c.eqs.all fun q => formQ t.vt q) = (c.eqs.drop j).all fun q => formQ t.vt q)) (fun i _ => n4 - (intOf i).toNat)
  case atStart => exact ⟨0, Nat.zero_le _, rfl, Lib.hid (Ext.refl _), Lib.hid rfl⟩
  case round =>
    obtain ⟨j, hj, rfl, HS, HJ⟩ := hrel
    by_cases hlt : j < n4
    · have hji : (j : Int) < (n4 : Int) := Int.ofNat_lt.2 hlt
      have hxw : Ext W0 wr := HKC.out.ext.trans HS.out
      obtain ⟨q, hq⟩ : ∃ q, c.eqs[j]? = some q := ⟨_, List.getElem?_eq_getElem (by have := HN.out.2.2.2; omega)⟩
      obtain ⟨b, o, pk, ck, hpe, hkq, hcq, hbl⟩ := HE.out.at hq
      subst hpe
      obtain ⟨nk, hnk⟩ : ∃ n, n = q.e.kids.length := ⟨_, rfl⟩
      rw [← hnk] at hkq hcq
      have hjc : j < c4 := by omega
      have hbl2 := Nat.lt_of_lt_of_le hbl hxw.size
      have c0_ := hxw.cell (hcq 0 _ rfl)
      have c1_ := hxw.cell (hcq 1 _ rfl)
      have c2_ := hxw.cell (hcq 2 _ rfl)
      have c3_ := hxw.cell (hcq 3 _ rfl)
      have c4_ := hxw.cell (hcq 4 _ rfl)
      have c5_ := hxw.cell (hcq 5 _ rfl)
      have c6_ := hxw.cell (hcq 6 _ rfl)
      have c7_ := hxw.cell (hcq 7 _ rfl)
      have c8_ := hxw.cell (hcq 8 _ rfl)
      have c9_ := hxw.cell (hcq 9 _ rfl)
      have c10_ := hxw.cell (hcq 10 _ rfl)
      have c11_ := hxw.cell (hcq 11 _ rfl)
      have c12_ := hxw.cell (hcq 12 _ rfl)
      rw [Nat.add_zero] at c0_
      have HX := Lib.hid (And.intro hq (And.intro hkq hnk))
      have hxy : Ext wr (wr.alloc (.cells #[.int .i64 q.form, .string q.name, .int .i64 q.e.form, .int .i64 q.e.sub, .int .i64 q.e.kind, .int .i64 q.e.n, .string q.e.name, .slice pk nk ck, .int .i64 q.init, .string q.next, .string q.reset, .int .i64 q.period, .int .i64 q.offset] 35)) := (Ext.refl wr).alloc _
      have hby : BoxV wr.heap.size [.int .i64 q.form, .string q.name, .int .i64 q.e.form, .int .i64 q.e.sub, .int .i64 q.e.kind, .int .i64 q.e.n, .string q.e.name, .slice pk nk ck, .int .i64 q.init, .string q.next, .string q.reset, .int .i64 q.period, .int .i64 q.offset] (wr.alloc (.cells #[.int .i64 q.form, .string q.name, .int .i64 q.e.form, .int .i64 q.e.sub, .int .i64 q.e.kind, .int .i64 q.e.n, .string q.e.name, .slice pk nk ck, .int .i64 q.init, .string q.next, .string q.reset, .int .i64 q.period, .int .i64 q.offset] 35)) := BoxV.of_row (heap_alloc_last wr _)
      have HXY := Lib.hid hxy
      clear hq hkq hcq hbl hnk hxw
      go_upto_region 4 with fail
      generalize (wr.alloc (.cells #[.int .i64 q.form, .string q.name, .int .i64 q.e.form, .int .i64 q.e.sub, .int .i64 q.e.kind, .int .i64 q.e.n, .string q.e.name, .slice pk nk ck, .int .i64 q.init, .string q.next, .string q.reset, .int .i64 q.period, .int .i64 q.offset] 35)) = wy at hby hxy HXY ⊢
      generalize wr.heap.size = Y at hby ⊢
      have d0 := hby.cells 0 _ rfl
      have d1 := hby.cells 1 _ rfl
      have d2 := hby.cells 2 _ rfl
      have d3 := hby.cells 3 _ rfl
      have d4 := hby.cells 4 _ rfl
      have d5 := hby.cells 5 _ rfl
      have d6 := hby.cells 6 _ rfl
      have d7 := hby.cells 7 _ rfl
      have d8 := hby.cells 8 _ rfl
      have d9 := hby.cells 9 _ rfl
      have d10 := hby.cells 10 _ rfl
      have d11 := hby.cells 11 _ rfl
      have d12 := hby.cells 12 _ rfl
      have hyl := hby.lt
      clear hby hxy hbl2 c0_ c1_ c2_ c3_ c4_ c5_ c6_ c7_ c8_ c9_ c10_ c11_ c12_
      have HAD := Lib.hid (all_drop (fun q : EQ => formQ t.vt q) HX.out.1)
      have HNO : Hid (formQ t.vt q = false → R = false) := Lib.hid (fun e => by rw [HR.out, HFA.out, HJ.out, HAD.out, e]; simp)
      have HYES : Hid (formQ t.vt q = true → (c.eqs.all fun q => formQ t.vt q) = (c.eqs.drop (j + 1)).all fun q => formQ t.vt q) := Lib.hid (fun e => by rw [HJ.out, HAD.out, e]; simp)
      have HFQ : Hid (formQ t.vt q = if q.form = 1 then true else if q.form = 2 then isk (kindT t.vt q.name) q.init else if q.form = 3 then decide (1 ≤ q.period ∧ q.period ≤ 64 ∧ 0 ≤ q.offset ∧ q.offset < q.period) else false) := Lib.hid rfl
      have hoq := HOK.out.eqs q (List.mem_of_getElem? HX.out.1)
      have HXW := Lib.hid (HS.out.trans HXY.out)
      obtain ⟨nm_, pp, cc, hlk, -⟩ := (HKC.out.next HXW.out).lookA hoq.name
      have hlk2 := fun n' : Nat => hlk (wy.drewN n') ((Ext.refl wy).drewN n')
      have HIS : Hid (∀ w1, Calls Try.prog 47 #[.int .i64 (kindT t.vt q.name), .int .i64 q.init] w1 fun e w' => e = .returned (.bool (isk (kindT t.vt q.name) q.init)) ∧ w1 = w') := Lib.hid (fun w1 => bvIs_any _ _ w1)
      obtain ⟨ik, hik⟩ : ∃ z, z = isk (kindT t.vt q.name) q.init := ⟨_, rfl⟩
      rw [← hik] at HIS HFQ
      obtain ⟨kd, hkd⟩ : ∃ z, z = kindT t.vt q.name := ⟨_, rfl⟩
      rw [← hkd] at HIS hlk2
      have hkcw := HKC.out.next HXW.out
      have g4 := hkcw.box.cells 4 _ rfl
      have glw := hkcw.box.lt
      clear hlk hik hkd hoq HAD hkcw
      by_cases a1 : q.form = 1
      · have q1 : (q.form == 1) = true := by simpa using a1
        have HC := Lib.hid (HYES.out (by rw [HFQ.out]; simp [a1]))
        go_wp2_with fail
        exact ⟨⟨j + 1, by omega, by go_num, Lib.hid (HXW.out), HC⟩, by simp [intOf]; omega⟩
      · have q1 : (q.form == 1) = false := by simpa using a1
        by_cases a2 : q.form = 2
        · have q2 : (q.form == 2) = true := by simpa using a2
          cases ik with
          | false =>
            have HC := Lib.hid (HNO.out (by rw [HFQ.out]; simp [a1, a2]))
            go_upto_region 8 with fail
            (refine region_drew (by kernel_rfl) (by kernel_rfl) ?_; (repeat (go_big_quiet_step (exact in_drew (HIS.out _)))); refine wpQuiet_nil ?_; rintro _ ⟨nq, rfl⟩)
            go_wp2_with fail
            rw [HQ.out, HC.out]
            exact ⟨rfl, Lib.hid (HXW.out.drewN _)⟩
          | true =>
            have HC := Lib.hid (HYES.out (by rw [HFQ.out]; simp [a1, a2]))
            go_upto_region 8 with fail
            (refine region_drew (by kernel_rfl) (by kernel_rfl) ?_; (repeat (go_big_quiet_step (exact in_drew (HIS.out _)))); refine wpQuiet_nil ?_; rintro _ ⟨nq, rfl⟩)
            go_wp2_with fail
            exact ⟨⟨j + 1, by omega, by go_num, Lib.hid (HXW.out.drewN _), HC⟩, by simp [intOf]; omega⟩
        · have q2 : (q.form == 2) = false := by simpa using a2
          by_cases a3 : q.form = 3
          · have q3 : (q.form == 3) = true := by simpa using a3
            by_cases u1 : q.period < 1
            · have u1x : ¬ 1 ≤ q.period := by omega
              have HC := Lib.hid (HNO.out (by rw [HFQ.out]; simp [a1, a2, a3, u1x]))
              go_wp2_with fail
              rw [HQ.out, HC.out]
              exact ⟨rfl, Lib.hid (HXW.out)⟩
            · have u1x : 1 ≤ q.period := by omega
              by_cases u2 : 64 < q.period
              · have u2x : ¬ q.period ≤ 64 := by omega
                have HC := Lib.hid (HNO.out (by rw [HFQ.out]; simp [a1, a2, a3, u2x]))
                go_wp2_with fail
                rw [HQ.out, HC.out]
                exact ⟨rfl, Lib.hid (HXW.out)⟩
              · have u2x : q.period ≤ 64 := by omega
                by_cases u3 : q.offset < 0
                · have u3x : ¬ 0 ≤ q.offset := by omega
                  have HC := Lib.hid (HNO.out (by rw [HFQ.out]; simp [a1, a2, a3, u3x]))
                  go_wp2_with fail
                  rw [HQ.out, HC.out]
                  exact ⟨rfl, Lib.hid (HXW.out)⟩
                · have u3x : 0 ≤ q.offset := by omega
                  by_cases u4 : q.period ≤ q.offset
                  · have u4x : ¬ q.offset < q.period := by omega
                    have HC := Lib.hid (HNO.out (by rw [HFQ.out]; simp [a1, a2, a3, u4x]))
                    go_wp2_with fail
                    rw [HQ.out, HC.out]
                    exact ⟨rfl, Lib.hid (HXW.out)⟩
                  · have u4x : q.offset < q.period := by omega
                    have HC := Lib.hid (HYES.out (by rw [HFQ.out]; simp [a1, a2, a3, u1x, u2x, u3x, u4x]))
                    go_wp2_with fail
                    exact ⟨⟨j + 1, by omega, by go_num, Lib.hid (HXW.out), HC⟩, by simp [intOf]; omega⟩
          · have q3 : (q.form == 3) = false := by simpa using a3
            have HC := Lib.hid (HNO.out (by rw [HFQ.out]; simp [a1, a2, a3]))
            go_wp2_with fail
            rw [HQ.out, HC.out]
            exact ⟨rfl, Lib.hid (HXW.out)⟩
    · have hji : ¬ (j : Int) < (n4 : Int) := fun e => hlt (Int.ofNat_lt.1 e)
      obtain rfl : j = n4 := by omega
      have HX8 : Hid (Calls Try.prog 54 #[.pointer (some ⟨X, 0, none⟩), .func (.func 56) #[] #[]] wr (RetX R wr)) := Lib.hid (by
        have h1 := HEX.out wr HS.out
        have h2 : R = expsC pF c := by
          rw [HR.out, HFA.out, HJ.out, HN.out.2.2.2, List.drop_length]; rfl
        rw [h2]
        exact h1)
      go_wp2_with (first | (go_at_call 54; refine HX8.out.mono ?_; rintro e9 w9 ⟨rfl, H9⟩) | fail)
      rw [HQ.out]
      exact ⟨rfl, Lib.hid (HS.out.trans H9.out)⟩
end Go.Proofs.Ytmommjagndadjaa
namespace Go.Proofs.Ytmommjagndadjaa
open Go.RowKit Go.Maps
set_option linter.unusedSimpArgs false
set_option linter.unusedVariables false
set_option maxRecDepth 100000

set_option maxHeartbeats 16000000 in
theorem clong_any {W0 : World} {c : CP} {x : S4} {X M D : Nat} {t : TQ} {d : DT} {w : World} (hc : CPIn W0 c x) (h : KC W0 x X M D t d w) (hok : okC c) :
    Calls Try.prog 31 #[.pointer (some ⟨X, 0, none⟩)] w (RetX (longC c) w) := by
  obtain ⟨R, hR⟩ : ∃ R, R = longC c := ⟨_, rfl⟩
  rw [← hR]
  obtain ⟨Q, hQ⟩ : ∃ Q, Q = RetX R w := ⟨_, rfl⟩
  rw [← hQ]
  have HQ := Lib.hid hQ
  have HR := Lib.hid hR
  have HKC := Lib.hid h
  have HOK := Lib.hid hok
  clear hQ hR h hok
  obtain ⟨iv, ov, lv, ev⟩ := x
  obtain ⟨qs1, h1⟩ := hc.ins
  obtain ⟨qs2, h2⟩ := hc.outs
  obtain ⟨qs3, h3⟩ := hc.locals
  have h4 := hc.eqs
  obtain ⟨p1, c1, e1, hd1, hm1⟩ := h1.slice
  obtain ⟨p2, c2, e2, hd2, hm2⟩ := h2.slice
  obtain ⟨p3, c3, e3, hd3, hm3⟩ := h3.slice
  obtain ⟨p4, c4, e4, hd4, hm4⟩ := h4.slice
  simp only at e1 e2 e3 e4
  subst e1 e2 e3 e4
  simp only at h1 h2 h3 h4
  obtain ⟨n1, hn1⟩ : ∃ n, n = c.ins.length := ⟨_, rfl⟩
  obtain ⟨n2, hn2⟩ : ∃ n, n = c.outs.length := ⟨_, rfl⟩
  obtain ⟨n3, hn3⟩ : ∃ n, n = c.locals.length := ⟨_, rfl⟩
  obtain ⟨n4, hn4⟩ : ∃ n, n = c.eqs.length := ⟨_, rfl⟩
  have HN := Lib.hid (And.intro hn1 (And.intro hn2 (And.intro hn3 hn4)))
  have hcI1 : (c1 : Int) ≤ 9223372036854775807 := by unfold maxLen at hm1; omega
  have hcI2 : (c2 : Int) ≤ 9223372036854775807 := by unfold maxLen at hm2; omega
  have hcI3 : (c3 : Int) ≤ 9223372036854775807 := by unfold maxLen at hm3; omega
  have hcI4 : (c4 : Int) ≤ 9223372036854775807 := by unfold maxLen at hm4; omega
  rw [← hn1] at h1 hd1
  rw [← hn2] at h2 hd2
  rw [← hn3] at h3 hd3
  rw [← hn4] at h4 hd4
  have HE := Lib.hid h4
  simp only [← hn1, ← hn2, ← hn3, ← hn4] at HKC
  have g0 := HKC.out.box.cells 0 _ rfl
  have g1 := HKC.out.box.cells 1 _ rfl
  have g2 := HKC.out.box.cells 2 _ rfl
  have g3 := HKC.out.box.cells 3 _ rfl
  have gl := HKC.out.box.lt
  clear hc h1 h2 h3 h4 hn1 hn2 hn3 hn4 hm1 hm2 hm3 hm4
  have HRR : Hid (R = (decide (n4 ≤ 2000) && decide (n1 ≤ 2000) && decide (n2 ≤ 2000) && decide (n3 ≤ 2000) && decide (n1 + n2 + n3 ≤ 2000) && c.eqs.all fun q => decide (q.form ≠ 1) || fitsE q.e)) := Lib.hid (by rw [HR.out, HN.out.1, HN.out.2.1, HN.out.2.2.1, HN.out.2.2.2]; rfl)
  go_enter Try.func31, Try.ntmps31
  by_cases a1 : 2000 < (n4 : Int)
  · have HC : Hid (R = false) := Lib.hid (by rw [HRR.out, show decide (n4 ≤ 2000) = false from decide_eq_false (by omega)]; simp)
    go_wp2_with fail
    (refine region_drew (by kernel_rfl) (by kernel_rfl) ?_; (repeat (go_big_quiet_step (fail))); refine wpQuiet_nil ?_; rintro _ ⟨nq, rfl⟩)
    go_wp2_with fail
    rw [HQ.out, HC.out]
    exact ⟨rfl, Lib.hid (by first | exact Ext.refl w | exact (Ext.refl w).drew | exact (Ext.refl w).drewN _)⟩
  have a1n : decide (2000 < (n4 : Int)) = false := decide_eq_false a1
  by_cases a2 : 2000 < (n1 : Int)
  · have HC : Hid (R = false) := Lib.hid (by rw [HRR.out, show decide (n1 ≤ 2000) = false from decide_eq_false (by omega)]; simp)
    go_wp2_with fail
    (refine region_drew (by kernel_rfl) (by kernel_rfl) ?_; (repeat (go_big_quiet_step (fail))); refine wpQuiet_nil ?_; rintro _ ⟨nq, rfl⟩)
    go_wp2_with fail
    rw [HQ.out, HC.out]
    exact ⟨rfl, Lib.hid (by first | exact Ext.refl w | exact (Ext.refl w).drew | exact (Ext.refl w).drewN _)⟩
  have a2n : decide (2000 < (n1 : Int)) = false := decide_eq_false a2
  by_cases a3 : 2000 < (n2 : Int)
  · have HC : Hid (R = false) := Lib.hid (by rw [HRR.out, show decide (n2 ≤ 2000) = false from decide_eq_false (by omega)]; simp)
    go_wp2_with fail
    (refine region_drew (by kernel_rfl) (by kernel_rfl) ?_; (repeat (go_big_quiet_step (fail))); refine wpQuiet_nil ?_; rintro _ ⟨nq, rfl⟩)
    go_wp2_with fail
    rw [HQ.out, HC.out]
    exact ⟨rfl, Lib.hid (by first | exact Ext.refl w | exact (Ext.refl w).drew | exact (Ext.refl w).drewN _)⟩
  have a3n : decide (2000 < (n2 : Int)) = false := decide_eq_false a3
  by_cases a4 : 2000 < (n3 : Int)
  · have HC : Hid (R = false) := Lib.hid (by rw [HRR.out, show decide (n3 ≤ 2000) = false from decide_eq_false (by omega)]; simp)
    go_wp2_with fail
    (refine region_drew (by kernel_rfl) (by kernel_rfl) ?_; (repeat (go_big_quiet_step (fail))); refine wpQuiet_nil ?_; rintro _ ⟨nq, rfl⟩)
    go_wp2_with fail
    rw [HQ.out, HC.out]
    exact ⟨rfl, Lib.hid (by first | exact Ext.refl w | exact (Ext.refl w).drew | exact (Ext.refl w).drewN _)⟩
  have a4n : decide (2000 < (n3 : Int)) = false := decide_eq_false a4
  by_cases a5 : 2000 < (n1 : Int) + (n2 : Int) + (n3 : Int)
  · have HC : Hid (R = false) := Lib.hid (by rw [HRR.out, show decide (n1 + n2 + n3 ≤ 2000) = false from decide_eq_false (by omega)]; simp)
    go_wp2_with fail
    (refine region_drew (by kernel_rfl) (by kernel_rfl) ?_; (repeat (go_big_quiet_step (fail))); refine wpQuiet_nil ?_; rintro _ ⟨nq, rfl⟩)
    go_wp2_with fail
    rw [HQ.out, HC.out]
    exact ⟨rfl, Lib.hid (by first | exact Ext.refl w | exact (Ext.refl w).drew | exact (Ext.refl w).drewN _)⟩
  have a5n : decide (2000 < (n1 : Int) + (n2 : Int) + (n3 : Int)) = false := decide_eq_false a5
  have HRS : Hid (R = c.eqs.all fun q => decide (q.form ≠ 1) || fitsE q.e) := Lib.hid (by
    rw [HRR.out, show decide (n4 ≤ 2000) = true from decide_eq_true (by omega), show decide (n1 ≤ 2000) = true from decide_eq_true (by omega), show decide (n2 ≤ 2000) = true from decide_eq_true (by omega), show decide (n3 ≤ 2000) = true from decide_eq_true (by omega), show decide (n1 + n2 + n3 ≤ 2000) = true from decide_eq_true (by omega)]
    simp)
  clear HRR
  go_wp2_with fail
  (refine region_drew (by kernel_rfl) (by kernel_rfl) ?_; (repeat (go_big_quiet_step (fail))); refine wpQuiet_nil ?_; rintro _ ⟨nq, rfl⟩)
  go_upto_region 4 with fail
  go_loopw [68] (fun i wr => ∃ j : Nat, j ≤ n4 ∧ i = .int .i64 (j : Int) ∧ Hid (Ext w wr) ∧ Hid (R = (c.eqs.drop j).all fun q => decide (q.form ≠ 1) || fitsE q.e)) (fun i _ => n4 - (intOf i).toNat)
  case atStart => exact ⟨0, Nat.zero_le _, rfl, Lib.hid (by first | exact Ext.refl w | exact (Ext.refl w).drew | exact (Ext.refl w).drewN _), Lib.hid (by rw [HRS.out]; rfl)⟩
  case round =>
    obtain ⟨j, hj, rfl, HS, HJ⟩ := hrel
    by_cases hlt : j < n4
    · have hji : (j : Int) < (n4 : Int) := Int.ofNat_lt.2 hlt
      have hxw : Ext W0 wr := HKC.out.ext.trans HS.out
      clear hd1 hd2 hd3 hcI1 hcI2 hcI3 a2 a3 a4 a5 a2n a3n a4n a5n
      obtain ⟨q, hq⟩ : ∃ q, c.eqs[j]? = some q := ⟨_, List.getElem?_eq_getElem (by have := HN.out.2.2.2; omega)⟩
      obtain ⟨b, o, pk, ck, hpe, hkq, hcq, hbl⟩ := HE.out.at hq
      subst hpe
      obtain ⟨nk, hnk⟩ : ∃ n, n = q.e.kids.length := ⟨_, rfl⟩
      rw [← hnk] at hkq hcq
      have hjc : j < c4 := by omega
      have hbl2 := Nat.lt_of_lt_of_le hbl hxw.size
      have c0_ := hxw.cell (hcq 0 _ rfl)
      have c1_ := hxw.cell (hcq 1 _ rfl)
      have c2_ := hxw.cell (hcq 2 _ rfl)
      have c3_ := hxw.cell (hcq 3 _ rfl)
      have c4_ := hxw.cell (hcq 4 _ rfl)
      have c5_ := hxw.cell (hcq 5 _ rfl)
      have c6_ := hxw.cell (hcq 6 _ rfl)
      have c7_ := hxw.cell (hcq 7 _ rfl)
      have c8_ := hxw.cell (hcq 8 _ rfl)
      have c9_ := hxw.cell (hcq 9 _ rfl)
      have c10_ := hxw.cell (hcq 10 _ rfl)
      have c11_ := hxw.cell (hcq 11 _ rfl)
      have c12_ := hxw.cell (hcq 12 _ rfl)
      rw [Nat.add_zero] at c0_
      have HX := Lib.hid (And.intro hq (And.intro hkq hnk))
      have hxy : Ext wr (wr.alloc (.cells #[.int .i64 q.form, .string q.name, .int .i64 q.e.form, .int .i64 q.e.sub, .int .i64 q.e.kind, .int .i64 q.e.n, .string q.e.name, .slice pk nk ck, .int .i64 q.init, .string q.next, .string q.reset, .int .i64 q.period, .int .i64 q.offset] 35)) := (Ext.refl wr).alloc _
      have hby : BoxV wr.heap.size [.int .i64 q.form, .string q.name, .int .i64 q.e.form, .int .i64 q.e.sub, .int .i64 q.e.kind, .int .i64 q.e.n, .string q.e.name, .slice pk nk ck, .int .i64 q.init, .string q.next, .string q.reset, .int .i64 q.period, .int .i64 q.offset] (wr.alloc (.cells #[.int .i64 q.form, .string q.name, .int .i64 q.e.form, .int .i64 q.e.sub, .int .i64 q.e.kind, .int .i64 q.e.n, .string q.e.name, .slice pk nk ck, .int .i64 q.init, .string q.next, .string q.reset, .int .i64 q.period, .int .i64 q.offset] 35)) := BoxV.of_row (heap_alloc_last wr _)
      have HXY := Lib.hid hxy
      clear hq hkq hcq hbl hnk hxw
      go_upto_region 6 with fail
      generalize (wr.alloc (.cells #[.int .i64 q.form, .string q.name, .int .i64 q.e.form, .int .i64 q.e.sub, .int .i64 q.e.kind, .int .i64 q.e.n, .string q.e.name, .slice pk nk ck, .int .i64 q.init, .string q.next, .string q.reset, .int .i64 q.period, .int .i64 q.offset] 35)) = wy at hby hxy HXY ⊢
      generalize wr.heap.size = Y at hby ⊢
      have d0 := hby.cells 0 _ rfl
      have d1 := hby.cells 1 _ rfl
      have d2 := hby.cells 2 _ rfl
      have d3 := hby.cells 3 _ rfl
      have d4 := hby.cells 4 _ rfl
      have d5 := hby.cells 5 _ rfl
      have d6 := hby.cells 6 _ rfl
      have d7 := hby.cells 7 _ rfl
      have d8 := hby.cells 8 _ rfl
      have d9 := hby.cells 9 _ rfl
      have d10 := hby.cells 10 _ rfl
      have d11 := hby.cells 11 _ rfl
      have d12 := hby.cells 12 _ rfl
      have hyl := hby.lt
      clear hby hxy hbl2 c0_ c1_ c2_ c3_ c4_ c5_ c6_ c7_ c8_ c9_ c10_ c11_ c12_
      have HAD := Lib.hid (all_drop (fun q : EQ => decide (q.form ≠ 1) || fitsE q.e) HX.out.1)
      by_cases h1 : q.form = 1
      · have q1 : (q.form == 1) = true := by simpa using h1
        obtain ⟨b1, hb1⟩ : ∃ z, z = fitsE q.e := ⟨_, rfl⟩
        have HF : Hid (∀ wz, Ext wy wz → Calls Try.prog 51 #[.agg #[.int .i64 q.e.form, .int .i64 q.e.sub, .int .i64 q.e.kind, .int .i64 q.e.n, .string q.e.name, .slice pk nk ck]] wz (RetQ b1 wz)) := Lib.hid (fun wz hz => by
          have hx1 : Ext w wz := (HS.out.trans HXY.out).trans hz
          have h2 := fitsE_any q.e _ wz (HX.out.2.1.ext (HKC.out.ext.trans hx1))
          rw [hb1]
          exact h2)
        have HC1 : Hid (R = (b1 && (c.eqs.drop (j + 1)).all fun q => decide (q.form ≠ 1) || fitsE q.e)) := Lib.hid (by rw [HJ.out, HAD.out, hb1]; simp [h1])
        clear h1 hb1
        cases b1 with
        | false =>
          go_wp2_with (first | (go_at_call 51; refine (HF.out _ (Ext.refl _)).mono ?_; rintro e2 w2 ⟨rfl, H2⟩) | fail)
          rw [HQ.out, HC1.out]
          exact ⟨rfl, Lib.hid ((HS.out.trans HXY.out).trans H2.out)⟩
        | true =>
          go_wp2_with (first | (go_at_call 51; refine (HF.out _ (Ext.refl _)).mono ?_; rintro e2 w2 ⟨rfl, H2⟩) | fail)
          exact ⟨⟨j + 1, by omega, by go_num, Lib.hid ((HS.out.trans HXY.out).trans H2.out), Lib.hid (by rw [HC1.out]; simp)⟩, by simp [intOf]; omega⟩
      · have q1 : (q.form == 1) = false := by simpa using h1
        have HC1 : Hid (R = (c.eqs.drop (j + 1)).all fun q => decide (q.form ≠ 1) || fitsE q.e) := Lib.hid (by rw [HJ.out, HAD.out]; simp [h1])
        clear h1
        go_wp2_with fail
        exact ⟨⟨j + 1, by omega, by go_num, Lib.hid (HS.out.trans HXY.out), HC1⟩, by simp [intOf]; omega⟩
    · have hji : ¬ (j : Int) < (n4 : Int) := fun e => hlt (Int.ofNat_lt.1 e)
      obtain rfl : j = n4 := by omega
      have HC1 : Hid (R = true) := Lib.hid (by rw [HJ.out, HN.out.2.2.2, List.drop_length]; rfl)
      go_wp2
      rw [HQ.out, HC1.out]
      exact ⟨rfl, HS⟩
end Go.Proofs.Ytmommjagndadjaa

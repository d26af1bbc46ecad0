/-
  The walk: each goes over an expression's parts, asking a function value that touches blocks of its own.
  Condition: the expression lies in memory.
  The walk: a name's equation is put behind what an equation hangs on.
  Condition: the maker's blocks lie in memory.
  The walk: what an expression's parts name is put behind what an equation hangs on.
  Condition: the maker's blocks lie in memory.
  The walk: what every equation hangs on.
  Condition: the program lies in memory.
-/
import Derived.Test.YtmommjagndadjaaJcF
import Derived.Test.YtmommjagndadjaaJcE
import Derived.Test.YtmommjagndadjaaJcI
import Derived.Test.YtmommjagndadjaaJcA
import Derived.Deep.OwnRows
namespace Go.Proofs.Ytmommjagndadjaa
open Go.RowKit
set_option linter.unusedSimpArgs false
set_option linter.unusedVariables false
set_option maxRecDepth 100000

section
variable {σ : Type}
mutual
theorem gpE_lim (lim : σ → Nat) (step : σ → CE → σ × Bool) (h : ∀ a e, lim (step a e).1 ≤ lim a + 1) : ∀ (e : CE) (a : σ), lim (gpE step e a).1 ≤ lim a + cntE e
  | .mk f s k n nm ks, a => by
    have h1 := h a (.mk f s k n nm ks)
    have h2 := gpL_lim lim step h ks (step a (.mk f s k n nm ks)).1
    rw [gpE, cntE]
    split
    · show lim (step a (.mk f s k n nm ks)).1 ≤ _
      omega
    · omega
theorem gpL_lim (lim : σ → Nat) (step : σ → CE → σ × Bool) (h : ∀ a e, lim (step a e).1 ≤ lim a + 1) : ∀ (l : List CE) (a : σ), lim (gpL step l a).1 ≤ lim a + cntL l
  | [], a => by rw [gpL]; exact Nat.le_add_right _ _
  | k :: ks, a => by
    have h1 := gpE_lim lim step h k a
    have h2 := gpL_lim lim step h ks (gpE step k a).1
    rw [gpL, cntL]
    split
    · show lim (gpE step k a).1 ≤ _
      omega
    · omega
end
end
def RetT {σ : Type} (B : World → Nat → Prop) (St : σ → World → Prop) (r : σ × Bool) (w : World) (e : Ending) (w' : World) : Prop :=
  e = .returned (.bool r.2) ∧ Hid (Kt B w w' ∧ St r.1 w')
/-- A function value that is asked of an expression's parts, with a state; B: the blocks that it may touch; lim: how often it may be asked still. -/
structure CloT {σ : Type} (W0 : World) (B : World → Nat → Prop) (St : σ → World → Prop) (lim : σ → Nat) (K : Nat) (step : σ → CE → σ × Bool) (fn : FuncId) (caps : Array Value) : Prop where
  st : ∀ a w w', St a w → Ext w w' → St a w'
  off : ∀ a w, St a w → ∀ k, B w k → W0.heap.size ≤ k ∧ k < w.heap.size
  same : ∀ a w w', St a w → Ext w w' → ∀ k, B w' k → B w k
  up : ∀ a e, lim (step a e).1 ≤ lim a + 1
  enter : ∀ args w, Sem.run Try.prog (callFunc fn args) w = .ok (.enter fn args) w
  call : ∀ a w e kv, Ext W0 w → St a w → lim a < K → KIn W0 e kv → okE e → Calls Try.prog fn (#[eVal e kv] ++ caps) w (RetT B St (step a e) w)
set_option maxHeartbeats 8000000 in
theorem ceachT_at {σ : Type} (W0 : World) (B : World → Nat → Prop) (St : σ → World → Prop) (lim : σ → Nat) (K : Nat) (step : σ → CE → σ × Bool) (fn : FuncId) (caps : Array Value) (HC : CloT W0 B St lim K step fn caps) :
    ∀ (N : Nat) (e : CE), SizeOf.sizeOf e < N → ∀ (kv : Value) (a : σ) (w : World), Ext W0 w → St a w → KIn W0 e kv → okE e → lim a + cntE e ≤ K →
    Calls Try.prog 45 #[eVal e kv, .func (.func fn) #[] caps] w (RetT B St (gpE step e a) w) := by
  intro N
  induction N with
  | zero => intro e h; omega
  | succ N ih =>
    intro e hN kv a w hx hst hk hok hlm
    have HLM := Lib.hid (And.intro hlm (cntE_eq e))
    clear hlm
    have HIH := Lib.hid ih
    have HW := Lib.hid (And.intro HC (And.intro hN (And.intro hx (And.intro hst (And.intro hk hok)))))
    obtain ⟨R, hR⟩ : ∃ R, R = gpE step e a := ⟨_, rfl⟩
    rw [← hR]
    obtain ⟨Q, hQ⟩ : ∃ Q, Q = RetT B St R w := ⟨_, rfl⟩
    rw [← hQ]
    have HQ := Lib.hid hQ
    have HR := Lib.hid hR
    obtain ⟨p, c, rfl, hkc, hcm⟩ := hk.slice
    obtain ⟨n, hn⟩ : ∃ n, n = e.kids.length := ⟨_, rfl⟩
    rw [← hn] at hkc ⊢
    have hcI : (c : Int) ≤ 9223372036854775807 := by unfold maxLen at hcm; omega
    clear hcm
    have HN := Lib.hid hn
    obtain ⟨f, hf⟩ : ∃ f, f = e.form := ⟨_, rfl⟩
    obtain ⟨s, hs⟩ : ∃ s, s = e.sub := ⟨_, rfl⟩
    obtain ⟨k, hk2⟩ : ∃ s, s = e.kind := ⟨_, rfl⟩
    obtain ⟨nn, hnn⟩ : ∃ s, s = e.n := ⟨_, rfl⟩
    obtain ⟨nm, hnm⟩ : ∃ s, s = e.name := ⟨_, rfl⟩
    have HE := Lib.hid (show eVal e (.slice p n c) = .agg #[.int .i64 f, .int .i64 s, .int .i64 k, .int .i64 nn, .string nm, .slice p n c] by rw [hf, hs, hk2, hnn, hnm]; rfl)
    rw [HE.out]
    have hcf := HC.enter
    clear hQ hR hn hf hs hk2 hnn hnm hx hst hk hok hN HC ih
    go_enter Try.func45, Try.ntmps45
    go_upto_region 1 with fail
    have hbx : BoxV w.heap.size [.int .i64 f, .int .i64 s, .int .i64 k, .int .i64 nn, .string nm, .slice p n c] (w.alloc (.cells #[.int .i64 f, .int .i64 s, .int .i64 k, .int .i64 nn, .string nm, .slice p n c] 33)) := BoxV.of_row (heap_alloc_last w _)
    have hxb : Ext w (w.alloc (.cells #[.int .i64 f, .int .i64 s, .int .i64 k, .int .i64 nn, .string nm, .slice p n c] 33)) := (Ext.refl w).alloc _
    have hXS : ¬ B (w.alloc (.cells #[.int .i64 f, .int .i64 s, .int .i64 k, .int .i64 nn, .string nm, .slice p n c] 33)) w.heap.size := fun e1 => absurd (HW.out.1.off a w HW.out.2.2.2.1 _ (HW.out.1.same a w _ HW.out.2.2.2.1 hxb _ e1)).2 (Nat.lt_irrefl _)
    generalize w.alloc (.cells #[.int .i64 f, .int .i64 s, .int .i64 k, .int .i64 nn, .string nm, .slice p n c] 33) = wb at hbx hxb hXS ⊢
    generalize w.heap.size = X at hbx hXS ⊢
    have HB := Lib.hid (And.intro hbx (And.intro hxb hXS))
    have p0 := hbx.cells 0 _ rfl
    have p1 := hbx.cells 1 _ rfl
    have p2 := hbx.cells 2 _ rfl
    have p3 := hbx.cells 3 _ rfl
    have p4 := hbx.cells 4 _ rfl
    have p5 := hbx.cells 5 _ rfl
    have hxl := hbx.lt
    obtain ⟨r, hr⟩ : ∃ r, r = step a e := ⟨_, rfl⟩
    have HF : Hid (Calls Try.prog fn (#[.agg #[.int .i64 f, .int .i64 s, .int .i64 k, .int .i64 nn, .string nm, .slice p n c]] ++ caps) wb (RetT B St r wb)) := Lib.hid (by
      have h1 := HW.out.2.2.2.2
      have h2 := HE.out
      rw [HN.out] at h2
      rw [hr, HN.out, ← h2]
      exact HW.out.1.call a wb e _ (HW.out.2.2.1.trans hxb) (HW.out.1.st a w wb HW.out.2.2.2.1 hxb) (by have := HLM.out; omega) h1.1 h1.2)
    clear hbx hxb hXS
    have HLM1 : Hid (lim r.1 + cntL e.kids ≤ K) := Lib.hid (by
      have h1 := HW.out.1.up a e
      have h2 := HLM.out
      rw [hr]; omega)
    have HRr := Lib.hid hr
    clear hr
    rcases r with ⟨a1, ok⟩
    cases ok with
    | false =>
      go_upto_region 2 with first | (refine HF.out.mono ?_; rintro e1 w1 ⟨rfl, H1⟩) | fail
      go_wp2
      rw [HQ.out]
      have h1 := gpE_no HRr.out
      rw [HR.out, h1]
      exact ⟨rfl, Lib.hid ⟨(Kt.of_ext HB.out.2.1 (HW.out.1.same _ _ _ HW.out.2.2.2.1 HB.out.2.1)).trans H1.out.1, H1.out.2⟩⟩
    | true =>
      go_upto_region 2 with first | (refine HF.out.mono ?_; rintro e1 w1 ⟨rfl, H1⟩; have q5 := H1.out.1.cell HB.out.2.2 p5; have hxl1 : X < w1.heap.size := Nat.lt_of_lt_of_le hxl H1.out.1.size) | fail
      go_wp2
      have hE1 : R = gpL step e.kids a1 := by
        rw [HR.out, gpE_yes HRr.out]
      have HE1 := Lib.hid hE1
      clear hE1
      go_loopw [14] (fun i wr => ∃ (k : Nat) (a' : σ), k ≤ n ∧ i = .int .i64 (k : Int) ∧ Hid (Kt B w1 wr ∧ St a' wr ∧ lim a' + cntL (e.kids.drop k) ≤ K) ∧ Hid (R = gpL step (e.kids.drop k) a')) (fun i _ => n - (intOf i).toNat)
      case atStart => exact ⟨0, a1, Nat.zero_le _, rfl, Lib.hid ⟨Kt.refl _ _, H1.out.2, HLM1.out⟩, Lib.hid (by rw [HE1.out]; rfl)⟩
      case round =>
        obtain ⟨j, a', hj, rfl, HS, HRR⟩ := hrel
        by_cases hlt : j < n
        · have hki : (j : Int) < (n : Int) := Int.ofNat_lt.2 hlt
          obtain ⟨x, hx⟩ : ∃ x, e.kids[j]? = some x := ⟨_, List.getElem?_eq_getElem (by have := HN.out; omega)⟩
          have hxw : Ext W0 wr := HS.out.1.ext (H1.out.1.ext (HW.out.2.2.1.trans HB.out.2.1) (fun k hk => (HW.out.1.off _ _ (HW.out.1.st _ _ _ HW.out.2.2.2.1 HB.out.2.1) k hk).1)) (fun k hk => (HW.out.1.off _ _ H1.out.2 k hk).1)
          have hkw := HW.out.2.2.2.2.1
          rw [← HN.out] at hkw
          obtain ⟨-, -, -, b, o, xv, rfl, hkx, c0, c1, c2, c3, c4, c5, hbl⟩ := hkw.at hx
          replace c0 := hxw.cell c0
          replace c1 := hxw.cell c1
          replace c2 := hxw.cell c2
          replace c3 := hxw.cell c3
          replace c4 := hxw.cell c4
          replace c5 := hxw.cell c5
          replace hbl := Nat.lt_of_lt_of_le hbl hxw.size
          have hjc : j < c := by omega
          obtain ⟨q, d, rfl, -, -⟩ := hkx.slice
          obtain ⟨m, hm⟩ : ∃ m, m = x.kids.length := ⟨_, rfl⟩
          have HX := Lib.hid (And.intro hx (And.intro hxw (And.intro hkx hm)))
          have HEX := Lib.hid (show eVal x (.slice q x.kids.length d) = .agg #[.int .i64 x.form, .int .i64 x.sub, .int .i64 x.kind, .int .i64 x.n, .string x.name, .slice q m d] by rw [hm]; rfl)
          rw [← hm] at c5
          clear hx hxw hkx hkw hm
          go_upto_region 6 with fail
          obtain ⟨r2, hr2⟩ : ∃ r2, r2 = gpE step x a' := ⟨_, rfl⟩
          have HR2 := Lib.hid hr2
          have hxa : Ext wr (wr.alloc (.cells #[.int .i64 x.form, .int .i64 x.sub, .int .i64 x.kind, .int .i64 x.n, .string x.name, .slice q m d] 33)) := (Ext.refl wr).alloc _
          have HXA := Lib.hid hxa
          have HF2 : Hid (Calls Try.prog 45 #[.agg #[.int .i64 x.form, .int .i64 x.sub, .int .i64 x.kind, .int .i64 x.n, .string x.name, .slice q m d], .func (.func fn) #[] caps] (wr.alloc (.cells #[.int .i64 x.form, .int .i64 x.sub, .int .i64 x.kind, .int .i64 x.n, .string x.name, .slice q m d] 33)) (RetT B St r2 (wr.alloc (.cells #[.int .i64 x.form, .int .i64 x.sub, .int .i64 x.kind, .int .i64 x.n, .string x.name, .slice q m d] 33)))) := Lib.hid (by
            rw [hr2, ← HEX.out]
            have hk1 := HX.out.2.2.1
            have hs1 := CE.size_kids e
            have hs2 := size_at HX.out.1
            have hN := HW.out.2.1
            refine HIH.out x (by omega) _ a' _ (HX.out.2.1.trans hxa) (HW.out.1.st a' _ _ HS.out.2.1 hxa) HX.out.2.2.1 (HW.out.2.2.2.2.2.kids.at HX.out.1) (by have h1 := HS.out.2.2; rw [cntL_drop HX.out.1] at h1; omega))
          have HLM2 : Hid (lim r2.1 + cntL (e.kids.drop (j + 1)) ≤ K) := Lib.hid (by
            have h1 := HS.out.2.2
            rw [cntL_drop HX.out.1] at h1
            have h2 := gpE_lim lim step HW.out.1.up x a'
            rw [hr2]; omega)
          clear hr2 hxa
          rcases r2 with ⟨a2, ok2⟩
          cases ok2 with
          | false =>
            go_wp2_with (first | (go_at_call 45; refine HF2.out.mono ?_; rintro e1 w2 ⟨rfl, H2⟩) | fail)
            rw [HQ.out]
            have h1 : R = (a2, false) := by rw [HRR.out, gpL_no HX.out.1 HR2.out]
            rw [h1]
            exact ⟨rfl, Lib.hid ⟨(((Kt.of_ext HB.out.2.1 (HW.out.1.same _ _ _ HW.out.2.2.2.1 HB.out.2.1)).trans H1.out.1).trans HS.out.1).trans ((Kt.of_ext HXA.out (HW.out.1.same _ _ _ HS.out.2.1 HXA.out)).trans H2.out.1), H2.out.2⟩⟩
          | true =>
            go_wp2_with (first | (go_at_call 45; refine HF2.out.mono ?_; rintro e1 w2 ⟨rfl, H2⟩) | fail)
            refine ⟨⟨j + 1, a2, by omega, by go_num, Lib.hid ⟨HS.out.1.trans ((Kt.of_ext HXA.out (HW.out.1.same _ _ _ HS.out.2.1 HXA.out)).trans H2.out.1), H2.out.2, HLM2.out⟩, Lib.hid ?_⟩, by simp [intOf]; omega⟩
            rw [HRR.out, gpL_yes HX.out.1 HR2.out]
        · have hki : ¬ (j : Int) < (n : Int) := fun e => hlt (Int.ofNat_lt.1 e)
          obtain rfl : j = n := by omega
          go_wp2
          rw [HQ.out]
          have h1 : R = (a', true) := by rw [HRR.out, gpL_end HN.out]
          rw [h1]
          exact ⟨rfl, Lib.hid ⟨((Kt.of_ext HB.out.2.1 (HW.out.1.same _ _ _ HW.out.2.2.2.1 HB.out.2.1)).trans H1.out.1).trans HS.out.1, HS.out.2.1⟩⟩
end Go.Proofs.Ytmommjagndadjaa
namespace Go.Proofs.Ytmommjagndadjaa
open Go.RowKit Go.Maps
set_option linter.unusedSimpArgs false
set_option linter.unusedVariables false
set_option maxRecDepth 100000

def on1 (d : DT) (n : ByteArray) : List Int := if lookD d n ≠ 0 then [lookD d n - 1] else []
/-- What the maker of Hangs keeps while equation i is looked at. -/
structure HG (W0 : World) (b3 D b9 O b10 n i : Nat) (dt : DT) (ls : List (List Int)) (w : World) : Prop where
  ext : Ext W0 w
  c3 : BoxV b3 [.map (some D)] w
  dm : SM Try.prog 9 D (dtL dt) w
  c9 : BoxV b9 [.slice (some ⟨O, 0, none⟩) n n] w
  c10 : BoxV b10 [.int .i64 (i : Int)] w
  rws : ∃ vs, RWs w W0.heap.size O n vs ls
  t3 : ¬ TbO O w b3
  tD : ¬ TbO O w D
  t9 : ¬ TbO O w b9
  t10 : ¬ TbO O w b10
  lti : i < n
  dn : ∀ m, 0 ≤ lookD dt m ∧ lookD dt m ≤ 1000000
section
variable {W0 w w' : World} {b3 D b9 O b10 n i : Nat} {dt : DT} {ls ls' : List (List Int)}
theorem HG.next (h : HG W0 b3 D b9 O b10 n i dt ls w) (hx : Ext w w') : HG W0 b3 D b9 O b10 n i dt ls w' := by
  obtain ⟨vs, hv⟩ := h.rws
  exact ⟨h.ext.trans hx, h.c3.ext hx, h.dm.ext hx, h.c9.ext hx, h.c10.ext hx, ⟨vs, hv.ext hx⟩, fun e => h.t3 (hv.same hx e), fun e => h.tD (hv.same hx e), fun e => h.t9 (hv.same hx e), fun e => h.t10 (hv.same hx e), h.lti, h.dn⟩
theorem HG.kt (h : HG W0 b3 D b9 O b10 n i dt ls w) (hk : Kt (TbO O) w w') (hr : ∃ vs, RWs w' W0.heap.size O n vs ls') : HG W0 b3 D b9 O b10 n i dt ls' w' := by
  obtain ⟨vs, hv⟩ := h.rws
  exact ⟨hk.ext h.ext (fun k hk => (hv.tb hk).1), hk.box h.c3 h.t3, h.dm.at (hk.block D h.dm.lt h.tD), hk.box h.c9 h.t9, hk.box h.c10 h.t10, hr, fun e => h.t3 (hk.old _ h.c3.lt e), fun e => h.tD (hk.old _ h.dm.lt e), fun e => h.t9 (hk.old _ h.c9.lt e), fun e => h.t10 (hk.old _ h.c10.lt e), h.lti, h.dn⟩
theorem HG.same (h : HG W0 b3 D b9 O b10 n i dt ls w) (hx : Ext w w') (k : Nat) (hk : TbO O w' k) : TbO O w k := by
  obtain ⟨vs, hv⟩ := h.rws
  exact hv.same hx hk
theorem HG.off (h : HG W0 b3 D b9 O b10 n i dt ls w) (k : Nat) (hk : TbO O w k) : W0.heap.size ≤ k ∧ k < w.heap.size := by
  obtain ⟨vs, hv⟩ := h.rws
  exact hv.tb hk
end
def RetN (B : World → Nat → Prop) (St : World → Prop) (w : World) (e : Ending) (w' : World) : Prop := e = .returned (.tuple #[]) ∧ Hid (Kt B w w' ∧ St w')
theorem set_same {l : List Int} {ls : List (List Int)} {i : Nat} (h : ls[i]? = some l) : ls.set i (l ++ []) = ls := by
  rw [List.append_nil]
  apply List.ext_getElem?
  intro j
  by_cases e : i = j
  · subst e
    rw [List.getElem?_set_self (List.getElem?_eq_some_iff.1 h).1, h]
  · rw [List.getElem?_set_ne e]
set_option maxHeartbeats 8000000 in
theorem cput_any {W0 : World} {b3 D b9 O b10 n i : Nat} {dt : DT} {ls : List (List Int)} {l : List Int} {w : World} (nm : ByteArray) (h : HG W0 b3 D b9 O b10 n i dt ls w) (hl : ls[i]? = some l) (hlen : l.length ≤ 1000000) (hnm : nm.size ≤ maxLen) :
    Calls Try.prog 44 #[.string nm, .pointer (some ⟨b3, 0, none⟩), .pointer (some ⟨b9, 0, none⟩), .pointer (some ⟨b10, 0, none⟩)] w (RetN (TbO O) (HG W0 b3 D b9 O b10 n i dt (ls.set i (l ++ on1 dt nm))) w) := by
  obtain ⟨Q, hQ⟩ : ∃ Q, Q = RetN (TbO O) (HG W0 b3 D b9 O b10 n i dt (ls.set i (l ++ on1 dt nm))) w := ⟨_, rfl⟩
  rw [← hQ]
  have HQ := Lib.hid hQ
  obtain ⟨vs, hrw⟩ := h.rws
  obtain ⟨v, hv⟩ : ∃ v, vs[i]? = some v := ⟨_, List.getElem?_eq_getElem (by rw [hrw.nv]; exact h.lti)⟩
  have hown := hrw.row i v l hv hl
  obtain ⟨va, vm, vc, rfl⟩ := own_slice3 hown
  have HRW := Lib.hid (And.intro hrw (And.intro hv (And.intro hl hown)))
  have hlk : (Instr.lookup 68 (.map (some D)) (.string nm) false).run Try.prog w = .ok (.int .i64 (lookD dt nm)) w := by
    rw [← find_dt]
    exact h.dm.look Try.underlying9 Try.underlying68 (czeroI w) hnm
  obtain ⟨X, hX⟩ : ∃ X, X = lookD dt nm := ⟨_, rfl⟩
  rw [← hX] at hlk
  have hXb := h.dn nm
  rw [← hX] at hXb
  obtain ⟨hX0, hX1⟩ := hXb
  have d3 := h.c3.cells 0 _ rfl
  have d9 := h.c9.cells 0 _ rfl
  have d10 := h.c10.cells 0 _ rfl
  have l3 := h.c3.lt
  have l9 := h.c9.lt
  have l10 := h.c10.lt
  have dO : w.cell? ⟨O, i, none⟩ = some (.slice va vm vc) := by rw [hrw.cell]; exact hv
  have lO := hrw.lt
  have hii : (i : Int) < (n : Int) := Int.ofNat_lt.2 h.lti
  have hi0 : (0 : Int) ≤ (i : Int) := Int.natCast_nonneg _
  have HG0 := Lib.hid h
  have HXD := Lib.hid hX
  clear hQ hrw hv hl hown h hX hnm
  go_enter Try.func44, Try.ntmps44
  by_cases hz : X = 0
  · have HC : Hid (on1 dt nm = []) := Lib.hid (by unfold on1; rw [← HXD.out, hz]; simp)
    have qz : (X != 0) = false := by simpa using hz
    clear hz
    go_wp2
    refine bodyPost_end (results_none rfl _ _ _) rfl ?_
    rw [HQ.out, HC.out, set_same HRW.out.2.2.1]
    exact ⟨rfl, Lib.hid ⟨Kt.refl _ _, HG0.out⟩⟩
  · have HC : Hid (on1 dt nm = [X - 1]) := Lib.hid (by unfold on1; rw [← HXD.out]; simp [hz])
    have qz : (X != 0) = true := by simpa using hz
    have hw1 : IntKind.i64.wrap (X - 1) = X - 1 := IntWalk.i64_in _ (by omega)
    clear hz
    go_upto_region 2 with fail
    refine wp_region_noPanic ?_
    refine hd_begin (S := fun w' => w'.cell? ⟨b9, 0, none⟩ = some (.slice (some ⟨O, 0, none⟩) n n) ∧ w'.cell? ⟨b10, 0, none⟩ = some (.int .i64 (i : Int)) ∧ w'.cell? ⟨O, i, none⟩ = some (.slice va vm vc)) 11 (by kernel_rfl) (by kernel_rfl) ⟨d9, d10, dO⟩ (fun hHeld => ?_)
    have hxd : Ext w w.drew := (Ext.refl w).drew
    generalize w.drew = wd at hxd hHeld ⊢
    refine hd_take (i := 0) (v := .slice (some ⟨O, 0, none⟩) n n) rfl (by kernel_rfl) (by kernel_rfl) (fun _ _ _ h => h) (Or.inl ⟨by rfl, fun w' hSw => by ((try dsimp only at hSw); go_simp)⟩) hHeld ?_
    try simp only [Act.put, List.setIfInBounds_toArray, List.set_cons_zero, List.set_cons_succ]
    refine hd_take (i := 1) (v := .int .i64 (i : Int)) rfl (by kernel_rfl) (by kernel_rfl) (fun _ _ _ h => h) (Or.inl ⟨by rfl, fun w' hSw => by ((try dsimp only at hSw); go_simp)⟩) hHeld ?_
    try simp only [Act.put, List.setIfInBounds_toArray, List.set_cons_zero, List.set_cons_succ]
    refine hd_take (i := 2) (v := .slice (some ⟨O, 0, none⟩) n n) rfl (by kernel_rfl) (by kernel_rfl) (fun _ _ _ h => h) (Or.inl ⟨by rfl, fun w' hSw => by ((try dsimp only at hSw); go_simp)⟩) hHeld ?_
    try simp only [Act.put, List.setIfInBounds_toArray, List.set_cons_zero, List.set_cons_succ]
    refine hd_take (i := 3) (v := .int .i64 (i : Int)) rfl (by kernel_rfl) (by kernel_rfl) (fun _ _ _ h => h) (Or.inl ⟨by rfl, fun w' hSw => by ((try dsimp only at hSw); go_simp)⟩) hHeld ?_
    try simp only [Act.put, List.setIfInBounds_toArray, List.set_cons_zero, List.set_cons_succ]
    refine hd_take (i := 4) (v := .pointer (some ⟨O, i, none⟩)) rfl (by kernel_rfl) (by kernel_rfl) (fun _ _ _ h => h) (Or.inl ⟨by rfl, fun w' hSw => by ((try dsimp only at hSw); go_simp)⟩) hHeld ?_
    try simp only [Act.put, List.setIfInBounds_toArray, List.set_cons_zero, List.set_cons_succ]
    refine hd_take (i := 5) (v := .slice va vm vc) rfl (by kernel_rfl) (by kernel_rfl) (fun _ _ _ h => h) (Or.inl ⟨by rfl, fun w' hSw => by ((try dsimp only at hSw); go_simp)⟩) hHeld ?_
    try simp only [Act.put, List.setIfInBounds_toArray, List.set_cons_zero, List.set_cons_succ]
    refine hd_take (i := 6) (v := .int .i64 X) rfl (by kernel_rfl) (by kernel_rfl) (fun _ _ _ h => h) (Or.inl ⟨by rfl, fun w' hSw => by ((try dsimp only at hSw); go_simp)⟩) hHeld ?_
    try simp only [Act.put, List.setIfInBounds_toArray, List.set_cons_zero, List.set_cons_succ]
    refine hd_take (i := 7) (v := .int .i64 (X - 1)) rfl (by kernel_rfl) (by kernel_rfl) (fun _ _ _ h => h) (Or.inl ⟨by rfl, fun w' hSw => by ((try dsimp only at hSw); go_simp)⟩) hHeld ?_
    try simp only [Act.put, List.setIfInBounds_toArray, List.set_cons_zero, List.set_cons_succ]
    refine hd_one (i := 8) rfl (by kernel_rfl) (by decide) (fun K hK => ?_)
    go_simp
    have hxn : Ext wd (wd.alloc (.cells #[.int .i64 (X - 1)] 3)) := (Ext.refl wd).alloc _
    have hsn : SlC (wd.alloc (.cells #[.int .i64 (X - 1)] 3)) (.slice (some ⟨wd.heap.size, 0, none⟩) 1 1) 1 [.int .i64 (X - 1)] := SlC.fresh wd #[.int .i64 (X - 1)] _ 1 _ rfl (by decide)
    refine hK.out _ _ ⟨hxn.cell hHeld.1, hxn.cell hHeld.2.1, hxn.cell hHeld.2.2⟩ (fun hHeld => ?_)
    clear hK K
    try simp only [Act.put, List.setIfInBounds_toArray, List.set_cons_zero, List.set_cons_succ]
    have HXN := Lib.hid (hxd.trans hxn)
    generalize (wd.alloc (.cells #[.int .i64 (X - 1)] 3)) = wn at hxn hsn HXN hHeld ⊢
    generalize wd.heap.size = N at hsn ⊢
    have hrn := HRW.out.1.ext HXN.out
    have hon := ownsRow_ext HRW.out.2.2.2 HXN.out
    refine hd_one (i := 9) rfl (by kernel_rfl) (by decide) (fun K hK => ?_)
    refine step_append_slc _ rfl (.tmp 16) (.tmp 19) 36 rfl W0.heap.size 3 (.int .i64 0) 1 8 Try.underlying36 infoInt rfl (by decide) (.slice va vm vc) l.length (i64s l) rfl hon _ 1 [.int .i64 (X - 1)] rfl hsn rfl (by simp [Value.oneCell']) (by unfold maxLen; omega) (by omega) ((HG0.out.ext.trans HXN.out).size) ?_
    intro v3 w6 hown3 hg3 hat3
    obtain ⟨x9, y9, z9, rfl⟩ := own_slice3 hown3
    have hk6 : Kb (Value.ownBlock (.slice va vm vc)).toList wn w6 := Kb.grown hg3 (fun g hg => Option.mem_toList.2 hg)
    have hnt : ∀ k, ¬ TbO O w k → k < w.heap.size → k ∉ (Value.ownBlock (.slice va vm vc)).toList := fun k hk _ e => hk (.inr ⟨i, _, by rw [HRW.out.1.cell]; exact HRW.out.2.1, Option.mem_toList.1 e⟩)
    refine hK.out _ _ ⟨hk6.cell (hnt _ HG0.out.t9 l9) hHeld.1, hk6.cell (hnt _ HG0.out.t10 l10) hHeld.2.1, hk6.cell (fun e => HRW.out.1.off i _ O HRW.out.2.1 (Option.mem_toList.1 e) rfl) hHeld.2.2⟩ (fun hHeld => ?_)
    clear hK K
    try simp only [Act.put, List.setIfInBounds_toArray, List.set_cons_zero, List.set_cons_succ]
    refine hd_one (i := 10) rfl (by kernel_rfl) (by decide) (fun K hK => ?_)
    go_simp
    refine hK.out _ _ hHeld (fun hHeld => ?_)
    clear hK K
    try simp only [Act.put, List.setIfInBounds_toArray, List.set_cons_zero, List.set_cons_succ]
    refine hd_end (by kernel_rfl) ?_
    simp only [List.drop_succ_cons, List.drop_zero]
    have hput := hrn.put (x := X - 1) HRW.out.2.1 HRW.out.2.2.1 hk6 (by rw [show i64s (l ++ [X - 1]) = i64s l ++ [.int .i64 (X - 1)] by simp [i64s]]; exact hown3) (hat3.imp id (fun e => ⟨_, e, Nat.le_refl _⟩))
    have HPUT := Lib.hid hput
    have e1 := hHeld.2.2
    have e2 : w6.frozen? ⟨O, i, none⟩ = false := by
      have h1 := hk6.heap (fun e => HRW.out.1.off i _ O HRW.out.2.1 (Option.mem_toList.1 e) rfl) hrn.top
      exact frozen_of_row _ _ _ _ _ h1
    have e3 : O < w6.heap.size := Nat.lt_of_lt_of_le hrn.lt hk6.size
    clear hHeld hput hk6 hnt hrn hon hown3 hg3 hat3 hsn hxn hxd d3 d9 d10 dO l3 l9 l10 lO hlk
    go_wp2_with fail
    refine NoPanic.normal ?_
    refine bodyPost_end (results_none rfl _ _ _) rfl ?_
    rw [HQ.out, HC.out]
    have hkt : Kt (TbO O) w (w6.setCell ⟨O, i, none⟩ (.slice x9 y9 z9)) := (Kt.of_ext HXN.out (HG0.out.same HXN.out)).trans HPUT.out.2
    exact ⟨rfl, Lib.hid ⟨hkt, HG0.out.kt hkt ⟨_, HPUT.out.1⟩⟩⟩
end Go.Proofs.Ytmommjagndadjaa
namespace Go.Proofs.Ytmommjagndadjaa
open Go.RowKit Go.Maps
set_option linter.unusedSimpArgs false
set_option linter.unusedVariables false
set_option maxRecDepth 100000

/-! ### Plain -/
def stepH (dt : DT) (a : List Int) (e : CE) : List Int × Bool := (a ++ (if e.form = 2 ∨ e.form = 9 ∨ e.form = 10 then on1 dt e.name else []), true)
theorem onH_nil (d : DT) : onH d [] = [] := rfl
theorem onH_cons (d : DT) (n : ByteArray) (l : List ByteArray) : onH d (n :: l) = on1 d n ++ onH d l := by
  unfold onH on1
  rw [List.filterMap_cons]
  by_cases h : lookD d n ≠ 0
  · simp [h]
  · simp [h]
theorem onH_app (d : DT) : ∀ (l m : List ByteArray), onH d (l ++ m) = onH d l ++ onH d m
  | [], m => by simp [onH_nil]
  | n :: l, m => by rw [List.cons_append, onH_cons, onH_cons, onH_app d l m, List.append_assoc]
theorem on1_len (d : DT) (n : ByteArray) : (on1 d n).length ≤ 1 := by
  unfold on1
  split <;> simp
mutual
theorem gpE_stepH (dt : DT) : ∀ (e : CE) (a : List Int), gpE (stepH dt) e a = (a ++ onH dt (readsE e), true)
  | .mk f s k n nm ks, a => by
    rw [gpE, show (stepH dt a (.mk f s k n nm ks)).2 = true from rfl]
    simp only [Bool.true_eq_false, ↓reduceIte]
    rw [gpL_stepH dt ks, readsE, onH_app]
    have e1 : (stepH dt a (.mk f s k n nm ks)).1 = a ++ (if f = 2 ∨ f = 9 ∨ f = 10 then on1 dt nm else []) := rfl
    rw [e1]
    congr 1
    split
    · rw [onH_cons, onH_nil, List.append_nil, List.append_assoc]
    · rw [onH_nil, List.append_nil, List.nil_append]
theorem gpL_stepH (dt : DT) : ∀ (l : List CE) (a : List Int), gpL (stepH dt) l a = (a ++ onH dt (readsL l), true)
  | [], a => by rw [gpL, readsL, onH_nil, List.append_nil]
  | k :: ks, a => by
    rw [gpL, gpE_stepH dt k a]
    simp only [Bool.true_eq_false, ↓reduceIte]
    rw [gpL_stepH dt ks, readsL, onH_app, List.append_assoc]
end
/-! ### The state -/
structure StH (W0 : World) (b3 D b9 O b10 b12 n i : Nat) (dt : DT) (ls0 : List (List Int)) (a : List Int) (w : World) : Prop where
  g : HG W0 b3 D b9 O b10 n i dt (ls0.set i a) w
  c12 : BoxV b12 [.func (.func 44) #[] #[.pointer (some ⟨b3, 0, none⟩), .pointer (some ⟨b9, 0, none⟩), .pointer (some ⟨b10, 0, none⟩)]] w
  t12 : ¬ TbO O w b12
  li : i < ls0.length
section
variable {W0 w w' : World} {b3 D b9 O b10 b12 n i : Nat} {dt : DT} {ls0 : List (List Int)} {a a' : List Int}
theorem StH.next (h : StH W0 b3 D b9 O b10 b12 n i dt ls0 a w) (hx : Ext w w') : StH W0 b3 D b9 O b10 b12 n i dt ls0 a w' :=
  ⟨h.g.next hx, h.c12.ext hx, fun e => h.t12 (h.g.same hx _ e), h.li⟩
theorem StH.put (h : StH W0 b3 D b9 O b10 b12 n i dt ls0 a w) (hk : Kt (TbO O) w w') (hg : HG W0 b3 D b9 O b10 n i dt (ls0.set i a') w') : StH W0 b3 D b9 O b10 b12 n i dt ls0 a' w' :=
  ⟨hg, hk.box h.c12 h.t12, fun e => h.t12 (hk.old _ h.c12.lt e), h.li⟩
theorem StH.get (h : StH W0 b3 D b9 O b10 b12 n i dt ls0 a w) : (ls0.set i a)[i]? = some a := List.getElem?_set_self h.li
/-- The function that puts a name, in this state. -/
theorem StH.call (h : StH W0 b3 D b9 O b10 b12 n i dt ls0 a w) (nm : ByteArray) (hlen : a.length ≤ 1000000) (hnm : nm.size ≤ maxLen) :
    Calls Try.prog 44 #[.string nm, .pointer (some ⟨b3, 0, none⟩), .pointer (some ⟨b9, 0, none⟩), .pointer (some ⟨b10, 0, none⟩)] w (RetN (TbO O) (HG W0 b3 D b9 O b10 n i dt (ls0.set i (a ++ on1 dt nm))) w) := by
  have h1 := cput_any nm h.g h.get hlen hnm
  rw [List.set_set] at h1
  exact h1
end
set_option maxHeartbeats 8000000 in
theorem hangs2_any {W0 : World} {b3 D b9 O b10 b12 n0 i : Nat} {dt : DT} {ls0 : List (List Int)} {a : List Int} {w : World} {e : CE} {kv : Value} (hk : KIn W0 e kv) (hst : StH W0 b3 D b9 O b10 b12 n0 i dt ls0 a w) (hlen : a.length ≤ 1000000) (hok : okE e) :
    Calls Try.prog 46 #[eVal e kv, .pointer (some ⟨b12, 0, none⟩)] w (RetT (TbO O) (StH W0 b3 D b9 O b10 b12 n0 i dt ls0) (stepH dt a e) w) := by
  obtain ⟨R, hR⟩ : ∃ R, R = stepH dt a e := ⟨_, rfl⟩
  rw [← hR]
  obtain ⟨Q, hQ⟩ : ∃ Q, Q = RetT (TbO O) (StH W0 b3 D b9 O b10 b12 n0 i dt ls0) R w := ⟨_, rfl⟩
  rw [← hQ]
  have HQ := Lib.hid hQ
  have HR := Lib.hid hR
  obtain ⟨p, c, rfl, hkc, hcm⟩ := hk.slice
  obtain ⟨n, hn⟩ : ∃ n, n = e.kids.length := ⟨_, rfl⟩
  rw [← hn]
  obtain ⟨f, hf⟩ : ∃ f, f = e.form := ⟨_, rfl⟩
  obtain ⟨sb, hs⟩ : ∃ s, s = e.sub := ⟨_, rfl⟩
  obtain ⟨k, hk2⟩ : ∃ s, s = e.kind := ⟨_, rfl⟩
  obtain ⟨nn, hnn⟩ : ∃ s, s = e.n := ⟨_, rfl⟩
  obtain ⟨nm, hnm⟩ : ∃ s, s = e.name := ⟨_, rfl⟩
  have HEV := Lib.hid (show eVal e (.slice p n c) = .agg #[.int .i64 f, .int .i64 sb, .int .i64 k, .int .i64 nn, .string nm, .slice p n c] by rw [hf, hs, hk2, hnn, hnm]; rfl)
  rw [HEV.out]
  have HL := Lib.hid (And.intro hf (And.intro hs (And.intro hk2 (And.intro hnn (And.intro hnm hn)))))
  have hby : BoxV w.heap.size [.int .i64 f, .int .i64 sb, .int .i64 k, .int .i64 nn, .string nm, .slice p n c] (w.alloc (.cells #[.int .i64 f, .int .i64 sb, .int .i64 k, .int .i64 nn, .string nm, .slice p n c] 33)) := BoxV.of_row (heap_alloc_last w _)
  have hxy : Ext w (w.alloc (.cells #[.int .i64 f, .int .i64 sb, .int .i64 k, .int .i64 nn, .string nm, .slice p n c] 33)) := (Ext.refl w).alloc _
  have HXY := Lib.hid hxy
  have hst2 := hst.next hxy
  have HST := Lib.hid hst2
  have HKS : Hid (∀ k', TbO O (w.alloc (.cells #[.int .i64 f, .int .i64 sb, .int .i64 k, .int .i64 nn, .string nm, .slice p n c] 33)) k' → TbO O w k') := Lib.hid (hst.g.same hxy)
  have HF : Hid (Calls Try.prog 44 #[.string nm, .pointer (some ⟨b3, 0, none⟩), .pointer (some ⟨b9, 0, none⟩), .pointer (some ⟨b10, 0, none⟩)] (w.alloc (.cells #[.int .i64 f, .int .i64 sb, .int .i64 k, .int .i64 nn, .string nm, .slice p n c] 33)) (RetN (TbO O) (HG W0 b3 D b9 O b10 n0 i dt (ls0.set i (a ++ on1 dt nm))) (w.alloc (.cells #[.int .i64 f, .int .i64 sb, .int .i64 k, .int .i64 nn, .string nm, .slice p n c] 33)))) := Lib.hid (by
    have h1 := hst2.call e.name hlen hok.name
    rw [← hnm] at h1
    exact h1)
  have HK : Hid (R = (a ++ (if f = 2 ∨ f = 9 ∨ f = 10 then on1 dt nm else []), true)) := Lib.hid (by rw [HR.out, hf, hnm]; rfl)
  have b0 := hst2.c12.cells 0 _ rfl
  have bl := hst2.c12.lt
  clear hQ hR hk hn hf hs hk2 hnn hnm hkc hcm hst hst2 hok hlen
  by_cases a2 : f = 2
  · have q2 : (f == 2) = true := by simpa using a2
    have HC : Hid (R = (a ++ on1 dt nm, true)) := Lib.hid (by rw [HK.out]; simp [a2])
    clear a2
    go_enter Try.func46, Try.ntmps46
    go_upto_region 1 with fail
    generalize (w.alloc (.cells #[.int .i64 f, .int .i64 sb, .int .i64 k, .int .i64 nn, .string nm, .slice p n c] 33)) = wy at hby hxy HXY HST HF HKS b0 bl ⊢
    generalize w.heap.size = Y at hby ⊢
    have d0 := hby.cells 0 _ rfl
    have d1 := hby.cells 1 _ rfl
    have d2 := hby.cells 2 _ rfl
    have d3 := hby.cells 3 _ rfl
    have d4 := hby.cells 4 _ rfl
    have d5 := hby.cells 5 _ rfl
    have hyl := hby.lt
    have HBY := Lib.hid hby
    clear hby hxy
    go_wp2_with (first | (go_at_call 44; refine HF.out.mono ?_; rintro e2 w2 ⟨rfl, H2⟩) | fail)
    rw [HQ.out, HC.out]
    exact ⟨rfl, Lib.hid ⟨(Kt.of_ext HXY.out HKS.out).trans H2.out.1, HST.out.put H2.out.1 H2.out.2⟩⟩
  · have q2 : (f == 2) = false := by simpa using a2
    by_cases a9 : f = 9
    · have q9 : (f == 9) = true := by simpa using a9
      have HC : Hid (R = (a ++ on1 dt nm, true)) := Lib.hid (by rw [HK.out]; simp [a9])
      clear a9
      go_enter Try.func46, Try.ntmps46
      go_upto_region 1 with fail
      generalize (w.alloc (.cells #[.int .i64 f, .int .i64 sb, .int .i64 k, .int .i64 nn, .string nm, .slice p n c] 33)) = wy at hby hxy HXY HST HF HKS b0 bl ⊢
      generalize w.heap.size = Y at hby ⊢
      have d0 := hby.cells 0 _ rfl
      have d1 := hby.cells 1 _ rfl
      have d2 := hby.cells 2 _ rfl
      have d3 := hby.cells 3 _ rfl
      have d4 := hby.cells 4 _ rfl
      have d5 := hby.cells 5 _ rfl
      have hyl := hby.lt
      have HBY := Lib.hid hby
      clear hby hxy
      go_wp2_with (first | (go_at_call 44; refine HF.out.mono ?_; rintro e2 w2 ⟨rfl, H2⟩) | fail)
      rw [HQ.out, HC.out]
      exact ⟨rfl, Lib.hid ⟨(Kt.of_ext HXY.out HKS.out).trans H2.out.1, HST.out.put H2.out.1 H2.out.2⟩⟩
    · have q9 : (f == 9) = false := by simpa using a9
      by_cases a10 : f = 10
      · have q10 : (f == 10) = true := by simpa using a10
        have HC : Hid (R = (a ++ on1 dt nm, true)) := Lib.hid (by rw [HK.out]; simp [a10])
        clear a10
        go_enter Try.func46, Try.ntmps46
        go_upto_region 1 with fail
        generalize (w.alloc (.cells #[.int .i64 f, .int .i64 sb, .int .i64 k, .int .i64 nn, .string nm, .slice p n c] 33)) = wy at hby hxy HXY HST HF HKS b0 bl ⊢
        generalize w.heap.size = Y at hby ⊢
        have d0 := hby.cells 0 _ rfl
        have d1 := hby.cells 1 _ rfl
        have d2 := hby.cells 2 _ rfl
        have d3 := hby.cells 3 _ rfl
        have d4 := hby.cells 4 _ rfl
        have d5 := hby.cells 5 _ rfl
        have hyl := hby.lt
        have HBY := Lib.hid hby
        clear hby hxy
        go_wp2_with (first | (go_at_call 44; refine HF.out.mono ?_; rintro e2 w2 ⟨rfl, H2⟩) | fail)
        rw [HQ.out, HC.out]
        exact ⟨rfl, Lib.hid ⟨(Kt.of_ext HXY.out HKS.out).trans H2.out.1, HST.out.put H2.out.1 H2.out.2⟩⟩
      · have q10 : (f == 10) = false := by simpa using a10
        have HC : Hid (R = (a, true)) := Lib.hid (by rw [HK.out]; simp [a2, a9, a10])
        clear a2 a9 a10
        go_enter Try.func46, Try.ntmps46
        go_upto_region 1 with fail
        generalize (w.alloc (.cells #[.int .i64 f, .int .i64 sb, .int .i64 k, .int .i64 nn, .string nm, .slice p n c] 33)) = wy at hby hxy HXY HST HF HKS b0 bl ⊢
        generalize w.heap.size = Y at hby ⊢
        have d0 := hby.cells 0 _ rfl
        have d1 := hby.cells 1 _ rfl
        have d2 := hby.cells 2 _ rfl
        have d3 := hby.cells 3 _ rfl
        have d4 := hby.cells 4 _ rfl
        have d5 := hby.cells 5 _ rfl
        have hyl := hby.lt
        have HBY := Lib.hid hby
        clear hby hxy
        go_wp2_with fail
        rw [HQ.out, HC.out]
        exact ⟨rfl, Lib.hid ⟨Kt.of_ext HXY.out HKS.out, HST.out⟩⟩
theorem clo_hangs2 (W0 : World) (b3 D b9 O b10 b12 n i : Nat) (dt : DT) (ls0 : List (List Int)) : CloT W0 (TbO O) (StH W0 b3 D b9 O b10 b12 n i dt ls0) List.length 1000000 (stepH dt) 46 #[.pointer (some ⟨b12, 0, none⟩)] where
  st := fun _ _ _ h hx => h.next hx
  off := fun _ _ h k hk => h.g.off k hk
  same := fun _ _ _ h hx k hk => h.g.same hx k hk
  up := fun a e => by
    unfold stepH
    simp only [List.length_append]
    split
    · have := on1_len dt e.name; omega
    · simp
  enter := fun args w => by kernel_rfl
  call := fun a w e kv _ hst hl hk hok => hangs2_any hk hst (Nat.le_of_lt hl) hok
end Go.Proofs.Ytmommjagndadjaa
namespace Go.Proofs.Ytmommjagndadjaa
open Go.RowKit Go.Maps
set_option linter.unusedSimpArgs false
set_option linter.unusedVariables false
set_option maxRecDepth 100000

/-! ### Plain -/
def rowQ (dt : DT) (cl : VT) (q : EQ) : List Int := onH dt (namesQ cl q)
def lsAt (f : EQ → List Int) (l : List EQ) (i : Nat) : List (List Int) := (l.take i).map f ++ List.replicate (l.length - i) []
theorem lsAt_len (f : EQ → List Int) (l : List EQ) {i : Nat} (hi : i ≤ l.length) : (lsAt f l i).length = l.length := by
  unfold lsAt; simp; omega
theorem lsAt_get (f : EQ → List Int) (l : List EQ) {i : Nat} (hi : i < l.length) : (lsAt f l i)[i]? = some [] := by
  unfold lsAt
  have e : ((l.take i).map f).length = i := by simp; omega
  rw [List.getElem?_append_right (by omega), e, Nat.sub_self, List.getElem?_replicate]
  simp; omega
theorem lsAt_set (f : EQ → List Int) (l : List EQ) {i : Nat} {q : EQ} (hq : l[i]? = some q) : (lsAt f l i).set i (f q) = lsAt f l (i + 1) := by
  obtain ⟨hi, he⟩ := List.getElem?_eq_some_iff.1 hq
  unfold lsAt
  have e : ((l.take i).map f).length = i := by simp; omega
  rw [List.set_append_right _ _ (by omega), e, Nat.sub_self, show l.length - i = (l.length - (i + 1)) + 1 by omega, List.replicate_succ, List.set_cons_zero]
  rw [List.take_succ_eq_append_getElem hi, he, List.map_append]
  simp
theorem lsAt_end (f : EQ → List Int) (l : List EQ) : lsAt f l l.length = l.map f := by
  unfold lsAt; simp
theorem lsAt_zero (f : EQ → List Int) (l : List EQ) : lsAt f l 0 = List.replicate l.length [] := by
  unfold lsAt; simp
theorem defsH_at (t : DT) {l : List EQ} {i : Nat} {q : EQ} (hq : l[i]? = some q) (k : Int) : defsH t k (l.drop i) = defsH ((q.name, k + 1) :: t) (k + 1) (l.drop (i + 1)) := by
  rw [drop_at hq, defsH]
theorem lookD_bound (lo hi : Int) (h0 : lo ≤ 0) (h1 : 0 ≤ hi) : ∀ (t : DT), (∀ e ∈ t, lo ≤ e.2 ∧ e.2 ≤ hi) → ∀ n, lo ≤ lookD t n ∧ lookD t n ≤ hi := by
  intro t ht n
  unfold lookD
  cases h : t.find? fun e => decide (e.1 = n) with
  | none => exact ⟨h0, h1⟩
  | some e => exact ht e (List.mem_of_find?_eq_some h)
/-! ### The clocks' map -/
def ctL (t : TQ) : List (ByteArray × Value) := t.map fun e => (e.1.name, e.2)
theorem find_ct (n : ByteArray) : ∀ t : TQ, (∃ e ∈ t, lookT t.vt n = some e.1 ∧ findS (ctL t) n = some e.2) ∨ (lookT t.vt n = none ∧ findS (ctL t) n = none)
  | [] => .inr ⟨rfl, rfl⟩
  | e :: t => by
    by_cases h : e.1.name = n
    · refine .inl ⟨e, by simp, ?_, ?_⟩
      · unfold lookT TQ.vt
        rw [List.map_cons, List.find?_cons_of_pos (by simpa using h)]
      · subst h
        exact findS_same _ _ _
    · have a1 : lookT (TQ.vt (e :: t)) n = lookT (TQ.vt t) n := by
        unfold lookT TQ.vt
        rw [List.map_cons, List.find?_cons_of_neg (by simpa using h)]
      have a2 : findS (ctL (e :: t)) n = findS (ctL t) n := findS_other h _ _
      rw [a1, a2]
      rcases find_ct n t with ⟨x, hx, b1, b2⟩ | h2
      · exact .inl ⟨x, by simp [hx], b1, b2⟩
      · exact .inr h2
theorem czeroE (w : World) : (zeroValue 28).run Try.prog w = .ok (.slice none 0 0) w := by kernel_rfl
/-- What the maker of Hangs keeps between equations. -/
structure HB (W0 : World) (b3 D C b9 O n : Nat) (dt : DT) (tq : TQ) (ls : List (List Int)) (w : World) : Prop where
  ext : Ext W0 w
  c3 : BoxV b3 [.map (some D)] w
  dm : SM Try.prog 9 D (dtL dt) w
  cm : SM Try.prog 9 C (ctL tq) w
  tab : ∀ e ∈ tq, EdIn W0 e.2 e.1.clk
  c9 : BoxV b9 [.slice (some ⟨O, 0, none⟩) n n] w
  rws : ∃ vs, RWs w W0.heap.size O n vs ls
  t3 : ¬ TbO O w b3
  tD : ¬ TbO O w D
  tC : ¬ TbO O w C
  t9 : ¬ TbO O w b9
section
variable {W0 w w' : World} {b3 D C b9 O n i : Nat} {dt : DT} {tq : TQ} {ls ls' : List (List Int)}
theorem HB.next (h : HB W0 b3 D C b9 O n dt tq ls w) (hx : Ext w w') : HB W0 b3 D C b9 O n dt tq ls w' := by
  obtain ⟨vs, hv⟩ := h.rws
  exact ⟨h.ext.trans hx, h.c3.ext hx, h.dm.ext hx, h.cm.ext hx, h.tab, h.c9.ext hx, ⟨vs, hv.ext hx⟩, fun e => h.t3 (hv.same hx e), fun e => h.tD (hv.same hx e), fun e => h.tC (hv.same hx e), fun e => h.t9 (hv.same hx e)⟩
theorem HB.kt (h : HB W0 b3 D C b9 O n dt tq ls w) (hk : Kt (TbO O) w w') (hr : ∃ vs, RWs w' W0.heap.size O n vs ls') : HB W0 b3 D C b9 O n dt tq ls' w' := by
  obtain ⟨vs, hv⟩ := h.rws
  exact ⟨hk.ext h.ext (fun k hk => (hv.tb hk).1), hk.box h.c3 h.t3, h.dm.at (hk.block D h.dm.lt h.tD), h.cm.at (hk.block C h.cm.lt h.tC), h.tab, hk.box h.c9 h.t9, hr, fun e => h.t3 (hk.old _ h.c3.lt e), fun e => h.tD (hk.old _ h.dm.lt e), fun e => h.tC (hk.old _ h.cm.lt e), fun e => h.t9 (hk.old _ h.c9.lt e)⟩
theorem HB.tb (h : HB W0 b3 D C b9 O n dt tq ls w) {k : Nat} (hk : w.heap.size ≤ k) : ¬ TbO O w k := fun e => by
  obtain ⟨vs, hv⟩ := h.rws
  have := (hv.tb e).2
  omega
theorem HB.look (h : HB W0 b3 D C b9 O n dt tq ls w) {nm : ByteArray} (hn : nm.size ≤ maxLen) : ∃ p c, (Instr.lookup 73 (.map (some C)) (.string nm) false).run Try.prog w = .ok (.slice p (clkT tq.vt nm).length c) w ∧ EdIn W0 (.slice p (clkT tq.vt nm).length c) (clkT tq.vt nm) := by
  have h1 := h.cm.look Try.underlying9 Try.underlying73 (czeroE w) hn
  rcases find_ct nm tq with ⟨e, he, h2, h3⟩ | ⟨h2, h3⟩
  · rw [h3] at h1
    have hc : clkT tq.vt nm = e.1.clk := by unfold clkT; rw [h2]; rfl
    have hed := h.tab e he
    obtain ⟨p, c, e1, -, -⟩ := hed.slice
    rw [hc]
    exact ⟨p, c, by rw [← e1]; exact h1, by rw [← e1]; exact hed⟩
  · rw [h3] at h1
    have hc : clkT tq.vt nm = [] := by unfold clkT; rw [h2]; rfl
    rw [hc]
    exact ⟨none, 0, h1, EdIn.nil W0⟩
theorem HB.same (h : HB W0 b3 D C b9 O n dt tq ls w) (hx : Ext w w') (k : Nat) (hk : TbO O w' k) : TbO O w k := by
  obtain ⟨vs, hv⟩ := h.rws
  exact hv.same hx hk
theorem HB.fin (h : HB W0 b3 D C b9 O n dt tq ls w) {b10 b12 : Nat} {ls0 : List (List Int)} {a : List Int} (hk : Kt (TbO O) w w') (hg : StH W0 b3 D b9 O b10 b12 n i dt ls0 a w') (he : ls0.set i a = ls') : HB W0 b3 D C b9 O n dt tq ls' w' :=
  h.kt hk (by rw [← he]; exact hg.g.rws)
theorem HB.toG (h : HB W0 b3 D C b9 O n dt tq ls w) {b10 : Nat} (hb : BoxV b10 [.int .i64 (i : Int)] w) (ht : ¬ TbO O w b10) (hi : i < n) (hd : ∀ m, 0 ≤ lookD dt m ∧ lookD dt m ≤ 1000000) : HG W0 b3 D b9 O b10 n i dt ls w :=
  ⟨h.ext, h.c3, h.dm, h.c9, hb, h.rws, h.t3, h.tD, h.t9, ht, hi, hd⟩
end
theorem clk_names {c : CP} {tq : TQ} {nm : ByteArray} {g : ByteArray × Bool} (h : clksH c = tq.vt) (hok : okC c) (hg : g ∈ clkT tq.vt nm) : g.1.size ≤ maxLen := by
  rw [← h] at hg
  unfold clkT at hg
  cases hl : lookT (clksH c) nm with
  | none => rw [hl] at hg; simp at hg
  | some v =>
    rw [hl] at hg
    have hv : v ∈ clksH c := List.mem_of_find?_eq_some hl
    unfold clksH CP.vars at hv
    have hg2 : g ∈ v.clk := hg
    rcases List.mem_append.1 (List.mem_reverse.1 hv) with h1 | h1
    · rcases List.mem_append.1 h1 with h1 | h1
      · exact (hok.ins v h1).clk g hg2
      · exact (hok.outs v h1).clk g hg2
    · exact (hok.locals v h1).clk g hg2
def RetHg (c : CP) (w : World) (e : Ending) (w' : World) : Prop := ∃ O vs, e = .returned (.slice (some ⟨O, 0, none⟩) c.eqs.length c.eqs.length) ∧ Hid (RowsIn w' (.slice (some ⟨O, 0, none⟩) c.eqs.length c.eqs.length) vs (hangsV c) ∧ Ext w w')
set_option maxHeartbeats 16000000 in
theorem changs_any {c : CP} {x : S4} {w : World} (hc : CPIn w c x) (hok : okC c) (hl : c.ins.length ≤ 100000 ∧ c.outs.length ≤ 100000 ∧ c.locals.length ≤ 100000) (hle : c.eqs.length ≤ 100000) (hcnt : ∀ q ∈ c.eqs, q.form = 1 → cntE q.e ≤ 500000) (hclk : ∀ n, (clkT (clksH c) n).length ≤ 400000) :
    Calls Try.prog 25 #[coreA x] w (RetHg c w) := by
  obtain ⟨Q, hQ⟩ : ∃ Q, Q = RetHg c w := ⟨_, rfl⟩
  rw [← hQ]
  have HQ := Lib.hid hQ
  have HVS := Lib.hid (fun w' (hx : Ext w w') => cvars_any w c x w' hc hx hl)
  have HOK := Lib.hid (And.intro hok (And.intro hcnt hclk))
  clear hQ hok hcnt hclk
  obtain ⟨iv, ov, lv, ev⟩ := x
  obtain ⟨qs1, h1⟩ := hc.ins
  obtain ⟨qs2, h2⟩ := hc.outs
  obtain ⟨qs3, h3⟩ := hc.locals
  have h4 := hc.eqs
  obtain ⟨p1, c1, e1, hd1, hm1⟩ := h1.slice
  obtain ⟨p2, c2, e2, hd2, hm2⟩ := h2.slice
  obtain ⟨p3, c3, e3, hd3, hm3⟩ := h3.slice
  obtain ⟨p4, c4, e4, hd4, hm4⟩ := h4.slice
  simp only at e1 e2 e3 e4
  subst e1 e2 e3 e4
  simp only at h1 h2 h3 h4
  obtain ⟨n1, hn1⟩ : ∃ n, n = c.ins.length := ⟨_, rfl⟩
  obtain ⟨n2, hn2⟩ : ∃ n, n = c.outs.length := ⟨_, rfl⟩
  obtain ⟨n3, hn3⟩ : ∃ n, n = c.locals.length := ⟨_, rfl⟩
  obtain ⟨n4, hn4⟩ : ∃ n, n = c.eqs.length := ⟨_, rfl⟩
  have HN := Lib.hid (And.intro hn1 (And.intro hn2 (And.intro hn3 hn4)))
  have hcI1 : (c1 : Int) ≤ 9223372036854775807 := by unfold maxLen at hm1; omega
  have hcI2 : (c2 : Int) ≤ 9223372036854775807 := by unfold maxLen at hm2; omega
  have hcI3 : (c3 : Int) ≤ 9223372036854775807 := by unfold maxLen at hm3; omega
  have hcI4 : (c4 : Int) ≤ 9223372036854775807 := by unfold maxLen at hm4; omega
  rw [← hn1] at h1 hd1
  rw [← hn2] at h2 hd2
  rw [← hn3] at h3 hd3
  rw [← hn4] at h4 hd4
  simp only [← hn1, ← hn2, ← hn3, ← hn4] at HVS hl hle ⊢
  have HE := Lib.hid h4
  obtain ⟨hl1, hl2, hl3⟩ := hl
  clear hc h1 h2 h3 h4 hn1 hn2 hn3 hn4 hm1 hm2 hm3 hm4
  have hmk := @run_makeMap Try.prog
  go_enter Try.func25, Try.ntmps25
  go_upto_region 2 with fail
  have hbc : BoxV w.heap.size [.slice p1 n1 c1, .slice p2 n2 c2, .slice p3 n3 c3, .slice p4 n4 c4] ((((w.alloc (.cells #[.slice p1 n1 c1, .slice p2 n2 c2, .slice p3 n3 c3, .slice p4 n4 c4] 26)).alloc (.map #[] 0)).alloc (.map #[] 0)).alloc (.cells #[.map (some (w.heap.size + 1))] 68)) := (BoxV.of_row (heap_alloc_last w _)).ext (((Ext.refl _).alloc _).alloc _ |>.alloc _)
  have hsd : SM Try.prog 9 (w.heap.size + 1) [] ((((w.alloc (.cells #[.slice p1 n1 c1, .slice p2 n2 c2, .slice p3 n3 c3, .slice p4 n4 c4] 26)).alloc (.map #[] 0)).alloc (.map #[] 0)).alloc (.cells #[.map (some (w.heap.size + 1))] 68)) := by
    have h1 := SM.made Try.prog 9 (w.alloc (.cells #[.slice p1 n1 c1, .slice p2 n2 c2, .slice p3 n3 c3, .slice p4 n4 c4] 26))
    have h2 : (w.alloc (.cells #[.slice p1 n1 c1, .slice p2 n2 c2, .slice p3 n3 c3, .slice p4 n4 c4] 26)).heap.size = w.heap.size + 1 := by simp
    rw [h2] at h1
    exact h1.ext (((Ext.refl _).alloc _).alloc _)
  have hsc : SM Try.prog 9 (w.heap.size + 1 + 1) [] ((((w.alloc (.cells #[.slice p1 n1 c1, .slice p2 n2 c2, .slice p3 n3 c3, .slice p4 n4 c4] 26)).alloc (.map #[] 0)).alloc (.map #[] 0)).alloc (.cells #[.map (some (w.heap.size + 1))] 68)) := by
    have h1 := SM.made Try.prog 9 ((w.alloc (.cells #[.slice p1 n1 c1, .slice p2 n2 c2, .slice p3 n3 c3, .slice p4 n4 c4] 26)).alloc (.map #[] 0))
    have h2 : ((w.alloc (.cells #[.slice p1 n1 c1, .slice p2 n2 c2, .slice p3 n3 c3, .slice p4 n4 c4] 26)).alloc (.map #[] 0)).heap.size = w.heap.size + 1 + 1 := by simp
    rw [h2] at h1
    exact h1.ext ((Ext.refl _).alloc _)
  have hb3 : BoxV (w.heap.size + 1 + 1 + 1) [.map (some (w.heap.size + 1))] ((((w.alloc (.cells #[.slice p1 n1 c1, .slice p2 n2 c2, .slice p3 n3 c3, .slice p4 n4 c4] 26)).alloc (.map #[] 0)).alloc (.map #[] 0)).alloc (.cells #[.map (some (w.heap.size + 1))] 68)) := by
    have h1 := BoxV.of_row (heap_alloc_last (((w.alloc (.cells #[.slice p1 n1 c1, .slice p2 n2 c2, .slice p3 n3 c3, .slice p4 n4 c4] 26)).alloc (.map #[] 0)).alloc (.map #[] 0)) (.cells #[.map (some (w.heap.size + 1))] 68))
    have h2 : (((w.alloc (.cells #[.slice p1 n1 c1, .slice p2 n2 c2, .slice p3 n3 c3, .slice p4 n4 c4] 26)).alloc (.map #[] 0)).alloc (.map #[] 0)).heap.size = w.heap.size + 1 + 1 + 1 := by simp
    rw [h2] at h1
    exact h1
  have hxb : Ext w ((((w.alloc (.cells #[.slice p1 n1 c1, .slice p2 n2 c2, .slice p3 n3 c3, .slice p4 n4 c4] 26)).alloc (.map #[] 0)).alloc (.map #[] 0)).alloc (.cells #[.map (some (w.heap.size + 1))] 68)) := (((Ext.refl w).alloc _).alloc _ |>.alloc _).alloc _
  generalize ((((w.alloc (.cells #[.slice p1 n1 c1, .slice p2 n2 c2, .slice p3 n3 c3, .slice p4 n4 c4] 26)).alloc (.map #[] 0)).alloc (.map #[] 0)).alloc (.cells #[.map (some (w.heap.size + 1))] 68)) = wb at hbc hsd hsc hb3 hxb ⊢
  obtain ⟨BC, hBC⟩ : ∃ z, z = w.heap.size := ⟨_, rfl⟩
  obtain ⟨D, hD⟩ : ∃ z, z = BC + 1 := ⟨_, rfl⟩
  obtain ⟨C, hC⟩ : ∃ z, z = D + 1 := ⟨_, rfl⟩
  obtain ⟨b3, h3⟩ : ∃ z, z = C + 1 := ⟨_, rfl⟩
  rw [← hBC, ← hD, ← hC, ← h3] at hb3
  rw [← hBC, ← hD] at hsd
  rw [← hBC, ← hD, ← hC] at hsc
  rw [← hBC] at hbc
  have HID : Hid (w.heap.size = BC ∧ D = BC + 1 ∧ C = BC + 2 ∧ b3 = BC + 3) := Lib.hid ⟨hBC.symm, hD, by omega, by omega⟩
  rw [← hBC, ← hD, ← hC, ← h3]
  clear hBC hD hC h3 hmk
  have HWB := Lib.hid (And.intro hbc (And.intro hsd (And.intro hsc (And.intro hb3 hxb))))
  have x3 := hbc.cells 3 _ rfl
  have xl := hbc.lt
  have y3 := hb3.cells 0 _ rfl
  have yl := hb3.lt
  clear hbc hsd hsc hb3 hxb
  go_upto_region 3 with fail
  clear x3 xl
  go_loopw [20] (fun i wr => ∃ (k : Nat) (dt : DT), k ≤ n4 ∧ i = .int .i64 (k : Int) ∧ dt.length = k ∧ Hid (SM Try.prog 9 D (dtL dt) wr ∧ Kb [D] wb wr) ∧ Hid (defsH [] 0 c.eqs = defsH dt k (c.eqs.drop k) ∧ ∀ e ∈ dt, 0 ≤ e.2 ∧ e.2 ≤ (k : Int))) (fun i _ => n4 - (intOf i).toNat)
  case atStart => exact ⟨0, [], Nat.zero_le _, rfl, rfl, Lib.hid ⟨HWB.out.2.1, Kb.refl _ _⟩, Lib.hid ⟨rfl, fun e h => by simp at h⟩⟩
  case round =>
    obtain ⟨k, dt, hk, rfl, hdl, HS, HJ⟩ := hrel
    have hb3 := HWB.out.2.2.2.1.kb HS.out.2 (by have := HID.out; simp; omega)
    have y3 := hb3.cells 0 _ rfl
    have yl := hb3.lt
    clear hb3
    by_cases hlt : k < n4
    · have hji : (k : Int) < (n4 : Int) := Int.ofNat_lt.2 hlt
      have hxw : Ext w wr := HS.out.2.ext HWB.out.2.2.2.2 (by have := HID.out; simp; omega)
      obtain ⟨q, hq⟩ : ∃ q, c.eqs[k]? = some q := ⟨_, List.getElem?_eq_getElem (by have := HN.out.2.2.2; omega)⟩
      obtain ⟨b, o, pk, ck, hpe, hkq, hcq, hbl⟩ := HE.out.at hq
      subst hpe
      obtain ⟨nk, hnk⟩ : ∃ n, n = q.e.kids.length := ⟨_, rfl⟩
      rw [← hnk] at hkq hcq
      have hjc : k < c4 := by omega
      have hbl2 := Nat.lt_of_lt_of_le hbl hxw.size
      have c0_ := hxw.cell (hcq 0 _ rfl)
      have c1_ := hxw.cell (hcq 1 _ rfl)
      have c2_ := hxw.cell (hcq 2 _ rfl)
      have c3_ := hxw.cell (hcq 3 _ rfl)
      have c4_ := hxw.cell (hcq 4 _ rfl)
      have c5_ := hxw.cell (hcq 5 _ rfl)
      have c6_ := hxw.cell (hcq 6 _ rfl)
      have c7_ := hxw.cell (hcq 7 _ rfl)
      have c8_ := hxw.cell (hcq 8 _ rfl)
      have c9_ := hxw.cell (hcq 9 _ rfl)
      have c10_ := hxw.cell (hcq 10 _ rfl)
      have c11_ := hxw.cell (hcq 11 _ rfl)
      have c12_ := hxw.cell (hcq 12 _ rfl)
      rw [Nat.add_zero] at c0_
      have HX := Lib.hid (And.intro hq (And.intro hkq hnk))
      have y3 := ((Ext.refl wr).alloc (.cells #[.int .i64 q.form, .string q.name, .int .i64 q.e.form, .int .i64 q.e.sub, .int .i64 q.e.kind, .int .i64 q.e.n, .string q.e.name, .slice pk nk ck, .int .i64 q.init, .string q.next, .string q.reset, .int .i64 q.period, .int .i64 q.offset] 35)).cell y3
      have yl : b3 < (wr.alloc (.cells #[.int .i64 q.form, .string q.name, .int .i64 q.e.form, .int .i64 q.e.sub, .int .i64 q.e.kind, .int .i64 q.e.n, .string q.e.name, .slice pk nk ck, .int .i64 q.init, .string q.next, .string q.reset, .int .i64 q.period, .int .i64 q.offset] 35)).heap.size := by simp; omega
      have hxy : Ext wr (wr.alloc (.cells #[.int .i64 q.form, .string q.name, .int .i64 q.e.form, .int .i64 q.e.sub, .int .i64 q.e.kind, .int .i64 q.e.n, .string q.e.name, .slice pk nk ck, .int .i64 q.init, .string q.next, .string q.reset, .int .i64 q.period, .int .i64 q.offset] 35)) := (Ext.refl wr).alloc _
      have hby : BoxV wr.heap.size [.int .i64 q.form, .string q.name, .int .i64 q.e.form, .int .i64 q.e.sub, .int .i64 q.e.kind, .int .i64 q.e.n, .string q.e.name, .slice pk nk ck, .int .i64 q.init, .string q.next, .string q.reset, .int .i64 q.period, .int .i64 q.offset] (wr.alloc (.cells #[.int .i64 q.form, .string q.name, .int .i64 q.e.form, .int .i64 q.e.sub, .int .i64 q.e.kind, .int .i64 q.e.n, .string q.e.name, .slice pk nk ck, .int .i64 q.init, .string q.next, .string q.reset, .int .i64 q.period, .int .i64 q.offset] 35)) := BoxV.of_row (heap_alloc_last wr _)
      have HXY := Lib.hid hxy
      clear hq hkq hcq hbl hnk hxw
      go_upto_region 5 with fail
      generalize (wr.alloc (.cells #[.int .i64 q.form, .string q.name, .int .i64 q.e.form, .int .i64 q.e.sub, .int .i64 q.e.kind, .int .i64 q.e.n, .string q.e.name, .slice pk nk ck, .int .i64 q.init, .string q.next, .string q.reset, .int .i64 q.period, .int .i64 q.offset] 35)) = wy at hby hxy HXY y3 yl ⊢
      generalize wr.heap.size = Y at hby ⊢
      have d0 := hby.cells 0 _ rfl
      have d1 := hby.cells 1 _ rfl
      have d2 := hby.cells 2 _ rfl
      have d3 := hby.cells 3 _ rfl
      have d4 := hby.cells 4 _ rfl
      have d5 := hby.cells 5 _ rfl
      have d6 := hby.cells 6 _ rfl
      have d7 := hby.cells 7 _ rfl
      have d8 := hby.cells 8 _ rfl
      have d9 := hby.cells 9 _ rfl
      have d10 := hby.cells 10 _ rfl
      have d11 := hby.cells 11 _ rfl
      have d12 := hby.cells 12 _ rfl
      have hyl := hby.lt
      clear hby hxy hbl2 c0_ c1_ c2_ c3_ c4_ c5_ c6_ c7_ c8_ c9_ c10_ c11_ c12_
      have hoq := HOK.out.1.eqs q (List.mem_of_getElem? HX.out.1)
      obtain ⟨w9, hrun, hm9, hg9⟩ := (HS.out.1.ext HXY.out).put Try.underlying9 Try.underlying68 (by unfold dtL maxLen; simp; omega) hoq.name (.int .i64 ((k : Int) + 1))
      have hk9 : Kb [D] wy w9 := Kb.grown hg9 (fun g hg => by simp at hg; simp [hg])
      have H9 := Lib.hid (And.intro hm9 hk9)
      clear hm9 hk9 hg9 hoq
      go_wp2
      refine ⟨⟨k + 1, (q.name, (k : Int) + 1) :: dt, by omega, by go_num, by simp; omega, Lib.hid ⟨H9.out.1, (HS.out.2.trans (Kb.of_ext HXY.out)).trans H9.out.2⟩, Lib.hid ⟨?_, fun e he => ?_⟩⟩, by simp [intOf]; omega⟩
      · rw [HJ.out.1, defsH_at _ HX.out.1]
        rfl
      · rcases List.mem_cons.1 he with rfl | he
        · dsimp only; omega
        · have := HJ.out.2 e he
          omega
    · have hji : ¬ (k : Int) < (n4 : Int) := fun e => hlt (Int.ofNat_lt.1 e)
      obtain rfl : k = n4 := by omega
      have HDT : Hid (defsH [] 0 c.eqs = dt ∧ ∀ m, 0 ≤ lookD dt m ∧ lookD dt m ≤ 1000000) := Lib.hid (by
        refine ⟨by rw [HJ.out.1, HN.out.2.2.2, List.drop_length, defsH], lookD_bound 0 1000000 (by omega) (by omega) dt (fun e he => ?_)⟩
        have := HJ.out.2 e he
        omega)
      have HSD := Lib.hid (And.intro HS.out.1 (And.intro (HWB.out.2.2.1.kb HS.out.2 (by have := HID.out; simp; omega)) (And.intro (HWB.out.2.2.2.1.kb HS.out.2 (by have := HID.out; simp; omega)) (HS.out.2.ext HWB.out.2.2.2.2 (by have := HID.out; simp; omega)))))
      have HBC := Lib.hid (HWB.out.1.kb HS.out.2 (by have := HID.out; simp; omega))
      have x0 := HBC.out.cells 0 _ rfl
      have x1 := HBC.out.cells 1 _ rfl
      have x2 := HBC.out.cells 2 _ rfl
      have x3 := HBC.out.cells 3 _ rfl
      have xl := HBC.out.lt
      obtain ⟨m, hm⟩ : ∃ l, l = c.vars := ⟨_, rfl⟩
      have HMM := Lib.hid hm
      obtain ⟨nm, hnm⟩ : ∃ n, n = m.length := ⟨_, rfl⟩
      have HNM2 := Lib.hid hnm
      have HF3 : Hid (Calls Try.prog 29 #[.agg #[.slice p1 n1 c1, .slice p2 n2 c2, .slice p3 n3 c3, .slice p4 k c4]] wr fun e w' => ∃ p cap qs, e = .returned (.slice p nm cap) ∧ Hid (VsIn w w' (.slice p nm cap) m qs ∧ Ext wr w' ∧ w'.ownsRow wr.heap.size 30 3 (.slice p nm cap) nm (vrCells m qs))) := Lib.hid ((HVS.out wr HSD.out.2.2.2).mono (fun e w' ⟨p, cap, qs, h1, h2⟩ => ⟨p, cap, qs, by rw [hnm, hm]; exact h1, Lib.hid (by rw [hnm, hm]; exact h2.out)⟩))
      have hnmb : nm ≤ 300000 := by rw [hnm, hm]; unfold CP.vars; simp only [List.length_append]; have := HN.out; omega
      clear hm hnm
      obtain ⟨wq, hwq⟩ : ∃ x, x = wr := ⟨_, rfl⟩
      subst hwq
      clear y3 yl
      go_upto_region 8 with (first | (go_at_call 29; refine HF3.out.mono ?_; rintro e1 w5 ⟨pv5, cv5, qs5, rfl, H5⟩) | fail)
      have HV : Hid (VsIn w w5 (.slice pv5 nm cv5) m qs5) := Lib.hid H5.out.1
      obtain ⟨pz5, cz5, e5, hdv5, hmv5⟩ := HV.out.slice
      simp only [Value.slice.injEq] at e5
      have hcv5 : (cv5 : Int) ≤ 9223372036854775807 := by rw [e5.2.2]; unfold maxLen at hmv5; omega
      rw [← e5.2.2, ← HNM2.out] at hdv5
      clear e5 hmv5 x0 x1 x2 x3 xl
      go_loopw [34] (fun i wr => ∃ (j : Nat) (tq : TQ), j ≤ nm ∧ i = .int .i64 (j : Int) ∧ tq.length = j ∧ Hid (SM Try.prog 9 C (ctL tq) wr ∧ Kb [C] w5 wr) ∧ Hid (clksH c = (m.drop j).reverse ++ tq.vt ∧ ∀ e ∈ tq, EdIn w e.2 e.1.clk)) (fun i _ => nm - (intOf i).toNat)
      case atStart => exact ⟨0, [], Nat.zero_le _, rfl, rfl, Lib.hid ⟨HSD.out.2.1.ext H5.out.2.1, Kb.refl _ _⟩, Lib.hid ⟨by rw [HMM.out]; simp [clksH, TQ.vt], fun e h => by simp at h⟩⟩
      case round =>
        obtain ⟨j, tq, hj, rfl, htl, HS, HJ⟩ := hrel
        by_cases hlt : j < nm
        · have hji : (j : Int) < (nm : Int) := Int.ofNat_lt.2 hlt
          have hxl : Ext wr wr := Ext.refl _
          have HV : Hid (VsIn w wr (.slice pv5 nm cv5) m qs5) := Lib.hid (by
            have h1 := HS.out.2.row H5.out.2.2 (fun g hg e => by
              have h2 := (H5.out.2.2.lt g e).1
              have h3 := HSD.out.2.1.lt
              simp at hg
              omega)
            have h4 := SlC.of_owns h1
            rw [HNM2.out] at h4 ⊢
            exact ⟨HV.out.len, h4, HV.out.clk⟩)
          obtain ⟨v, hv⟩ : ∃ v, (m)[j]? = some v := ⟨_, List.getElem?_eq_getElem (by rw [← HNM2.out]; exact hlt)⟩
          obtain ⟨bv_, ov_, pq, cq, hpe, hqv, v0_, v1_, v2_, hev, hvl⟩ := (HV.out.ext hxl).at hv
          subst hpe
          obtain ⟨mq, hnq⟩ : ∃ n, n = v.clk.length := ⟨_, rfl⟩
          rw [← hnq] at v2_ hev hqv
          have hjv : j < cv5 := by omega
          have HVV := Lib.hid (And.intro hv (And.intro hev (And.intro hnq hqv)))
          have hxy : Ext wr (wr.alloc (.cells #[.string v.name, .int .i64 v.kind, .slice pq mq cq] 30)) := (Ext.refl wr).alloc _
          have hby : BoxV wr.heap.size [.string v.name, .int .i64 v.kind, .slice pq mq cq] (wr.alloc (.cells #[.string v.name, .int .i64 v.kind, .slice pq mq cq] 30)) := BoxV.of_row (heap_alloc_last wr _)
          have HXY := Lib.hid hxy
          clear hv hev hnq hqv
          go_upto_region 10 with fail
          generalize (wr.alloc (.cells #[.string v.name, .int .i64 v.kind, .slice pq mq cq] 30)) = wy at hby hxy HXY ⊢
          generalize wr.heap.size = Y at hby ⊢
          have d0 := hby.cells 0 _ rfl
          have d1 := hby.cells 1 _ rfl
          have d2 := hby.cells 2 _ rfl
          have hyl := hby.lt
          clear hby hxy v0_ v1_ v2_ hvl
          have hnq : v.name.size ≤ maxLen := by
            have hv := List.mem_of_getElem? HVV.out.1
            rw [HMM.out] at hv
            unfold CP.vars at hv
            rcases List.mem_append.1 hv with h | h
            · rcases List.mem_append.1 h with h | h
              · exact (HOK.out.1.ins v h).name
              · exact (HOK.out.1.outs v h).name
            · exact (HOK.out.1.locals v h).name
          obtain ⟨w9, hrun, hm9, hg9⟩ := (HS.out.1.ext HXY.out).put Try.underlying9 Try.underlying73 (by unfold ctL maxLen; simp; omega) hnq (.slice pq mq cq)
          have hk9 : Kb [C] wy w9 := Kb.grown hg9 (fun g hg => by simp at hg; simp [hg])
          have H9 := Lib.hid (And.intro hm9 hk9)
          clear hm9 hk9 hg9 hnq
          go_wp2
          refine ⟨⟨j + 1, (v, .slice pq mq cq) :: tq, by omega, by go_num, by simp; omega, Lib.hid ⟨H9.out.1, (HS.out.2.trans (Kb.of_ext HXY.out)).trans H9.out.2⟩, Lib.hid ⟨?_, fun e he => ?_⟩⟩, by simp [intOf]; omega⟩
          · rw [HJ.out.1, drop_at HVV.out.1]
            simp [TQ.vt]
          · rcases List.mem_cons.1 he with rfl | he
            · exact HVV.out.2.1
            · exact HJ.out.2 e he
        · have hji : ¬ (j : Int) < (nm : Int) := fun e => hlt (Int.ofNat_lt.1 e)
          obtain rfl : j = nm := by omega
          have HTQ : Hid (clksH c = tq.vt ∧ ∀ e ∈ tq, EdIn w e.2 e.1.clk) := Lib.hid ⟨by rw [HJ.out.1, HNM2.out, List.drop_length]; simp, HJ.out.2⟩
          have hk6 := HS.out.2
          have HX6 : Hid (Ext w wr) := Lib.hid (hk6.ext (HSD.out.2.2.2.trans H5.out.2.1) (by have := HID.out; simp; omega))
          have HB6 := Lib.hid ((HBC.out.ext H5.out.2.1).kb hk6 (by have := HID.out; simp; omega))
          have HC6 := Lib.hid ((HSD.out.2.2.1.ext H5.out.2.1).kb hk6 (by have := HID.out; simp; omega))
          have HD6 := Lib.hid ((HSD.out.1.ext H5.out.2.1).kb hk6 (by have := HID.out; simp; omega))
          have HM6 := Lib.hid HS.out.1
          have x3 := HB6.out.cells 3 _ rfl
          have xl := HB6.out.lt
          clear hk6
          have hmk2 := run_make_row' (P := Try.prog) 42 36 (.slice none 0 0) 24 Try.underlying42 infoInts rfl .i64 .i64 k (by omega) (by omega)
          obtain ⟨wq6, hwq6⟩ : ∃ x, x = wr := ⟨_, rfl⟩
          subst hwq6
          go_upto_region 14 with fail
          have hbo : ((wq6.alloc (.cells (madeCells #[.slice none 0 0] k) 36)).alloc (.cells #[.slice (some ⟨wq6.heap.size, 0, none⟩) k k] 42)).heap[wq6.heap.size]? = some (.cells (madeCells #[.slice none 0 0] k) 36 (0, 0)) := ext_block ((Ext.refl _).alloc _) (heap_alloc_last wq6 _)
          have hb9 : BoxV (wq6.heap.size + 1) [.slice (some ⟨wq6.heap.size, 0, none⟩) k k] ((wq6.alloc (.cells (madeCells #[.slice none 0 0] k) 36)).alloc (.cells #[.slice (some ⟨wq6.heap.size, 0, none⟩) k k] 42)) := by
            have h1 := BoxV.of_row (heap_alloc_last (wq6.alloc (.cells (madeCells #[.slice none 0 0] k) 36)) (.cells #[.slice (some ⟨wq6.heap.size, 0, none⟩) k k] 42))
            have h2 : (wq6.alloc (.cells (madeCells #[.slice none 0 0] k) 36)).heap.size = wq6.heap.size + 1 := by simp
            rw [h2] at h1
            exact h1
          have hxo : Ext wq6 ((wq6.alloc (.cells (madeCells #[.slice none 0 0] k) 36)).alloc (.cells #[.slice (some ⟨wq6.heap.size, 0, none⟩) k k] 42)) := ((Ext.refl _).alloc _).alloc _
          generalize ((wq6.alloc (.cells (madeCells #[.slice none 0 0] k) 36)).alloc (.cells #[.slice (some ⟨wq6.heap.size, 0, none⟩) k k] 42)) = wo at hbo hb9 hxo ⊢
          obtain ⟨O, hO⟩ : ∃ z, z = wq6.heap.size := ⟨_, rfl⟩
          obtain ⟨b9, h9⟩ : ∃ z, z = O + 1 := ⟨_, rfl⟩
          rw [← hO, ← h9] at hb9
          rw [← hO] at hbo
          rw [← hO, ← h9]
          have hb0 : HB w b3 D C b9 O k dt tq (lsAt (rowQ dt tq.vt) c.eqs 0) wo := by
            have hr := RWs.made hbo (show w.heap.size ≤ O by have := HX6.out.size; omega)
            have ht : ∀ z, z ≠ O → ¬ TbO O wo z := fun z hz e => hz (RWs.made_tb hbo e)
            have e1 := HC6.out.lt
            have e2 := HD6.out.lt
            have e3 := HM6.out.lt
            refine ⟨HX6.out.trans hxo, HC6.out.ext hxo, HD6.out.ext hxo, HM6.out.ext hxo, HTQ.out.2, hb9, ⟨_, by rw [lsAt_zero, ← HN.out.2.2.2]; exact hr⟩, ht _ (by omega), ht _ (by omega), ht _ (by omega), ht _ (by omega)⟩
          have HB0 := Lib.hid hb0
          clear hbo hb9 hxo hb0 hO h9 x3 xl hmk2
          have hk100 : k ≤ 100000 := hle
          go_loopw [51] (fun iv wr => ∃ i3 : Nat, i3 ≤ k ∧ iv = .int .i64 (i3 : Int) ∧ Hid (HB w b3 D C b9 O k dt tq (lsAt (rowQ dt tq.vt) c.eqs i3) wr)) (fun iv _ => k - (intOf iv).toNat)
          case atStart => exact ⟨0, Nat.zero_le _, rfl, HB0⟩
          case round =>
            obtain ⟨i3, hi3, rfl, HS3⟩ := hrel
            by_cases hlt3 : i3 < k
            · have hji3 : (i3 : Int) < (k : Int) := Int.ofNat_lt.2 hlt3
              have hxw : Ext w wr := HS3.out.ext
              obtain ⟨q, hq⟩ : ∃ q, c.eqs[i3]? = some q := ⟨_, List.getElem?_eq_getElem (by have := HN.out.2.2.2; omega)⟩
              obtain ⟨b, o, pk, ck, hpe, hkq, hcq, hbl⟩ := HE.out.at hq
              subst hpe
              obtain ⟨nk, hnk⟩ : ∃ n, n = q.e.kids.length := ⟨_, rfl⟩
              rw [← hnk] at hkq hcq
              have hjc : i3 < c4 := by omega
              have hbl2 := Nat.lt_of_lt_of_le hbl hxw.size
              have c0_ := hxw.cell (hcq 0 _ rfl)
              have c1_ := hxw.cell (hcq 1 _ rfl)
              have c2_ := hxw.cell (hcq 2 _ rfl)
              have c3_ := hxw.cell (hcq 3 _ rfl)
              have c4_ := hxw.cell (hcq 4 _ rfl)
              have c5_ := hxw.cell (hcq 5 _ rfl)
              have c6_ := hxw.cell (hcq 6 _ rfl)
              have c7_ := hxw.cell (hcq 7 _ rfl)
              have c8_ := hxw.cell (hcq 8 _ rfl)
              have c9_ := hxw.cell (hcq 9 _ rfl)
              have c10_ := hxw.cell (hcq 10 _ rfl)
              have c11_ := hxw.cell (hcq 11 _ rfl)
              have c12_ := hxw.cell (hcq 12 _ rfl)
              rw [Nat.add_zero] at c0_
              have HX := Lib.hid (And.intro hq (And.intro hkq hnk))
              clear hq hkq hcq hbl hnk hxw
              go_upto_region 17 with fail
              have hb10 : BoxV wr.heap.size [.int .i64 (i3 : Int)] (((wr.alloc (.cells #[.int .i64 (i3 : Int)] 3)).alloc (.cells #[.int .i64 q.form, .string q.name, .int .i64 q.e.form, .int .i64 q.e.sub, .int .i64 q.e.kind, .int .i64 q.e.n, .string q.e.name, .slice pk nk ck, .int .i64 q.init, .string q.next, .string q.reset, .int .i64 q.period, .int .i64 q.offset] 35)).alloc (.cells #[.func (.func 44) #[] #[.pointer (some ⟨b3, 0, none⟩), .pointer (some ⟨b9, 0, none⟩), .pointer (some ⟨wr.heap.size, 0, none⟩)]] 93)) := ((BoxV.of_row (heap_alloc_last wr _)).ext ((Ext.refl _).alloc _)).ext ((Ext.refl _).alloc _)
              have hby : BoxV (wr.heap.size + 1) [.int .i64 q.form, .string q.name, .int .i64 q.e.form, .int .i64 q.e.sub, .int .i64 q.e.kind, .int .i64 q.e.n, .string q.e.name, .slice pk nk ck, .int .i64 q.init, .string q.next, .string q.reset, .int .i64 q.period, .int .i64 q.offset] (((wr.alloc (.cells #[.int .i64 (i3 : Int)] 3)).alloc (.cells #[.int .i64 q.form, .string q.name, .int .i64 q.e.form, .int .i64 q.e.sub, .int .i64 q.e.kind, .int .i64 q.e.n, .string q.e.name, .slice pk nk ck, .int .i64 q.init, .string q.next, .string q.reset, .int .i64 q.period, .int .i64 q.offset] 35)).alloc (.cells #[.func (.func 44) #[] #[.pointer (some ⟨b3, 0, none⟩), .pointer (some ⟨b9, 0, none⟩), .pointer (some ⟨wr.heap.size, 0, none⟩)]] 93)) := by
                have h1 := BoxV.of_row (heap_alloc_last (wr.alloc (.cells #[.int .i64 (i3 : Int)] 3)) (.cells #[.int .i64 q.form, .string q.name, .int .i64 q.e.form, .int .i64 q.e.sub, .int .i64 q.e.kind, .int .i64 q.e.n, .string q.e.name, .slice pk nk ck, .int .i64 q.init, .string q.next, .string q.reset, .int .i64 q.period, .int .i64 q.offset] 35))
                have h2 : (wr.alloc (.cells #[.int .i64 (i3 : Int)] 3)).heap.size = wr.heap.size + 1 := by simp
                rw [h2] at h1
                exact h1.ext ((Ext.refl _).alloc _)
              have hb12 : BoxV (wr.heap.size + 1 + 1) [.func (.func 44) #[] #[.pointer (some ⟨b3, 0, none⟩), .pointer (some ⟨b9, 0, none⟩), .pointer (some ⟨wr.heap.size, 0, none⟩)]] (((wr.alloc (.cells #[.int .i64 (i3 : Int)] 3)).alloc (.cells #[.int .i64 q.form, .string q.name, .int .i64 q.e.form, .int .i64 q.e.sub, .int .i64 q.e.kind, .int .i64 q.e.n, .string q.e.name, .slice pk nk ck, .int .i64 q.init, .string q.next, .string q.reset, .int .i64 q.period, .int .i64 q.offset] 35)).alloc (.cells #[.func (.func 44) #[] #[.pointer (some ⟨b3, 0, none⟩), .pointer (some ⟨b9, 0, none⟩), .pointer (some ⟨wr.heap.size, 0, none⟩)]] 93)) := by
                have h1 := BoxV.of_row (heap_alloc_last ((wr.alloc (.cells #[.int .i64 (i3 : Int)] 3)).alloc (.cells #[.int .i64 q.form, .string q.name, .int .i64 q.e.form, .int .i64 q.e.sub, .int .i64 q.e.kind, .int .i64 q.e.n, .string q.e.name, .slice pk nk ck, .int .i64 q.init, .string q.next, .string q.reset, .int .i64 q.period, .int .i64 q.offset] 35)) (.cells #[.func (.func 44) #[] #[.pointer (some ⟨b3, 0, none⟩), .pointer (some ⟨b9, 0, none⟩), .pointer (some ⟨wr.heap.size, 0, none⟩)]] 93))
                have h2 : ((wr.alloc (.cells #[.int .i64 (i3 : Int)] 3)).alloc (.cells #[.int .i64 q.form, .string q.name, .int .i64 q.e.form, .int .i64 q.e.sub, .int .i64 q.e.kind, .int .i64 q.e.n, .string q.e.name, .slice pk nk ck, .int .i64 q.init, .string q.next, .string q.reset, .int .i64 q.period, .int .i64 q.offset] 35)).heap.size = wr.heap.size + 1 + 1 := by simp
                rw [h2] at h1
                exact h1
              have hxc : Ext wr (((wr.alloc (.cells #[.int .i64 (i3 : Int)] 3)).alloc (.cells #[.int .i64 q.form, .string q.name, .int .i64 q.e.form, .int .i64 q.e.sub, .int .i64 q.e.kind, .int .i64 q.e.n, .string q.e.name, .slice pk nk ck, .int .i64 q.init, .string q.next, .string q.reset, .int .i64 q.period, .int .i64 q.offset] 35)).alloc (.cells #[.func (.func 44) #[] #[.pointer (some ⟨b3, 0, none⟩), .pointer (some ⟨b9, 0, none⟩), .pointer (some ⟨wr.heap.size, 0, none⟩)]] 93)) := ((Ext.refl _).alloc _ |>.alloc _).alloc _
              generalize (((wr.alloc (.cells #[.int .i64 (i3 : Int)] 3)).alloc (.cells #[.int .i64 q.form, .string q.name, .int .i64 q.e.form, .int .i64 q.e.sub, .int .i64 q.e.kind, .int .i64 q.e.n, .string q.e.name, .slice pk nk ck, .int .i64 q.init, .string q.next, .string q.reset, .int .i64 q.period, .int .i64 q.offset] 35)).alloc (.cells #[.func (.func 44) #[] #[.pointer (some ⟨b3, 0, none⟩), .pointer (some ⟨b9, 0, none⟩), .pointer (some ⟨wr.heap.size, 0, none⟩)]] 93)) = wc at hb10 hby hb12 hxc ⊢
              obtain ⟨b10, h10⟩ : ∃ z, z = wr.heap.size := ⟨_, rfl⟩
              obtain ⟨Y, hY⟩ : ∃ z, z = b10 + 1 := ⟨_, rfl⟩
              obtain ⟨b12, h12⟩ : ∃ z, z = Y + 1 := ⟨_, rfl⟩
              rw [← h10, ← hY, ← h12] at hb12
              rw [← h10, ← hY] at hby
              rw [← h10] at hb10
              rw [← h10, ← hY, ← h12]
              have hbc := HS3.out.next hxc
              have htn : ∀ z, wr.heap.size ≤ z → ¬ TbO O wc z := fun z hz e => HS3.out.tb hz (HS3.out.same hxc z e)
              have hli : i3 < (lsAt (rowQ dt tq.vt) c.eqs i3).length := by rw [lsAt_len _ _ (by rw [← HN.out.2.2.2]; exact hi3), ← HN.out.2.2.2]; exact hlt3
              obtain ⟨ls0, hls⟩ : ∃ z, z = lsAt (rowQ dt tq.vt) c.eqs i3 := ⟨_, rfl⟩
              have HLS : Hid (ls0[i3]? = some [] ∧ ls0.set i3 (rowQ dt tq.vt q) = lsAt (rowQ dt tq.vt) c.eqs (i3 + 1)) := Lib.hid ⟨by rw [hls]; exact lsAt_get _ _ (by rw [← HN.out.2.2.2]; exact hlt3), by rw [hls]; exact lsAt_set _ _ HX.out.1⟩
              have hst : StH w b3 D b9 O b10 b12 k i3 dt ls0 [] wc := by
                refine ⟨?_, hb12, htn _ (by omega), by rw [hls]; exact hli⟩
                have h1 := hbc.toG (i := i3) hb10 (htn _ (by omega)) hlt3 HDT.out.2
                rw [← hls] at h1
                have h2 := set_same HLS.out.1
                rw [List.append_nil] at h2
                rw [h2]
                exact h1
              have HST := Lib.hid hst
              have HBC2 : Hid (HB w b3 D C b9 O k dt tq (lsAt (rowQ dt tq.vt) c.eqs i3) wc) := Lib.hid hbc
              have HYB := Lib.hid (And.intro hby (htn Y (by omega)))
              have HOQ := Lib.hid (HOK.out.1.eqs q (List.mem_of_getElem? HX.out.1))
              obtain ⟨pv, cv, hlk, hev⟩ := hbc.look HOQ.out.name
              obtain ⟨V, hV⟩ : ∃ z, z = clkT tq.vt q.name := ⟨_, rfl⟩
              rw [← hV] at hlk hev
              obtain ⟨vl, hvl⟩ : ∃ z, z = V.length := ⟨_, rfl⟩
              rw [← hvl] at hlk hev
              have hvlb : vl ≤ 400000 := by rw [hvl, hV, ← HTQ.out.1]; exact HOK.out.2.2 q.name
              obtain ⟨pz8, cz8, e8, hdv8, hmv8⟩ := hev.slice
              simp only [Value.slice.injEq] at e8
              have hcv8 : (cv : Int) ≤ 9223372036854775807 := by rw [e8.2.2]; unfold maxLen at hmv8; omega
              have hdv9 : vl ≤ cv := by rw [e8.2.2, hvl]; exact hdv8
              have HVV := Lib.hid (And.intro hV (And.intro hvl hev))
              have d1 := hby.cells 1 _ rfl
              have hyl := hby.lt
              clear hb10 hby hb12 hbc hst htn hV hvl hev e8 hmv8 hdv8 h10 hY h12 hls hli c0_ c1_ c2_ c3_ c4_ c5_ c6_ c7_ c8_ c9_ c10_ c11_ c12_ hbl2
              go_upto_region 18 with fail
              clear d1 hyl hlk
              go_loopw [62] (fun iv wr => ∃ (j4 : Nat) (row : List Int), j4 ≤ vl ∧ iv = .int .i64 (j4 : Int) ∧ row.length ≤ j4 ∧ Hid (Kt (TbO O) wc wr ∧ StH w b3 D b9 O b10 b12 k i3 dt ls0 row wr) ∧ Hid (row = onH dt ((V.take j4).map (·.1)))) (fun iv _ => vl - (intOf iv).toNat)
              case atStart => exact ⟨0, [], Nat.zero_le _, rfl, Nat.le_refl _, Lib.hid ⟨Kt.refl _ _, HST.out⟩, Lib.hid (by simp [onH_nil])⟩
              case round =>
                obtain ⟨j4, row, hj4, rfl, hrl, HS4, HJ4⟩ := hrel
                by_cases hlt4 : j4 < vl
                · have hji4 : (j4 : Int) < (vl : Int) := Int.ofNat_lt.2 hlt4
                  obtain ⟨g_, hg_⟩ : ∃ g, V[j4]? = some g := ⟨_, List.getElem?_eq_getElem (by rw [← HVV.out.2.1]; exact hlt4)⟩
                  obtain ⟨be_, oe_, hpe, e0_, e1_, hel⟩ := (HVV.out.2.2.ext HS4.out.2.g.ext).at hg_
                  subst hpe
                  have hjcv : j4 < cv := by omega
                  have HGG := Lib.hid hg_
                  clear hg_
                  have b0 := HS4.out.2.c12.cells 0 _ rfl
                  have bl := HS4.out.2.c12.lt
                  have b0 := ((Ext.refl wr).alloc (.cells #[.string g_.1, .bool g_.2] 51)).cell b0
                  have bl : b12 < (wr.alloc (.cells #[.string g_.1, .bool g_.2] 51)).heap.size := by simp; omega
                  have hxy : Ext wr (wr.alloc (.cells #[.string g_.1, .bool g_.2] 51)) := (Ext.refl wr).alloc _
                  have hby : BoxV wr.heap.size [.string g_.1, .bool g_.2] (wr.alloc (.cells #[.string g_.1, .bool g_.2] 51)) := BoxV.of_row (heap_alloc_last wr _)
                  have HXY := Lib.hid hxy
                  go_upto_region 20 with fail
                  generalize (wr.alloc (.cells #[.string g_.1, .bool g_.2] 51)) = wy at hby hxy HXY b0 bl ⊢
                  generalize wr.heap.size = Y2 at hby ⊢
                  have d0e := hby.cells 0 _ rfl
                  have d1e := hby.cells 1 _ rfl
                  have hyle := hby.lt
                  clear hby hxy e0_ e1_ hel
                  have HST5 := Lib.hid (HS4.out.2.next HXY.out)
                  have hns : g_.1.size ≤ maxLen := by
                    have h1 := List.mem_of_getElem? HGG.out
                    rw [HVV.out.1] at h1
                    exact clk_names HTQ.out.1 HOK.out.1 h1
                  have HF := Lib.hid (HST5.out.call g_.1 (by omega) hns)
                  have hrow : (row ++ on1 dt g_.1).length ≤ j4 + 1 := by rw [List.length_append]; have := on1_len dt g_.1; omega
                  have HRW : Hid (row ++ on1 dt g_.1 = onH dt ((V.take (j4 + 1)).map (·.1))) := Lib.hid (by
                    obtain ⟨h1, h2⟩ := List.getElem?_eq_some_iff.1 HGG.out
                    rw [List.take_succ_eq_append_getElem h1, h2, List.map_append, onH_app, HJ4.out]
                    simp [onH_cons, onH_nil])
                  have HKT := Lib.hid (HS4.out.1.trans (Kt.of_ext HXY.out (HS4.out.2.g.same HXY.out)))
                  clear hns
                  go_wp2_with (first | (go_at_call 44; refine HF.out.mono ?_; rintro e5 w7 ⟨rfl, H7⟩) | fail)
                  exact ⟨⟨j4 + 1, row ++ on1 dt g_.1, by omega, by go_num, hrow, Lib.hid ⟨HKT.out.trans H7.out.1, HST5.out.put H7.out.1 H7.out.2⟩, HRW⟩, by simp [intOf]; omega⟩
                · have hji4 : ¬ (j4 : Int) < (vl : Int) := fun e => hlt4 (Int.ofNat_lt.1 e)
                  obtain rfl : j4 = vl := by omega
                  have HRO : Hid (row = onH dt (V.map (·.1))) := Lib.hid (by rw [HJ4.out, HVV.out.2.1, List.take_length])
                  have hby := HS4.out.1.box HYB.out.1 HYB.out.2
                  have d0 := hby.cells 0 _ rfl
                  have d1 := hby.cells 1 _ rfl
                  have d2 := hby.cells 2 _ rfl
                  have d3 := hby.cells 3 _ rfl
                  have d4 := hby.cells 4 _ rfl
                  have d5 := hby.cells 5 _ rfl
                  have d6 := hby.cells 6 _ rfl
                  have d7 := hby.cells 7 _ rfl
                  have d8 := hby.cells 8 _ rfl
                  have d9 := hby.cells 9 _ rfl
                  have d10 := hby.cells 10 _ rfl
                  have d11 := hby.cells 11 _ rfl
                  have d12 := hby.cells 12 _ rfl
                  have hyl := hby.lt
                  have b0 := HS4.out.2.c12.cells 0 _ rfl
                  have bl := HS4.out.2.c12.lt
                  clear hby
                  obtain ⟨wq8, hwq8⟩ : ∃ x, x = wr := ⟨_, rfl⟩
                  subst hwq8
                  have HFIN : Hid (∀ (rf : List Int) (w9 : World), Kt (TbO O) wq8 w9 → StH w b3 D b9 O b10 b12 k i3 dt ls0 rf w9 → rf = rowQ dt tq.vt q → HB w b3 D C b9 O k dt tq (lsAt (rowQ dt tq.vt) c.eqs (i3 + 1)) w9) := Lib.hid (fun rf w9 hk hg he => HBC2.out.fin (HS4.out.1.trans hk) hg (by rw [he]; exact HLS.out.2))
                  by_cases a1 : q.form = 1
                  · have q1 : (q.form == 1) = true := by simpa using a1
                    have HRF : Hid (row ++ onH dt (readsE q.e) = rowQ dt tq.vt q) := Lib.hid (by
                      unfold rowQ namesQ
                      rw [if_pos a1, onH_app, HRO.out, HVV.out.1])
                    have HF : Hid (Calls Try.prog 45 #[.agg #[.int .i64 q.e.form, .int .i64 q.e.sub, .int .i64 q.e.kind, .int .i64 q.e.n, .string q.e.name, .slice pk nk ck], .func (.func 46) #[] #[.pointer (some ⟨b12, 0, none⟩)]] wq8 (fun e w' => e = .returned (.bool true) ∧ Hid (Kt (TbO O) wq8 w' ∧ StH w b3 D b9 O b10 b12 k i3 dt ls0 (row ++ onH dt (readsE q.e)) w'))) := Lib.hid (by
                      have h1 := ceachT_at w (TbO O) (StH w b3 D b9 O b10 b12 k i3 dt ls0) List.length 1000000 (stepH dt) _ _ (clo_hangs2 w b3 D b9 O b10 b12 k i3 dt ls0) (SizeOf.sizeOf q.e + 1) q.e (Nat.lt_succ_self _) _ row wq8 HS4.out.2.g.ext HS4.out.2 HX.out.2.1 HOQ.out.e (by have := HOK.out.2.1 q (List.mem_of_getElem? HX.out.1) a1; omega)
                      rw [gpE_stepH] at h1
                      rw [HX.out.2.2] at h1 ⊢
                      exact h1)
                    clear a1
                    go_wp2_with (first | (go_at_call 45; refine HF.out.mono ?_; rintro e5 w7 ⟨rfl, H7⟩) | fail)
                    exact ⟨⟨i3 + 1, by omega, by go_num, Lib.hid (HFIN.out _ _ H7.out.1 H7.out.2 HRF.out)⟩, by simp [intOf]; omega⟩
                  · have q1 : (q.form == 1) = false := by simpa using a1
                    by_cases a2 : q.form = 2
                    · have q2 : (q.form == 2) = true := by simpa using a2
                      by_cases a3 : q.reset = ⟨#[]⟩
                      · have r3 : q.reset.toList.isEmpty = true := by rw [ba_nil.2 a3]; rfl
                        have r4 : q.reset.toList = [] := ba_nil.2 a3
                        have HRF : Hid (row = rowQ dt tq.vt q) := Lib.hid (by
                          unfold rowQ namesQ
                          rw [if_neg a1, if_pos a2, if_pos a3, List.append_nil, HRO.out, HVV.out.1])
                        clear a1 a2
                        go_wp2_with fail
                        exact ⟨⟨i3 + 1, by omega, by go_num, Lib.hid (HFIN.out _ _ (Kt.refl _ _) HS4.out.2 HRF.out)⟩, by simp [intOf]; omega⟩
                      · have r3 : q.reset.toList.isEmpty = false := by
                          cases h : q.reset.toList with
                          | nil => exact absurd (ba_nil.1 h) a3
                          | cons _ _ => rfl
                        have r4 : ¬ q.reset.toList = [] := fun e => a3 (ba_nil.1 e)
                        have HRF : Hid (row ++ on1 dt q.reset = rowQ dt tq.vt q) := Lib.hid (by
                          unfold rowQ namesQ
                          rw [if_neg a1, if_pos a2, if_neg a3, onH_app, onH_cons, onH_nil, List.append_nil, HRO.out, HVV.out.1])
                        have HF := Lib.hid (HS4.out.2.call q.reset (by omega) HOQ.out.reset)
                        clear a1 a2
                        go_wp2_with (first | (go_at_call 44; refine HF.out.mono ?_; rintro e5 w7 ⟨rfl, H7⟩) | fail)
                        exact ⟨⟨i3 + 1, by omega, by go_num, Lib.hid (HFIN.out _ _ H7.out.1 (HS4.out.2.put H7.out.1 H7.out.2) HRF.out)⟩, by simp [intOf]; omega⟩
                    · have q2 : (q.form == 2) = false := by simpa using a2
                      have HRF : Hid (row = rowQ dt tq.vt q) := Lib.hid (by
                        unfold rowQ namesQ
                        rw [if_neg a1, if_neg a2, List.append_nil, HRO.out, HVV.out.1])
                      clear a1 a2
                      go_wp2_with fail
                      exact ⟨⟨i3 + 1, by omega, by go_num, Lib.hid (HFIN.out _ _ (Kt.refl _ _) HS4.out.2 HRF.out)⟩, by simp [intOf]; omega⟩
            · have hji3 : ¬ (i3 : Int) < (k : Int) := fun e => hlt3 (Int.ofNat_lt.1 e)
              obtain rfl : i3 = k := by omega
              have y9 := HS3.out.c9.cells 0 _ rfl
              have yl := HS3.out.c9.lt
              go_wp2
              rw [HQ.out]
              obtain ⟨vs, hrw⟩ := HS3.out.rws
              refine ⟨O, vs, by rw [HN.out.2.2.2], Lib.hid ⟨?_, HS3.out.ext⟩⟩
              have h1 := hrw.rows (Nat.le_refl _) (by unfold maxLen; omega)
              have h2 : lsAt (rowQ dt tq.vt) c.eqs i3 = hangsV c := by
                rw [HN.out.2.2.2, lsAt_end, ← HTQ.out.1, ← HDT.out.1]
                rfl
              rw [← HN.out.2.2.2, ← h2]
              exact h1
end Go.Proofs.Ytmommjagndadjaa

/-
  The walk: an expression's kind.
  Condition: the expression lies in memory, and its forms have their kids.
  The walks: inputs' kinds; do ticks fit.
  Conditions: the variables and the rows lie in memory.
  A run of a flat program: plain.
  No condition.
  The walk: a name's kind.
  Condition: the program and its checker lie in memory.
-/
import Derived.Test.YtmommjagndadjaaJcE
import Derived.Test.YtmommjagndadjaaJcC
import Derived.Test.YtmommjagndadjaaJcA
import Derived.Test.YtmommjagndadjaaJcB
import Derived.OwnWalk
import Derived.Test.YtmommjagndadjaaJcF
namespace Go.Proofs.Ytmommjagndadjaa
open Go.RowKit
set_option linter.unusedSimpArgs false
set_option linter.unusedVariables false
set_option maxRecDepth 100000

set_option maxHeartbeats 4000000 in
theorem bvKind_any (op k : Int) (w : World) :
    Calls Try.prog 70 #[.int .i64 op, .int .i64 k] w fun e w' => e = .returned (.tuple #[.int .i64 (binv op k 0 0).2.1, .bool (binv op k 0 0).2.2]) ∧ Ext w w' := by
  have HF := Lib.hid (bvBin_any op k 0 0 (by unfold I64; omega) w)
  obtain ⟨r, hr⟩ : ∃ r, r = binv op k 0 0 := ⟨_, rfl⟩
  rw [← hr] at HF
  rw [← hr]
  clear hr
  go_enter Try.func70, Try.ntmps70
  go_wp2_with (first | (go_at_call 81; refine HF.out.mono ?_; rintro e w1 ⟨rfl, hx⟩) | fail)
  go_ret2
  exact ⟨rfl, hx⟩
/-- How many kids a form reads. -/
def wantF (f : Int) : Nat := if f = 3 then 1 else if f = 4 then 2 else if f = 5 then 3 else if f = 9 then 1 else if f = 10 then 2 else 0
def frmB (e : CE) : Bool := decide (wantF e.form ≤ e.kids.length) && decide (e.kids.length ≤ 3)
def frm (e : CE) : Prop := partsE frmB e = true
theorem partsL_at {p : CE → Bool} : ∀ {l : List CE} {i : Nat} {x : CE}, partsL p l = true → l[i]? = some x → partsE p x = true
  | [], _, _, _, h => by simp at h
  | y :: l, 0, x, h, hx => by
    rw [partsL, Bool.and_eq_true] at h
    simp at hx
    rw [← hx]; exact h.1
  | y :: l, i + 1, x, h, hx => by
    rw [partsL, Bool.and_eq_true] at h
    exact partsL_at h.2 (by simpa using hx)
theorem partsE_eq (p : CE → Bool) (e : CE) : partsE p e = (p e && partsL p e.kids) := by
  cases e with
  | mk f s k n nm ks => rw [partsE]; rfl
theorem frm.here {e : CE} (h : frm e) : wantF e.form ≤ e.kids.length ∧ e.kids.length ≤ 3 := by
  unfold frm at h
  rw [partsE_eq, Bool.and_eq_true] at h
  have := h.1
  unfold frmB at this
  simpa using this
theorem frm.at {e x : CE} {i : Nat} (h : frm e) (hx : e.kids[i]? = some x) : frm x := by
  unfold frm at h ⊢
  rw [partsE_eq, Bool.and_eq_true] at h
  exact partsL_at h.2 hx
/-- Kinds of the kids so far. -/
theorem kindL_zero (of : ByteArray → Int) {ks : List CE} {j : Nat} {x : CE} (hx : ks[j]? = some x) (h0 : kindE of x = 0) : kindL of (ks.drop j) = none := by
  obtain ⟨h1, rfl⟩ := List.getElem?_eq_some_iff.1 hx
  rw [List.drop_eq_getElem_cons h1, kindL, if_pos h0]
theorem kindL_more (of : ByteArray → Int) {ks : List CE} {j : Nat} {x : CE} (hx : ks[j]? = some x) (h0 : kindE of x ≠ 0) : kindL of (ks.drop j) = (kindL of (ks.drop (j + 1))).map (kindE of x :: ·) := by
  obtain ⟨h1, rfl⟩ := List.getElem?_eq_some_iff.1 hx
  rw [List.drop_eq_getElem_cons h1, kindL, if_neg h0]
theorem kindE_eq (of : ByteArray → Int) (e : CE) : kindE of e = kindF of e.form e.sub e.kind e.name (kindL of e.kids) := by
  cases e with
  | mk f s k n nm ks => rw [kindE]; rfl
theorem kindF_3 (of : ByteArray → Int) (s k : Int) (nm : ByteArray) (l : List Int) : kindF of 3 s k nm (some l) = if (unv s (l.getD 0 0) 0).2 then l.getD 0 0 else 0 := rfl
theorem kindF_4 (of : ByteArray → Int) (s k : Int) (nm : ByteArray) (l : List Int) : kindF of 4 s k nm (some l) = if (binv s (l.getD 0 0) 0 0).2.2 ∧ l.getD 0 0 = l.getD 1 0 then (binv s (l.getD 0 0) 0 0).2.1 else 0 := rfl
theorem kindF_5 (of : ByteArray → Int) (s k : Int) (nm : ByteArray) (l : List Int) : kindF of 5 s k nm (some l) = if l.getD 0 0 = 1 ∧ l.getD 1 0 = l.getD 2 0 then l.getD 1 0 else 0 := rfl
theorem kindF_11 (of : ByteArray → Int) (s k : Int) (nm : ByteArray) (l : List Int) : kindF of 11 s k nm (some l) = if 0 < width k then k else 0 := rfl
theorem kindF_9 (of : ByteArray → Int) (s k : Int) (nm : ByteArray) (l : List Int) : kindF of 9 s k nm (some l) = if of nm = 1 then l.getD 0 0 else 0 := rfl
theorem kindF_10 (of : ByteArray → Int) (s k : Int) (nm : ByteArray) (l : List Int) : kindF of 10 s k nm (some l) = if of nm = 1 ∧ l.getD 0 0 = l.getD 1 0 then l.getD 0 0 else 0 := rfl
def RetI (v : Int) (w : World) (e : Ending) (w' : World) : Prop := e = .returned (.int .i64 v) ∧ Hid (Ext w w')
/-- A function value that tells names' kinds. -/
structure CloN (W0 : World) (St : World → Prop) (of : ByteArray → Int) (fn : FuncId) (rcv : Value) : Prop where
  st : ∀ w w', St w → Ext w w' → St w'
  enter : ∀ args w, Sem.run Try.prog (callFunc fn args) w = .ok (.enter fn args) w
  call : ∀ w n, Ext W0 w → St w → n.size ≤ maxLen → Calls Try.prog fn #[rcv, .string n] w (RetI (of n) w)
theorem row_cells {w : World} {base n : Nat} {p : Option Addr} {c : Nat} {l : List Int} (h : w.ownsRow base 3 1 (.slice p n c) n (i64s l)) (hl : l.length = n) (h0 : 0 < n) : ∃ b o, p = some ⟨b, o, none⟩ ∧ b < w.heap.size ∧ ∀ i, i < n → w.cell? ⟨b, o + i, none⟩ = some (.int .i64 (l.getD i 0)) := by
  obtain ⟨a, cap, e, -, -, hc⟩ := SlC.of_owns h
  simp only [Value.slice.injEq] at e
  have hg : ∀ i, i < n → (i64s l)[i]? = some (.int .i64 (l.getD i 0)) := fun i hi => by
    have : i < l.length := by omega
    simp [i64s, List.getElem?_map, List.getElem?_eq_getElem this, List.getD]
  obtain ⟨b, o, e1, h1⟩ := hc 0 _ (hg 0 h0)
  refine ⟨b, o, e.1.trans e1, World.block_lt_of_cell? w _ h1, fun i hi => ?_⟩
  obtain ⟨b', o', e2, h2⟩ := hc i _ (hg i hi)
  rw [e1] at e2
  simp only [Option.some.injEq, Addr.mk.injEq] at e2
  obtain ⟨rfl, rfl, -⟩ := e2
  exact h2
set_option maxHeartbeats 8000000 in
theorem kind_at (W0 : World) (St : World → Prop) (of : ByteArray → Int) (fn : FuncId) (rcv : Value) (HC : CloN W0 St of fn rcv) :
    ∀ (N : Nat) (e : CE), SizeOf.sizeOf e < N → ∀ (kv : Value) (w : World), Ext W0 w → St w → KIn W0 e kv → okE e → frm e →
    Calls Try.prog 59 #[eVal e kv, .func (.func fn) #[rcv] #[]] w (RetI (kindE of e) w) := by
  intro N
  induction N with
  | zero => intro e h; omega
  | succ N ih =>
    intro e hN kv w hx hst hk hok hfr
    have HIH := Lib.hid ih
    have HW := Lib.hid (And.intro HC (And.intro hN (And.intro hx (And.intro hst (And.intro hk (And.intro hok hfr))))))
    obtain ⟨R, hR⟩ : ∃ R, R = kindE of e := ⟨_, rfl⟩
    rw [← hR]
    obtain ⟨Q, hQ⟩ : ∃ Q, Q = RetI R w := ⟨_, rfl⟩
    rw [← hQ]
    have HQ := Lib.hid hQ
    obtain ⟨p, c, rfl, hkc, hcm⟩ := hk.slice
    obtain ⟨n, hn⟩ : ∃ n, n = e.kids.length := ⟨_, rfl⟩
    rw [← hn] at hkc ⊢
    have hcI : (c : Int) ≤ 9223372036854775807 := by unfold maxLen at hcm; omega
    have hn3 : n ≤ 3 := by rw [hn]; exact hfr.here.2
    have HN := Lib.hid (And.intro hn hfr.here.1)
    obtain ⟨f, hf⟩ : ∃ f, f = e.form := ⟨_, rfl⟩
    obtain ⟨s, hs⟩ : ∃ s, s = e.sub := ⟨_, rfl⟩
    obtain ⟨k, hk2⟩ : ∃ s, s = e.kind := ⟨_, rfl⟩
    obtain ⟨nn, hnn⟩ : ∃ s, s = e.n := ⟨_, rfl⟩
    obtain ⟨nm, hnm⟩ : ∃ s, s = e.name := ⟨_, rfl⟩
    have HR : Hid (R = kindF of f s k nm (kindL of e.kids)) := Lib.hid (by rw [hR, kindE_eq, hf, hs, hk2, hnm])
    have HNM : Hid (nm.size ≤ maxLen ∧ f = e.form) := Lib.hid ⟨by rw [hnm]; exact hok.name, hf⟩
    have HE := Lib.hid (show eVal e (.slice p n c) = .agg #[.int .i64 f, .int .i64 s, .int .i64 k, .int .i64 nn, .string nm, .slice p n c] by rw [hf, hs, hk2, hnn, hnm]; rfl)
    rw [HE.out]
    have hcf := HC.enter
    clear hQ hR hn hf hs hk2 hnn hnm hx hst hk hok hN HC ih hcm hfr
    go_enter Try.func59, Try.ntmps59
    go_upto_region 1 with fail
    have hbx : BoxV w.heap.size [.int .i64 f, .int .i64 s, .int .i64 k, .int .i64 nn, .string nm, .slice p n c] (w.alloc (.cells #[.int .i64 f, .int .i64 s, .int .i64 k, .int .i64 nn, .string nm, .slice p n c] 33)) := BoxV.of_row (heap_alloc_last w _)
    have hxb : Ext w (w.alloc (.cells #[.int .i64 f, .int .i64 s, .int .i64 k, .int .i64 nn, .string nm, .slice p n c] 33)) := (Ext.refl w).alloc _
    generalize w.alloc (.cells #[.int .i64 f, .int .i64 s, .int .i64 k, .int .i64 nn, .string nm, .slice p n c] 33) = wb at hbx hxb ⊢
    generalize w.heap.size = X at hbx ⊢
    have HB := Lib.hid (And.intro hxb hbx)
    have p5 := hbx.cells 5 _ rfl
    have hxl := hbx.lt
    clear hbx hxb
    go_upto_region 3 with fail
    go_loopw [5, 16] (fun v i wr => ∃ (j c1 : Nat) (p1 : Option Addr) (l : List Int), j ≤ n ∧ i = .int .i64 (j : Int) ∧ v = .slice p1 j c1 ∧ Hid (l.length = j ∧ wr.ownsRow wb.heap.size 3 1 (.slice p1 j c1) j (i64s l)) ∧ Hid (Ext wb wr) ∧ Hid (kindL of e.kids = (kindL of (e.kids.drop j)).map (l ++ ·))) (fun _ i _ => n - (intOf i).toNat)
    case atStart => exact ⟨0, 0, none, [], Nat.zero_le _, rfl, rfl, Lib.hid ⟨rfl, own_nil _ _ _ _⟩, Lib.hid (Ext.refl _), Lib.hid (by simp)⟩
    case round =>
      obtain ⟨j, c1, p1, l, hj, rfl, rfl, HO, HX, HL⟩ := hrel
      by_cases hlt : j < n
      · have hki : (j : Int) < (n : Int) := Int.ofNat_lt.2 hlt
        obtain ⟨x, hx⟩ : ∃ x, e.kids[j]? = some x := ⟨_, List.getElem?_eq_getElem (by have := HN.out.1; omega)⟩
        have hxw : Ext W0 wr := HW.out.2.2.1.trans (HB.out.1.trans HX.out)
        have hkw := HW.out.2.2.2.2.1
        rw [← HN.out.1] at hkw
        obtain ⟨-, -, -, b, o, xv, rfl, hkx, e0, e1, e2, e3, e4, e5, hbl⟩ := hkw.at hx
        obtain ⟨q, d, rfl, -, -⟩ := hkx.slice
        replace e0 := hxw.cell e0
        replace e1 := hxw.cell e1
        replace e2 := hxw.cell e2
        replace e3 := hxw.cell e3
        replace e4 := hxw.cell e4
        replace e5 := hxw.cell e5
        replace hbl := Nat.lt_of_lt_of_le hbl hxw.size
        obtain ⟨m, hm⟩ : ∃ m, m = x.kids.length := ⟨_, rfl⟩
        have hjc : j < c := by omega
        have HEX := Lib.hid (show eVal x (.slice q x.kids.length d) = .agg #[.int .i64 x.form, .int .i64 x.sub, .int .i64 x.kind, .int .i64 x.n, .string x.name, .slice q m d] by rw [hm]; rfl)
        rw [← hm] at e5
        obtain ⟨r, hr⟩ : ∃ r, r = kindE of x := ⟨_, rfl⟩
        have hxa : Ext wr (wr.alloc (.cells #[.int .i64 x.form, .int .i64 x.sub, .int .i64 x.kind, .int .i64 x.n, .string x.name, .slice q m d] 33)) := (Ext.refl wr).alloc _
        have HXA := Lib.hid hxa
        have HF : Hid (Calls Try.prog 59 #[.agg #[.int .i64 x.form, .int .i64 x.sub, .int .i64 x.kind, .int .i64 x.n, .string x.name, .slice q m d], .func (.func fn) #[rcv] #[]] (wr.alloc (.cells #[.int .i64 x.form, .int .i64 x.sub, .int .i64 x.kind, .int .i64 x.n, .string x.name, .slice q m d] 33)) (RetI r (wr.alloc (.cells #[.int .i64 x.form, .int .i64 x.sub, .int .i64 x.kind, .int .i64 x.n, .string x.name, .slice q m d] 33)))) := Lib.hid (by
          rw [hr, ← HEX.out]
          have hs1 := CE.size_kids e
          have hs2 := size_at hx
          have hN := HW.out.2.1
          exact HIH.out x (by omega) _ _ (hxw.trans hxa) (HW.out.1.st _ _ HW.out.2.2.2.1 ((HB.out.1.trans HX.out).trans hxa)) hkx (HW.out.2.2.2.2.2.1.kids.at hx) (HW.out.2.2.2.2.2.2.at hx))
        have HXX := Lib.hid (And.intro hx hr)
        clear hx hxw hkw hkx hm hr hxa
        by_cases h0 : r = 0
        · subst h0
          go_wp2_with (first | (go_at_call 59; refine HF.out.mono ?_; rintro e1 w2 ⟨rfl, H2⟩) | fail)
          have h1 : R = 0 := by rw [HR.out, HL.out, kindL_zero of HXX.out.1 HXX.out.2.symm]; rfl
          rw [HQ.out, h1]
          exact ⟨rfl, Lib.hid (HB.out.1.trans (HX.out.trans (HXA.out.trans H2.out)))⟩
        · have hb0 : (r == 0) = false := by simpa using h0
          have H0 := Lib.hid h0
          clear h0
          go_upto_region 6 with (first | (go_at_call 59; refine HF.out.mono ?_; rintro e1 w2 ⟨rfl, H2⟩) | fail)
          have HO2 : Hid (w2.ownsRow wb.heap.size 3 1 (.slice p1 j c1) j (i64s l)) := Lib.hid (ownsRow_ext HO.out.2 (HXA.out.trans H2.out))
          have HX2 : Hid (Ext wb w2) := Lib.hid (HX.out.trans (HXA.out.trans H2.out))
          go_wp2_with (at_builtin; (refine wpList_append_slc _ rfl (.tmp 25) (.tmp 27) 36 rfl wb.heap.size 3 (.int .i64 0) 1 8 Try.underlying36 infoInt rfl (by decide) (.slice p1 j c1) j (i64s l) rfl (HO2.out.alloc (.cells #[.int .i64 r] 3)) _ 1 [.int .i64 r] rfl (SlC.fresh _ #[.int .i64 r] _ 1 _ (by simp) (by decide)) rfl (by simp [Value.oneCell']) (by unfold maxLen; omega) (by omega) (by have := HX2.out.size; simp; omega) ?_; intro v9 w9 hown9 hg9 hat9; obtain ⟨x9, y9, z9, rfl⟩ := own_slice3 hown9; have HP := Lib.hid (And.intro hown9 (And.intro hg9 hat9)); clear hown9 hg9 hat9))
          have hk9 : Kb (Value.ownBlock (.slice p1 j c1)).toList (w2.alloc (.cells #[.int .i64 r] 3)) w9 := Kb.grown HP.out.2.1 (fun g hg => Option.mem_toList.2 hg)
          have hx9 : Ext wb w9 := hk9.ext (HX2.out.alloc _) (fun g hg => (HO2.out.lt g (Option.mem_toList.1 hg)).1)
          have hy : y9 = j + 1 := by
            obtain ⟨a', c', e, -⟩ := SlC.of_owns HP.out.1
            simp at e
            exact e.2.1
          subst hy
          refine ⟨⟨j + 1, z9, x9, l ++ [r], by omega, by go_num, rfl, Lib.hid ⟨by have := HO.out.1; simp; omega, by have := HP.out.1; simpa [i64s] using this⟩, Lib.hid hx9, Lib.hid ?_⟩, by simp [intOf]; omega⟩
          rw [HL.out, kindL_more of HXX.out.1 (by rw [← HXX.out.2]; exact H0.out), ← HXX.out.2, Option.map_map]
          congr 1
          funext z
          simp
      · have hki : ¬ (j : Int) < (n : Int) := fun e => hlt (Int.ofNat_lt.1 e)
        obtain rfl : j = n := by omega
        have hRl : Hid (R = kindF of f s k nm (some l)) := Lib.hid (by
          rw [HR.out, HL.out, HN.out.1, List.drop_length, kindL]; simp)
        have hbw := HB.out.2.ext HX.out
        have p0 := hbw.cells 0 _ rfl
        have p1' := hbw.cells 1 _ rfl
        have p2 := hbw.cells 2 _ rfl
        have p4 := hbw.cells 4 _ rfl
        have hxl2 := hbw.lt
        have HXW := Lib.hid (HB.out.1.trans HX.out)
        have HWF : Hid (wantF f ≤ j) := Lib.hid (by rw [HNM.out.2]; have := HN.out.2; rw [← HN.out.1] at this; exact this)
        have HOF : Hid (∀ w1, Ext wr w1 → Calls Try.prog fn #[rcv, .string nm] w1 fun e w' => e = .returned (.int .i64 (of nm)) ∧ Ext w1 w') := Lib.hid (fun w1 hx1 => by
          refine (HW.out.1.call w1 nm ((HW.out.2.2.1.trans HXW.out).trans hx1) (HW.out.1.st _ _ HW.out.2.2.2.1 (HXW.out.trans hx1)) HNM.out.1).mono ?_
          rintro e1 w2 ⟨h1, h2⟩
          exact ⟨h1, h2.out⟩)
        have HCE : Hid (0 < j → ∃ b o, p1 = some ⟨b, o, none⟩ ∧ b < wr.heap.size ∧ ∀ i, i < j → wr.cell? ⟨b, o + i, none⟩ = some (.int .i64 (l.getD i 0))) := Lib.hid (fun h0 => row_cells HO.out.2 HO.out.1 h0)
        have hjc1 : j ≤ c1 := by
          obtain ⟨a', c', e, h1, h2, -⟩ := SlC.of_owns HO.out.2
          simp only [Value.slice.injEq] at e
          rw [e.2.2]; exact h1
        clear hbw
        by_cases hf1 : f = 1
        · have HF := Lib.hid hf1
          have q1 : (f == 1) = true := by rw [HF.out]; rfl
          clear hf1
          go_wp2
          rw [HQ.out, hRl.out, HF.out]
          exact ⟨by simp [kindF], HXW⟩
        by_cases hf2 : f = 2
        · have HF := Lib.hid hf2
          have q1 : (f == 1) = false := by rw [HF.out]; rfl
          have q2 : (f == 2) = true := by rw [HF.out]; rfl
          clear hf2
          go_wp2_with (first | ((with_reducible refine (HOF.out _ (Ext.refl wr)).mono ?_); rintro e1 w2 ⟨rfl, H2⟩) | fail)
          rw [HQ.out, hRl.out, HF.out]
          exact ⟨by simp [kindF], Lib.hid (HXW.out.trans H2)⟩
        by_cases hf3 : f = 3
        · have HF := Lib.hid hf3
          have q1 : (f == 1) = false := by rw [HF.out]; rfl
          have q2 : (f == 2) = false := by rw [HF.out]; rfl
          have q3 : (f == 3) = true := by rw [HF.out]; rfl
          clear hf3
          obtain ⟨b, o, rfl, hbl, hce⟩ := HCE.out (by have h1 := HWF.out; rw [HF.out] at h1; simp [wantF] at h1; omega)
          have hj1 : 1 ≤ j := by have h1 := HWF.out; rw [HF.out] at h1; simpa [wantF] using h1
          have hj0' : (0 : Int) < (j : Int) := by omega
          have z0 := hce 0 (by omega)
          rw [Nat.add_zero] at z0
          obtain ⟨l0, hl0⟩ : ∃ z, z = l.getD 0 0 := ⟨_, rfl⟩
          rw [← hl0] at z0
          have HL0 := Lib.hid hl0
          clear hce hl0
          cases hu : (unv s l0 0).2
          · have HU := Lib.hid hu
            go_upto_region 16 with fail
            ((first | (with_reducible refine region_ext2 (by kernel_rfl) (by kernel_rfl) ?_) | refine region_ext (by kernel_rfl) (by kernel_rfl) ?_); (repeat (go_big_quiet_step (first | exact in_ext (bvUn_any _ _ _ _)))); refine wpQuiet_nil ?_; rintro _ ⟨t1, rfl⟩)
            go_wp2
            rw [HQ.out, hRl.out, HF.out, kindF_3, ← HL0.out, HU.out]
            exact ⟨by simp, Lib.hid (HXW.out.extBy t1)⟩
          · have HU := Lib.hid hu
            go_upto_region 16 with fail
            ((first | (with_reducible refine region_ext2 (by kernel_rfl) (by kernel_rfl) ?_) | refine region_ext (by kernel_rfl) (by kernel_rfl) ?_); (repeat (go_big_quiet_step (first | exact in_ext (bvUn_any _ _ _ _)))); refine wpQuiet_nil ?_; rintro _ ⟨t1, rfl⟩)
            go_wp2
            rw [HQ.out, hRl.out, HF.out, kindF_3, ← HL0.out, HU.out]
            exact ⟨by simp, Lib.hid (HXW.out.extBy t1)⟩
        by_cases hf4 : f = 4
        · have HF := Lib.hid hf4
          have q1 : (f == 1) = false := by rw [HF.out]; rfl
          have q2 : (f == 2) = false := by rw [HF.out]; rfl
          have q3 : (f == 3) = false := by rw [HF.out]; rfl
          have q4 : (f == 4) = true := by rw [HF.out]; rfl
          clear hf4
          obtain ⟨b, o, rfl, hbl, hce⟩ := HCE.out (by have h1 := HWF.out; rw [HF.out] at h1; simp [wantF] at h1; omega)
          have hj1 : 2 ≤ j := by have h1 := HWF.out; rw [HF.out] at h1; simpa [wantF] using h1
          have hj0' : (0 : Int) < (j : Int) := by omega
          have z0 := hce 0 (by omega)
          rw [Nat.add_zero] at z0
          obtain ⟨l0, hl0⟩ : ∃ z, z = l.getD 0 0 := ⟨_, rfl⟩
          rw [← hl0] at z0
          have HL0 := Lib.hid hl0
          have hj1' : (1 : Int) < (j : Int) := by omega
          have z1 := hce 1 (by omega)
          obtain ⟨l1, hl1⟩ : ∃ z, z = l.getD 1 0 := ⟨_, rfl⟩
          rw [← hl1] at z1
          have HL1 := Lib.hid hl1
          clear hce hl0 hl1
          by_cases hz : l0 = l1
          · have HZ := Lib.hid hz
            have ez : (l0 == l1) = true := by simpa using hz
            clear hz
            cases hu : (binv s l0 0 0).2.2
            · have HU := Lib.hid hu
              go_upto_region 20 with fail
              ((first | (with_reducible refine region_ext2 (by kernel_rfl) (by kernel_rfl) ?_) | refine region_ext (by kernel_rfl) (by kernel_rfl) ?_); (repeat (go_big_quiet_step (first | exact in_ext (bvKind_any _ _ _)))); refine wpQuiet_nil ?_; rintro _ ⟨t1, rfl⟩)
              go_upto_region 21 with fail
              ((first | (with_reducible refine region_ext2 (by kernel_rfl) (by kernel_rfl) ?_) | refine region_ext (by kernel_rfl) (by kernel_rfl) ?_); (repeat (go_big_quiet_step (fail))); refine wpQuiet_nil ?_; rintro _ ⟨t1, rfl⟩)
              go_wp2
              rw [HQ.out, hRl.out, HF.out, kindF_4, ← HL0.out, ← HL1.out, HU.out]
              exact ⟨by simp [HZ.out], Lib.hid (HXW.out.extBy t1)⟩
            · have HU := Lib.hid hu
              go_upto_region 20 with fail
              ((first | (with_reducible refine region_ext2 (by kernel_rfl) (by kernel_rfl) ?_) | refine region_ext (by kernel_rfl) (by kernel_rfl) ?_); (repeat (go_big_quiet_step (first | exact in_ext (bvKind_any _ _ _)))); refine wpQuiet_nil ?_; rintro _ ⟨t1, rfl⟩)
              go_upto_region 21 with fail
              ((first | (with_reducible refine region_ext2 (by kernel_rfl) (by kernel_rfl) ?_) | refine region_ext (by kernel_rfl) (by kernel_rfl) ?_); (repeat (go_big_quiet_step (fail))); refine wpQuiet_nil ?_; rintro _ ⟨t1, rfl⟩)
              go_wp2
              rw [HQ.out, hRl.out, HF.out, kindF_4, ← HL0.out, ← HL1.out, HU.out]
              exact ⟨by simp [HZ.out], Lib.hid (HXW.out.extBy t1)⟩
          · have HZ := Lib.hid hz
            have ez : (l0 == l1) = false := by simpa using hz
            clear hz
            cases hu : (binv s l0 0 0).2.2
            · have HU := Lib.hid hu
              go_upto_region 20 with fail
              ((first | (with_reducible refine region_ext2 (by kernel_rfl) (by kernel_rfl) ?_) | refine region_ext (by kernel_rfl) (by kernel_rfl) ?_); (repeat (go_big_quiet_step (first | exact in_ext (bvKind_any _ _ _)))); refine wpQuiet_nil ?_; rintro _ ⟨t1, rfl⟩)
              go_upto_region 21 with fail
              ((first | (with_reducible refine region_ext2 (by kernel_rfl) (by kernel_rfl) ?_) | refine region_ext (by kernel_rfl) (by kernel_rfl) ?_); (repeat (go_big_quiet_step (fail))); refine wpQuiet_nil ?_; rintro _ ⟨t1, rfl⟩)
              go_wp2
              rw [HQ.out, hRl.out, HF.out, kindF_4, ← HL0.out, ← HL1.out, HU.out]
              exact ⟨by simp [HZ.out], Lib.hid (HXW.out.extBy t1)⟩
            · have HU := Lib.hid hu
              go_upto_region 20 with fail
              ((first | (with_reducible refine region_ext2 (by kernel_rfl) (by kernel_rfl) ?_) | refine region_ext (by kernel_rfl) (by kernel_rfl) ?_); (repeat (go_big_quiet_step (first | exact in_ext (bvKind_any _ _ _)))); refine wpQuiet_nil ?_; rintro _ ⟨t1, rfl⟩)
              go_upto_region 21 with fail
              ((first | (with_reducible refine region_ext2 (by kernel_rfl) (by kernel_rfl) ?_) | refine region_ext (by kernel_rfl) (by kernel_rfl) ?_); (repeat (go_big_quiet_step (fail))); refine wpQuiet_nil ?_; rintro _ ⟨t1, rfl⟩)
              go_wp2
              rw [HQ.out, hRl.out, HF.out, kindF_4, ← HL0.out, ← HL1.out, HU.out]
              exact ⟨by simp [HZ.out], Lib.hid (HXW.out.extBy t1)⟩
        by_cases hf5 : f = 5
        · have HF := Lib.hid hf5
          have q1 : (f == 1) = false := by rw [HF.out]; rfl
          have q2 : (f == 2) = false := by rw [HF.out]; rfl
          have q3 : (f == 3) = false := by rw [HF.out]; rfl
          have q4 : (f == 4) = false := by rw [HF.out]; rfl
          have q5 : (f == 5) = true := by rw [HF.out]; rfl
          clear hf5
          obtain ⟨b, o, rfl, hbl, hce⟩ := HCE.out (by have h1 := HWF.out; rw [HF.out] at h1; simp [wantF] at h1; omega)
          have hj1 : 3 ≤ j := by have h1 := HWF.out; rw [HF.out] at h1; simpa [wantF] using h1
          have hj0' : (0 : Int) < (j : Int) := by omega
          have z0 := hce 0 (by omega)
          rw [Nat.add_zero] at z0
          obtain ⟨l0, hl0⟩ : ∃ z, z = l.getD 0 0 := ⟨_, rfl⟩
          rw [← hl0] at z0
          have HL0 := Lib.hid hl0
          have hj1' : (1 : Int) < (j : Int) := by omega
          have z1 := hce 1 (by omega)
          obtain ⟨l1, hl1⟩ : ∃ z, z = l.getD 1 0 := ⟨_, rfl⟩
          rw [← hl1] at z1
          have HL1 := Lib.hid hl1
          have hj2' : (2 : Int) < (j : Int) := by omega
          have z2 := hce 2 (by omega)
          obtain ⟨l2, hl2⟩ : ∃ z, z = l.getD 2 0 := ⟨_, rfl⟩
          rw [← hl2] at z2
          have HL2 := Lib.hid hl2
          clear hce hl0 hl1 hl2
          by_cases hz : l0 = 1
          · have HZ := Lib.hid hz
            have ez : (l0 == 1) = true := by simpa using hz
            clear hz
            by_cases hy : l1 = l2
            · have HY := Lib.hid hy
              have ey : (l1 == l2) = true := by simpa using hy
              clear hy
              go_upto_region 24 with fail
              ((first | (with_reducible refine region_ext2 (by kernel_rfl) (by kernel_rfl) ?_) | refine region_ext (by kernel_rfl) (by kernel_rfl) ?_); (repeat (go_big_quiet_step (fail))); refine wpQuiet_nil ?_; rintro _ ⟨t1, rfl⟩)
              go_wp2
              rw [HQ.out, hRl.out, HF.out, kindF_5, ← HL0.out, ← HL1.out, ← HL2.out]
              exact ⟨by simp [HZ.out, HY.out], Lib.hid (HXW.out.extBy t1)⟩
            · have HY := Lib.hid hy
              have ey : (l1 == l2) = false := by simpa using hy
              clear hy
              go_upto_region 24 with fail
              ((first | (with_reducible refine region_ext2 (by kernel_rfl) (by kernel_rfl) ?_) | refine region_ext (by kernel_rfl) (by kernel_rfl) ?_); (repeat (go_big_quiet_step (fail))); refine wpQuiet_nil ?_; rintro _ ⟨t1, rfl⟩)
              go_wp2
              rw [HQ.out, hRl.out, HF.out, kindF_5, ← HL0.out, ← HL1.out, ← HL2.out]
              exact ⟨by simp [HZ.out, HY.out], Lib.hid (HXW.out.extBy t1)⟩
          · have HZ := Lib.hid hz
            have ez : (l0 == 1) = false := by simpa using hz
            clear hz
            by_cases hy : l1 = l2
            · have HY := Lib.hid hy
              have ey : (l1 == l2) = true := by simpa using hy
              clear hy
              go_upto_region 24 with fail
              ((first | (with_reducible refine region_ext2 (by kernel_rfl) (by kernel_rfl) ?_) | refine region_ext (by kernel_rfl) (by kernel_rfl) ?_); (repeat (go_big_quiet_step (fail))); refine wpQuiet_nil ?_; rintro _ ⟨t1, rfl⟩)
              go_wp2
              rw [HQ.out, hRl.out, HF.out, kindF_5, ← HL0.out, ← HL1.out, ← HL2.out]
              exact ⟨by simp [HZ.out, HY.out], Lib.hid (HXW.out.extBy t1)⟩
            · have HY := Lib.hid hy
              have ey : (l1 == l2) = false := by simpa using hy
              clear hy
              go_upto_region 24 with fail
              ((first | (with_reducible refine region_ext2 (by kernel_rfl) (by kernel_rfl) ?_) | refine region_ext (by kernel_rfl) (by kernel_rfl) ?_); (repeat (go_big_quiet_step (fail))); refine wpQuiet_nil ?_; rintro _ ⟨t1, rfl⟩)
              go_wp2
              rw [HQ.out, hRl.out, HF.out, kindF_5, ← HL0.out, ← HL1.out, ← HL2.out]
              exact ⟨by simp [HZ.out, HY.out], Lib.hid (HXW.out.extBy t1)⟩
        by_cases hf11 : f = 11
        · have HF := Lib.hid hf11
          have q1 : (f == 1) = false := by rw [HF.out]; rfl
          have q2 : (f == 2) = false := by rw [HF.out]; rfl
          have q3 : (f == 3) = false := by rw [HF.out]; rfl
          have q4 : (f == 4) = false := by rw [HF.out]; rfl
          have q5 : (f == 5) = false := by rw [HF.out]; rfl
          have q11 : (f == 11) = true := by rw [HF.out]; rfl
          clear hf11
          by_cases hw : 0 < width k
          · have HU : Hid ((if 0 < width k then k else 0) = k) := Lib.hid (by rw [if_pos hw])
            go_wp2_with (first | (go_at_call 52; refine (bvWidth_any _ _).mono ?_; rintro e1 w2 ⟨rfl, rfl⟩) | fail)
            have h1 : R = k := by rw [hRl.out, HF.out, kindF_11]; first | rw [if_pos hw] | rw [if_neg (Int.not_lt.2 hw)]
            rw [HQ.out, h1]
            exact ⟨by simp, HXW⟩
          · have HU : Hid ((if 0 < width k then k else 0) = 0) := Lib.hid (by rw [if_neg hw])
            go_wp2_with (first | (go_at_call 52; refine (bvWidth_any _ _).mono ?_; rintro e1 w2 ⟨rfl, rfl⟩) | fail)
            have h1 : R = 0 := by rw [hRl.out, HF.out, kindF_11]; first | rw [if_pos hw] | rw [if_neg (Int.not_lt.2 hw)]
            rw [HQ.out, h1]
            exact ⟨by simp, HXW⟩
        by_cases hf9 : f = 9
        · have HF := Lib.hid hf9
          have q1 : (f == 1) = false := by rw [HF.out]; rfl
          have q2 : (f == 2) = false := by rw [HF.out]; rfl
          have q3 : (f == 3) = false := by rw [HF.out]; rfl
          have q4 : (f == 4) = false := by rw [HF.out]; rfl
          have q5 : (f == 5) = false := by rw [HF.out]; rfl
          have q11 : (f == 11) = false := by rw [HF.out]; rfl
          have q9 : (f == 9) = true := by rw [HF.out]; rfl
          clear hf9
          obtain ⟨b, o, rfl, hbl, hce⟩ := HCE.out (by have h1 := HWF.out; rw [HF.out] at h1; simp [wantF] at h1; omega)
          have hj1 : 1 ≤ j := by have h1 := HWF.out; rw [HF.out] at h1; simpa [wantF] using h1
          have hj0' : (0 : Int) < (j : Int) := by omega
          have z0 := hce 0 (by omega)
          rw [Nat.add_zero] at z0
          obtain ⟨l0, hl0⟩ : ∃ z, z = l.getD 0 0 := ⟨_, rfl⟩
          rw [← hl0] at z0
          have HL0 := Lib.hid hl0
          clear hce hl0
          by_cases hz : of nm = 1
          · have HZ := Lib.hid hz
            have ez : (of nm == 1) = true := by simpa using hz
            clear hz
            go_wp2_with (first | ((with_reducible refine (HOF.out _ (Ext.refl wr)).mono ?_); rintro e1 w2 ⟨rfl, H2⟩; have z0 := H2.cell z0; have hbl := Nat.lt_of_lt_of_le hbl H2.size) | fail)
            rw [HQ.out, hRl.out, HF.out, kindF_9, ← HL0.out]
            exact ⟨by simp [HZ.out], Lib.hid (HXW.out.trans H2)⟩
          · have HZ := Lib.hid hz
            have ez : (of nm == 1) = false := by simpa using hz
            clear hz
            go_wp2_with (first | ((with_reducible refine (HOF.out _ (Ext.refl wr)).mono ?_); rintro e1 w2 ⟨rfl, H2⟩; have z0 := H2.cell z0; have hbl := Nat.lt_of_lt_of_le hbl H2.size) | fail)
            rw [HQ.out, hRl.out, HF.out, kindF_9, ← HL0.out]
            exact ⟨by simp [HZ.out], Lib.hid (HXW.out.trans H2)⟩
        by_cases hf10 : f = 10
        · have HF := Lib.hid hf10
          have q1 : (f == 1) = false := by rw [HF.out]; rfl
          have q2 : (f == 2) = false := by rw [HF.out]; rfl
          have q3 : (f == 3) = false := by rw [HF.out]; rfl
          have q4 : (f == 4) = false := by rw [HF.out]; rfl
          have q5 : (f == 5) = false := by rw [HF.out]; rfl
          have q11 : (f == 11) = false := by rw [HF.out]; rfl
          have q9 : (f == 9) = false := by rw [HF.out]; rfl
          have q10 : (f == 10) = true := by rw [HF.out]; rfl
          clear hf10
          obtain ⟨b, o, rfl, hbl, hce⟩ := HCE.out (by have h1 := HWF.out; rw [HF.out] at h1; simp [wantF] at h1; omega)
          have hj1 : 2 ≤ j := by have h1 := HWF.out; rw [HF.out] at h1; simpa [wantF] using h1
          have hj0' : (0 : Int) < (j : Int) := by omega
          have z0 := hce 0 (by omega)
          rw [Nat.add_zero] at z0
          obtain ⟨l0, hl0⟩ : ∃ z, z = l.getD 0 0 := ⟨_, rfl⟩
          rw [← hl0] at z0
          have HL0 := Lib.hid hl0
          have hj1' : (1 : Int) < (j : Int) := by omega
          have z1 := hce 1 (by omega)
          obtain ⟨l1, hl1⟩ : ∃ z, z = l.getD 1 0 := ⟨_, rfl⟩
          rw [← hl1] at z1
          have HL1 := Lib.hid hl1
          clear hce hl0 hl1
          by_cases hz : of nm = 1
          · have HZ := Lib.hid hz
            have ez : (of nm == 1) = true := by simpa using hz
            clear hz
            by_cases hy : l0 = l1
            · have HY := Lib.hid hy
              have ey : (l0 == l1) = true := by simpa using hy
              clear hy
              go_upto_region 33 with fail
              ((first | (with_reducible refine region_ext2 (by kernel_rfl) (by kernel_rfl) ?_) | refine region_ext (by kernel_rfl) (by kernel_rfl) ?_); (repeat (go_big_quiet_step (first | exact in_ext (HOF.out _ ((Ext.refl wr).extBy _))))); refine wpQuiet_nil ?_; rintro _ ⟨t1, rfl⟩)
              go_wp2
              rw [HQ.out, hRl.out, HF.out, kindF_10, ← HL0.out, ← HL1.out]
              exact ⟨by simp [HZ.out, HY.out], Lib.hid (HXW.out.extBy t1)⟩
            · have HY := Lib.hid hy
              have ey : (l0 == l1) = false := by simpa using hy
              clear hy
              go_upto_region 33 with fail
              ((first | (with_reducible refine region_ext2 (by kernel_rfl) (by kernel_rfl) ?_) | refine region_ext (by kernel_rfl) (by kernel_rfl) ?_); (repeat (go_big_quiet_step (first | exact in_ext (HOF.out _ ((Ext.refl wr).extBy _))))); refine wpQuiet_nil ?_; rintro _ ⟨t1, rfl⟩)
              go_wp2
              rw [HQ.out, hRl.out, HF.out, kindF_10, ← HL0.out, ← HL1.out]
              exact ⟨by simp [HZ.out, HY.out], Lib.hid (HXW.out.extBy t1)⟩
          · have HZ := Lib.hid hz
            have ez : (of nm == 1) = false := by simpa using hz
            clear hz
            by_cases hy : l0 = l1
            · have HY := Lib.hid hy
              have ey : (l0 == l1) = true := by simpa using hy
              clear hy
              go_upto_region 33 with fail
              ((first | (with_reducible refine region_ext2 (by kernel_rfl) (by kernel_rfl) ?_) | refine region_ext (by kernel_rfl) (by kernel_rfl) ?_); (repeat (go_big_quiet_step (first | exact in_ext (HOF.out _ ((Ext.refl wr).extBy _))))); refine wpQuiet_nil ?_; rintro _ ⟨t1, rfl⟩)
              go_wp2
              rw [HQ.out, hRl.out, HF.out, kindF_10, ← HL0.out, ← HL1.out]
              exact ⟨by simp [HZ.out, HY.out], Lib.hid (HXW.out.extBy t1)⟩
            · have HY := Lib.hid hy
              have ey : (l0 == l1) = false := by simpa using hy
              clear hy
              go_upto_region 33 with fail
              ((first | (with_reducible refine region_ext2 (by kernel_rfl) (by kernel_rfl) ?_) | refine region_ext (by kernel_rfl) (by kernel_rfl) ?_); (repeat (go_big_quiet_step (first | exact in_ext (HOF.out _ ((Ext.refl wr).extBy _))))); refine wpQuiet_nil ?_; rintro _ ⟨t1, rfl⟩)
              go_wp2
              rw [HQ.out, hRl.out, HF.out, kindF_10, ← HL0.out, ← HL1.out]
              exact ⟨by simp [HZ.out, HY.out], Lib.hid (HXW.out.extBy t1)⟩
        have HNF := Lib.hid (And.intro hf1 (And.intro hf2 (And.intro hf3 (And.intro hf4 (And.intro hf5 (And.intro hf11 (And.intro hf9 hf10)))))))
        have q1 : (f == 1) = false := by simpa using hf1
        have q2 : (f == 2) = false := by simpa using hf2
        have q3 : (f == 3) = false := by simpa using hf3
        have q4 : (f == 4) = false := by simpa using hf4
        have q5 : (f == 5) = false := by simpa using hf5
        have q11 : (f == 11) = false := by simpa using hf11
        have q9 : (f == 9) = false := by simpa using hf9
        have q10 : (f == 10) = false := by simpa using hf10
        clear hf1 hf2 hf3 hf4 hf5 hf11 hf9 hf10
        go_wp2
        rw [HQ.out, hRl.out]
        obtain ⟨h1, h2, h3, h4, h5, h6, h7, h8⟩ := HNF.out
        exact ⟨by simp [kindF, h1, h2, h3, h4, h5, h6, h7, h8], HXW⟩
end Go.Proofs.Ytmommjagndadjaa
namespace Go.Proofs.Ytmommjagndadjaa
open Go.RowKit
set_option linter.unusedSimpArgs false
set_option linter.unusedVariables false
set_option maxRecDepth 100000

def RetR (xs : List Int) (w : World) (e : Ending) (w' : World) : Prop := ∃ a c, e = .returned (.slice a xs.length c) ∧ Hid (SlC w' (.slice a xs.length c) xs.length (i64s xs) ∧ Ext w w')
set_option maxHeartbeats 8000000 in
theorem ckinds_any (l : List CV) (v : Value) (w : World) (h : VIn w v l) (hl : l.length ≤ 100000) :
    Calls Try.prog 27 #[v] w (RetR (l.map CV.kind) w) := by
  obtain ⟨R, hR⟩ : ∃ R, R = l.map CV.kind := ⟨_, rfl⟩
  rw [← hR]
  obtain ⟨Q, hQ⟩ : ∃ Q, Q = RetR R w := ⟨_, rfl⟩
  rw [← hQ]
  have HQ := Lib.hid hQ
  have HR := Lib.hid hR
  obtain ⟨p, cap, rfl, hkc, hcm⟩ := h.slice
  obtain ⟨n, hn⟩ : ∃ n, n = l.length := ⟨_, rfl⟩
  rw [← hn] at hkc hl ⊢
  have HW := Lib.hid (And.intro h hn)
  have hcI : (cap : Int) ≤ 9223372036854775807 := by unfold maxLen at hcm; omega
  clear hQ hR h hn hcm
  go_enter Try.func27, Try.ntmps27
  go_wp2
  go_loopw [3, 8] (fun o i wr => ∃ (j c1 : Nat) (p1 : Option Addr), j ≤ n ∧ i = .int .i64 (j : Int) ∧ o = .slice p1 j c1 ∧ Hid (wr.ownsRow w.heap.size 3 1 (.slice p1 j c1) j (i64s ((l.take j).map CV.kind)) ∧ Ext w wr)) (fun _ i _ => n - (intOf i).toNat)
  case atStart => exact ⟨0, 0, none, Nat.zero_le _, rfl, rfl, Lib.hid ⟨own_nil _ _ _ _, Ext.refl w⟩⟩
  case round =>
    obtain ⟨j, c1, p1, hj, rfl, rfl, HO⟩ := hrel
    by_cases hlt : j < n
    · have hki : (j : Int) < (n : Int) := Int.ofNat_lt.2 hlt
      obtain ⟨x, hx⟩ : ∃ x, l[j]? = some x := ⟨_, List.getElem?_eq_getElem (by have := HW.out.2; omega)⟩
      have hv := HW.out.1
      rw [← HW.out.2] at hv
      obtain ⟨b, o, pq, nq, cq, rfl, q0, q1, q2, hbl⟩ := (hv.ext HO.out.2).at hx
      have hjc : j < cap := by omega
      have HX := Lib.hid hx
      clear hx hv
      go_upto_region 5 with fail
      have HXA : Hid (Ext w (wr.alloc (.cells #[.string x.name, .int .i64 x.kind, .slice pq nq cq] 30)) ∧ (wr.alloc (.cells #[.string x.name, .int .i64 x.kind, .slice pq nq cq] 30)).ownsRow w.heap.size 3 1 (.slice p1 j c1) j (i64s ((l.take j).map CV.kind))) := Lib.hid ⟨HO.out.2.alloc _, HO.out.1.alloc _⟩
      have hby : BoxV wr.heap.size [.string x.name, .int .i64 x.kind, .slice pq nq cq] (wr.alloc (.cells #[.string x.name, .int .i64 x.kind, .slice pq nq cq] 30)) := BoxV.of_row (heap_alloc_last wr _)
      generalize (wr.alloc (.cells #[.string x.name, .int .i64 x.kind, .slice pq nq cq] 30)) = wy at HXA hby ⊢
      generalize wr.heap.size = Y at hby ⊢
      have d1 := hby.cells 1 _ rfl
      have hyl := hby.lt
      clear hby
      go_wp2_with (at_builtin; (refine wpList_append_slc _ rfl (.tmp 12) (.tmp 15) 36 rfl w.heap.size 3 (.int .i64 0) 1 8 Try.underlying36 infoInt rfl (by decide) (.slice p1 j c1) j (i64s ((l.take j).map CV.kind)) rfl (HXA.out.2.alloc (.cells #[.int .i64 x.kind] 3)) _ 1 [.int .i64 x.kind] rfl (SlC.fresh _ #[.int .i64 x.kind] _ 1 _ (by simp) (by decide)) rfl (by simp [Value.oneCell']) (by unfold maxLen; omega) (by omega) (by have := HXA.out.1.size; simp; omega) ?_; intro v9 w9 hown9 hg9 hat9; obtain ⟨x9, y9, z9, rfl⟩ := own_slice3 hown9; have HP := Lib.hid (And.intro hown9 (And.intro hg9 hat9)); clear hown9 hg9 hat9))
      have hk9 : Kb (Value.ownBlock (.slice p1 j c1)).toList (wy.alloc (.cells #[.int .i64 x.kind] 3)) w9 := Kb.grown HP.out.2.1 (fun g hg => Option.mem_toList.2 hg)
      have hx9 : Ext w w9 := hk9.ext (HXA.out.1.alloc _) (fun g hg => (HXA.out.2.lt g (Option.mem_toList.1 hg)).1)
      have hy : y9 = j + 1 := by
        obtain ⟨a', c', e, -⟩ := SlC.of_owns HP.out.1
        simp at e
        exact e.2.1
      subst hy
      refine ⟨⟨j + 1, z9, x9, by omega, by go_num, rfl, Lib.hid ⟨?_, hx9⟩⟩, by simp [intOf]; omega⟩
      have h1 := HP.out.1
      rw [List.take_add_one, HX.out, Option.toList_some, List.map_append]
      unfold i64s at h1 ⊢
      rw [List.map_append]
      exact h1
    · have hki : ¬ (j : Int) < (n : Int) := fun e => hlt (Int.ofNat_lt.1 e)
      obtain rfl : j = n := by omega
      go_wp2
      rw [HQ.out]
      have h2 : (l.take j).map CV.kind = R := by rw [HR.out, HW.out.2, List.take_length]
      have h3 : R.length = j := by rw [HR.out, List.length_map, ← HW.out.2]
      have h1 := HO.out
      rw [h2] at h1
      refine ⟨p1, c1, by rw [h3], Lib.hid ⟨?_, h1.2⟩⟩
      rw [h3]
      exact SlC.of_owns h1.1
/-! ### Ask -/
def askZ : List Int → List Int → Bool
  | k :: ks, n :: r => isk k n && askZ ks r
  | _, _ => true
def askR (ks r : List Int) : Int := if r.length ≠ ks.length then 23 else if askZ ks r then 0 else 1
def askL (ks : List Int) : List (List Int) → Int
  | [] => 0
  | r :: rs => if askR ks r ≠ 0 then askR ks r else askL ks rs
def askV (ks : List Int) (rs : List (List Int)) : Int := if 1000 < rs.length then 2 else askL ks rs
theorem askZ_step {ks r : List Int} {j : Nat} {k n : Int} (h1 : ks[j]? = some k) (h2 : r[j]? = some n) : askZ (ks.drop j) (r.drop j) = (isk k n && askZ (ks.drop (j + 1)) (r.drop (j + 1))) := by
  obtain ⟨a1, rfl⟩ := List.getElem?_eq_some_iff.1 h1
  obtain ⟨a2, rfl⟩ := List.getElem?_eq_some_iff.1 h2
  rw [List.drop_eq_getElem_cons a1, List.drop_eq_getElem_cons a2, askZ]
theorem askL_step {ks : List Int} {rs : List (List Int)} {j : Nat} {r : List Int} (h : rs[j]? = some r) : askL ks (rs.drop j) = if askR ks r ≠ 0 then askR ks r else askL ks (rs.drop (j + 1)) := by
  obtain ⟨a1, rfl⟩ := List.getElem?_eq_some_iff.1 h
  rw [List.drop_eq_getElem_cons a1, askL]
theorem i64s_get {l : List Int} {j : Nat} {x : Int} (h : l[j]? = some x) : (i64s l)[j]? = some (.int .i64 x) := by
  unfold i64s; rw [List.getElem?_map, h]; rfl
theorem SlC.cellAt {w : World} {p : Option Addr} {m c : Nat} {l : List Int} {j : Nat} {x : Int} {n : Nat} (h : SlC w (.slice p m c) n (i64s l)) (hx : l[j]? = some x) : ∃ b o, p = some ⟨b, o, none⟩ ∧ w.cell? ⟨b, o + j, none⟩ = some (.int .i64 x) ∧ b < w.heap.size := by
  obtain ⟨a, cap, e, -, -, hc⟩ := h
  simp only [Value.slice.injEq] at e
  obtain ⟨b, o, e1, h1⟩ := hc j _ (i64s_get hx)
  exact ⟨b, o, e.1.trans e1, h1, World.block_lt_of_cell? w _ h1⟩
def RetE0 (v : Int) (w : World) (e : Ending) (w' : World) : Prop := e = .returned (.int .i64 v) ∧ Hid (Ext w w')
set_option maxHeartbeats 8000000 in
theorem ask_any (ks : List Int) (kv v : Value) (vs : List Value) (rs : List (List Int)) (w : World) (hk : SlC w kv ks.length (i64s ks)) (h : RowsIn w v vs rs) :
    Calls Try.prog 26 #[kv, v] w (RetE0 (askV ks rs) w) := by
  obtain ⟨R, hR⟩ : ∃ R, R = askV ks rs := ⟨_, rfl⟩
  rw [← hR]
  obtain ⟨Q, hQ⟩ : ∃ Q, Q = RetE0 R w := ⟨_, rfl⟩
  rw [← hQ]
  have HQ := Lib.hid hQ
  have HRR := Lib.hid hR
  have HR := Lib.hid h
  have HK := Lib.hid hk
  obtain ⟨a, cap, rfl, hn1, hn2, hc⟩ := id h.top
  obtain ⟨ka, kcap, rfl, hm1, hm2, -⟩ := id hk
  have HT := Lib.hid hc
  obtain ⟨n, hn⟩ : ∃ n, n = rs.length := ⟨_, rfl⟩
  obtain ⟨m, hm⟩ : ∃ m, m = ks.length := ⟨_, rfl⟩
  rw [← hn] at hn1 ⊢
  rw [← hm] at hm1 ⊢
  have HN := Lib.hid (And.intro hn hm)
  have hcI : (cap : Int) ≤ 9223372036854775807 := by unfold maxLen at hn2; omega
  have hcJ : (kcap : Int) ≤ 9223372036854775807 := by unfold maxLen at hm2; omega
  clear hn hm hc h hk hn2 hm2 hQ hR
  by_cases hbig : 1000 < n
  · have hb : (1000 : Int) < (n : Int) := by omega
    have h1 : Hid (R = 2) := Lib.hid (by rw [HRR.out]; unfold askV; rw [if_pos (by rw [← HN.out.1]; exact hbig)])
    go_enter Try.func26, Try.ntmps26
    go_wp2
    rw [HQ.out, h1.out]
    exact ⟨rfl, Lib.hid (Ext.refl w)⟩
  have hb : ¬ (1000 : Int) < (n : Int) := by omega
  have h1 : Hid (R = askL ks rs) := Lib.hid (by rw [HRR.out]; unfold askV; rw [if_neg (by rw [← HN.out.1]; exact hbig)])
  clear hbig
  go_enter Try.func26, Try.ntmps26
  go_wp2
  go_loopw [14] (fun i wr => ∃ j : Nat, j ≤ n ∧ i = .int .i64 (j : Int) ∧ wr = w ∧ Hid (R = askL ks (rs.drop j))) (fun i _ => n - (intOf i).toNat)
  case atStart => exact ⟨0, Nat.zero_le _, rfl, rfl, Lib.hid (by rw [h1.out]; rfl)⟩
  case round =>
    obtain ⟨j, hj, rfl, rfl, HJ⟩ := hrel
    by_cases hlt : j < n
    · have hki : (j : Int) < (n : Int) := Int.ofNat_lt.2 hlt
      obtain ⟨x, r, hx, hr, hs⟩ := HR.out.at (j := j) (by have := HN.out.1; omega)
      obtain ⟨b, o, rfl, f1⟩ := HT.out j x hx
      have z1 : b < wr.heap.size := World.block_lt_of_cell? wr _ f1
      obtain ⟨xa, xcap, rfl, l1, l2, lc⟩ := id hs
      obtain ⟨L, hL⟩ : ∃ L, L = r.length := ⟨_, rfl⟩
      have HS := Lib.hid (And.intro hs (And.intro hr hL))
      rw [← hL] at f1 l1
      have hcL : (xcap : Int) ≤ 9223372036854775807 := by unfold maxLen at l2; omega
      have hjc : j < cap := by omega
      clear hx hr hs lc hL l2
      by_cases hLm : L = m
      · have hne : ((L : Int) != (m : Int)) = false := by simp [hLm]
        have HJR : Hid (askR ks r = if askZ ks r then 0 else 1) := Lib.hid (by unfold askR; rw [if_neg (by rw [← HS.out.2.2, ← HN.out.2]; simpa using hLm)])
        have HLM := Lib.hid hLm
        have hLk : L ≤ kcap := by omega
        clear hLm
        go_wp2
        go_loopw [25] (fun i wr2 => ∃ k : Nat, k ≤ L ∧ i = .int .i64 (k : Int) ∧ wr2 = wr ∧ Hid (askZ ks r = askZ (ks.drop k) (r.drop k))) (fun i _ => L - (intOf i).toNat)
        case atStart => exact ⟨0, Nat.zero_le _, rfl, rfl, Lib.hid rfl⟩
        case round =>
          obtain ⟨k, hk, rfl, rfl, HKZ⟩ := hrel
          by_cases hlt2 : k < L
          · have hkk : (k : Int) < (L : Int) := Int.ofNat_lt.2 hlt2
            have hkm : (k : Int) < (m : Int) := by have := HLM.out; omega
            obtain ⟨y, hy⟩ : ∃ y, r[k]? = some y := ⟨_, List.getElem?_eq_getElem (by have := HS.out.2.2; omega)⟩
            obtain ⟨kd, hkd⟩ : ∃ y, ks[k]? = some y := ⟨_, List.getElem?_eq_getElem (by have := HN.out.2; have := HLM.out; omega)⟩
            have hs1 := HS.out.1
            rw [← HS.out.2.2] at hs1
            obtain ⟨b2, o2, rfl, g1, g2⟩ := hs1.cellAt hy
            have hk1 := HK.out
            rw [← HN.out.2] at hk1
            obtain ⟨b3, o3, rfl, g3, g4⟩ := hk1.cellAt hkd
            have hxc : k < xcap := by omega
            have hkc : k < kcap := by omega
            have HZ : Hid (askZ (ks.drop k) (r.drop k) = (isk kd y && askZ (ks.drop (k + 1)) (r.drop (k + 1)))) := Lib.hid (askZ_step hkd hy)
            have HIS : Hid (∀ w1, Calls Try.prog 47 #[.int .i64 kd, .int .i64 y] w1 fun e w' => e = .returned (.bool (isk kd y)) ∧ w1 = w') := Lib.hid (fun w1 => bvIs_any kd y w1)
            obtain ⟨ik, hik⟩ : ∃ z, z = isk kd y := ⟨_, rfl⟩
            rw [← hik] at HIS HZ
            clear hy hkd hs1 hk1 hik
            cases ik with
            | false =>
              go_wp2_with (first | (go_at_call 47; refine (HIS.out _).mono ?_; rintro e1 w2 ⟨rfl, rfl⟩) | fail)
              have h2 : R = 1 := by
                have h3 : askR ks r = 1 := by rw [HJR.out, HKZ.out, HZ.out]; simp
                rw [HJ.out, askL_step HS.out.2.1, h3]; simp
              rw [HQ.out, h2]
              exact ⟨rfl, Lib.hid (Ext.refl _)⟩
            | true =>
              go_wp2_with (first | (go_at_call 47; refine (HIS.out _).mono ?_; rintro e1 w2 ⟨rfl, rfl⟩) | fail)
              exact ⟨⟨k + 1, by omega, by go_num, trivial, Lib.hid (by rw [HKZ.out, HZ.out]; simp)⟩, by simp [intOf]; omega⟩
          · have hkk : ¬ (k : Int) < (L : Int) := fun e => hlt2 (Int.ofNat_lt.1 e)
            obtain rfl : k = L := by omega
            go_wp2
            refine ⟨⟨j + 1, by omega, by go_num, trivial, Lib.hid ?_⟩, by simp [intOf]; omega⟩
            have h3 : askR ks r = 0 := by
              rw [HJR.out, HKZ.out, HS.out.2.2, List.drop_length]
              cases (ks.drop r.length) <;> simp [askZ]
            rw [HJ.out, askL_step HS.out.2.1, h3]; simp
      · have hne : ((L : Int) != (m : Int)) = true := by simp; omega
        have h2 : Hid (R = 23) := Lib.hid (by
          have h3 : askR ks r = 23 := by unfold askR; rw [if_pos (by rw [← HS.out.2.2, ← HN.out.2]; exact hLm)]
          rw [HJ.out, askL_step HS.out.2.1, h3]; simp)
        clear hLm
        go_wp2
        rw [HQ.out, h2.out]
        exact ⟨rfl, Lib.hid (Ext.refl _)⟩
    · have hki : ¬ (j : Int) < (n : Int) := fun e => hlt (Int.ofNat_lt.1 e)
      obtain rfl : j = n := by omega
      have h2 : Hid (R = 0) := Lib.hid (by rw [HJ.out, HN.out.1, List.drop_length, askL])
      go_wp2
      rw [HQ.out, h2.out]
      exact ⟨rfl, Lib.hid (Ext.refl _)⟩
end Go.Proofs.Ytmommjagndadjaa
namespace Go.Proofs.Ytmommjagndadjaa
open Go.RowKit
set_option linter.unusedSimpArgs false
set_option linter.unusedVariables false
set_option maxRecDepth 100000

def runC (c : CP) (rs : List (List Int)) : Int × List (List Int) :=
  if chkC c ≠ 0 then (40, []) else if askV (c.ins.map VR.kind) rs ≠ 0 then (askV (c.ins.map VR.kind) rs, []) else
  (0, goC c (kindT (clksH c)) (clksH c) (sortV (hangsV c)) (c.eqs.map fun _ => none) 0 rs)
abbrev nM : ByteArray := ⟨#[109]⟩
abbrev nX : ByteArray := ⟨#[120]⟩
abbrev nY : ByteArray := ⟨#[121]⟩
abbrev nR : ByteArray := ⟨#[114]⟩
abbrev exV (n : ByteArray) : CE := .mk 2 0 0 0 n []
abbrev exZ : CE := .mk 0 0 0 0 eB []
abbrev defE (n : ByteArray) (e : CE) : EQ := ⟨1, n, e, 0, eB, eB, 0, 0⟩
abbrev memE (n : ByteArray) (i : Int) (next reset : ByteArray) : EQ := ⟨2, n, exZ, i, next, reset, 0, 0⟩
abbrev smallC : CP := { ins := [⟨nX, 2, []⟩, ⟨nR, 1, []⟩], outs := [⟨nY, 2, []⟩], locals := [⟨nM, 2, []⟩], eqs := [defE nY (.mk 4 3 0 0 eB [exV nM, exV nX]), memE nM 0 nY nR] }
theorem smallC_chk : chkC smallC = 0 := by decide +kernel
theorem smallC_run1 : runC smallC [[1, 0], [2, 0], [3, 0]] = (0, [[1], [3], [6]]) := by decide +kernel
theorem smallC_run2 : runC smallC [[1, 0], [2, 1], [3, 0]] = (0, [[1], [2], [5]]) := by decide +kernel
end Go.Proofs.Ytmommjagndadjaa
namespace Go.Proofs.Ytmommjagndadjaa
open Go.RowKit Go.Maps
set_option linter.unusedSimpArgs false
set_option linter.unusedVariables false
set_option maxRecDepth 100000

set_option maxHeartbeats 4000000 in
theorem cckind_any {W0 : World} {x : S4} {X M D : Nat} {t : TQ} {d : DT} {w : World} (h : KC W0 x X M D t d w) (n : ByteArray) (hn : n.size ≤ maxLen) :
    Calls Try.prog 58 #[.pointer (some ⟨X, 0, none⟩), .string n] w (RetI (kindT t.vt n) w) := by
  obtain ⟨R, hR⟩ : ∃ R, R = kindT t.vt n := ⟨_, rfl⟩
  rw [← hR]
  obtain ⟨Q, hQ⟩ : ∃ Q, Q = RetI R w := ⟨_, rfl⟩
  rw [← hQ]
  have HQ := Lib.hid hQ
  have HR := Lib.hid hR
  obtain ⟨nm, p, c, hrun, -⟩ := h.look hn
  rw [← hR] at hrun
  have g4 := h.box.cells 4 _ rfl
  have gl := h.box.lt
  clear hQ hR h hn HR
  go_enter Try.func58, Try.ntmps58
  go_wp2
  rw [HQ.out]
  exact ⟨rfl, Lib.hid (Ext.refl w)⟩
theorem clo_ckind (W0 : World) (x : S4) (X M D : Nat) (t : TQ) (d : DT) : CloN W0 (fun w => KC W0 x X M D t d w) (kindT t.vt) 58 (.pointer (some ⟨X, 0, none⟩)) where
  st := fun _ _ h hx => h.next hx
  enter := fun args w => by kernel_rfl
  call := fun w n _ h hn => cckind_any h n hn
end Go.Proofs.Ytmommjagndadjaa

/-
  The program's own walk that tells a formula's text.
  Conditions: the formula lies in memory, and is small; the library's table of powers is laid.
-/
import Derived.Test.YtlikmdeplpldlaaDoorShAK
import Derived.Test.YtlikmdeplpldlaaDoorCnfT
namespace Go.Proofs.YtlikmdeplpldlaaDoor
open Go.RowKit Go.Shelf
set_option linter.unusedSimpArgs false
set_option linter.unusedVariables false
set_option maxRecDepth 100000

attribute [local go_sem] Oper.semAt_some
set_option maxHeartbeats 4000000 in
theorem textT_any (x : Int) (cv : Value) (vs : List Value) (rs : List (List Int)) (w : World) (hx : x ≤ 200000) (hx2 : -9223372036854775808 ≤ x) (h : RowsIn w cv vs rs) (hs : szF rs ≤ 200000) (htab : Lib.TabIs Tryd.prog w "internal/strconv.uint64pow10" .u64 Lib.pow10Tab) :
    Calls Tryd.prog 21 #[.agg #[.int .i64 x, cv]] w fun e w' => e = .returned (.string ⟨(if chkF x rs = 0 then textF x rs else []).toArray⟩) ∧ Ext w w' := by
  obtain ⟨R, hR⟩ : ∃ R, R = if chkF x rs = 0 then textF x rs else [] := ⟨_, rfl⟩
  rw [← hR]
  have HRR := Lib.hid hR
  have HTAB := Lib.hid htab
  have hlen := szF_len rs
  obtain ⟨n, hn⟩ : ∃ n, n = rs.length := ⟨_, rfl⟩
  have HN := Lib.hid hn
  have HR := Lib.hid h
  obtain ⟨a, cap, rfl, -, -, -⟩ := id h.top
  have hn2 : n ≤ 200000 := by omega
  have HS := Lib.hid (And.intro hs hx2)
  rw [← hn]
  clear hR h hlen hs hn htab
  refine (callsIn_wide (n := 8)).1 ?_
  refine callsIn_of_wp_marks Tryd.func21 rfl trivial ?_ rfl
  simp only [Tryd.ntmps21, List.size_toArray, List.length_cons, List.length_nil, Nat.reduceAdd, Nat.reduceSub, Array.replicate_succ, Array.replicate_zero, List.push_toArray, List.append_toArray, List.nil_append, List.cons_append]
  gi_upto_region 1 with fail
  have hbX := heap_alloc_last w (.cells #[.int .i64 x, .slice a n cap] 24)
  have hE : Ext w (w.alloc (.cells #[.int .i64 x, .slice a n cap] 24)) := (Ext.refl w).alloc _
  have HE := Lib.hid (And.intro hE hbX)
  have hbV := BoxV.of_row hbX
  have HRw : Hid (RowsIn (w.alloc (.cells #[.int .i64 x, .slice a n cap] 24)) (.slice a n cap) vs rs) := Lib.hid (RowsIn.ext (HN.out ▸ HR.out) hE)
  have p0 := hbV.cells 0 _ rfl
  have p1 := hbV.cells 1 _ rfl
  have hl1 := hbV.lt
  have hsz := hE.size
  generalize w.alloc (.cells #[.int .i64 x, .slice a n cap] 24) = w1 at hbX hE HE hbV HRw p0 p1 hl1 hsz ⊢
  clear hbX hE hbV
  rcases chkF_or x rs with hc | ⟨hc, hx0, hok⟩
  · have HC := Lib.hid hc
    have hRf : R = [] := by rw [HRR.out, hc]; rfl
    subst hRf
    clear hc
    gi_wp2_with (refine ⟨trivial, ?_⟩; gi_at_call 10; refine (callsIn_wide.2 (checkC_any x _ vs rs _ (by omega) HS.out.2 HRw.out HS.out.1)).mono ?_; rintro e w' ⟨rfl, hE'⟩; rw [HC.out]; (first | (with_reducible obtain ⟨t2, rfl⟩ := Ext.tok2 hE') | (obtain ⟨t2, rfl⟩ := Ext.tok hE')))
    exact ⟨_, results_tmp rfl _ _ _, rfl, HE.out.1.trans (Ext.by w1 t2)⟩
  · have HC := Lib.hid hc
    have HOK := Lib.hid hok
    have hxI : -1000000 ≤ x ∧ x ≤ 1000000 := ⟨by omega, by omega⟩
    clear hc hok
    gi_upto_region 3 with (refine ⟨trivial, ?_⟩; gi_at_call 10; refine (callsIn_wide.2 (checkC_any x _ vs rs _ (by omega) HS.out.2 HRw.out HS.out.1)).mono ?_; rintro e w' ⟨rfl, hE'⟩; rw [HC.out]; (first | (with_reducible obtain ⟨t2, rfl⟩ := Ext.tok2 hE') | (obtain ⟨t2, rfl⟩ := Ext.tok hE')))
    have hT := Ext.by w1 t2
    have HE2 := Lib.hid (And.intro (HE.out.1.trans hT) (ext_block hT HE.out.2))
    have HR2 := Lib.hid (HRw.out.ext hT)
    have hl2 := Nat.lt_of_lt_of_le hl1 hT.size
    clear HE HRw p0 p1 hl1 hsz hE'
    generalize w1.extBy t2 = w2 at hT HE2 HR2 hl2 ⊢
    clear hT
    have kc := fun (w : World) (C : Array Value) (n c : Nat) => Lib.run_convert_bytes_const (P := Tryd.prog) w 64 5 C n c Tryd.underlying64 Tryd.underlying5
    gi_upto_region 4 with fail
    clear kc
    have hl0 : 50 + 22 * szF rs + 100 ≤ 5000000 := by have := HS.out.1; omega
    have HC6 : Hid (∀ (j : Nat) (y : Value), (Lib.byteCells [112, 32, 99, 110, 102, 32])[j]? = some y → ((w2.alloc (.cells #[.int .u8 112, .int .u8 32, .int .u8 99, .int .u8 110, .int .u8 102, .int .u8 32] 5 (6, 7))).alloc (.cells #[.slice (some ⟨w2.heap.size, 0, none⟩) 6 6] 64)).cell? ((⟨w2.heap.size, 0, none⟩ : Addr).add j) = some y) := Lib.hid fun j y hy => by
      rw [show (⟨w2.heap.size, 0, none⟩ : Addr).add j = ⟨w2.heap.size, j, none⟩ by unfold Addr.add; split <;> simp_all]
      refine Ext.cell ((Ext.refl _).alloc _) ?_
      have h1 := cell_of_row (w2.alloc (.cells #[.int .u8 112, .int .u8 32, .int .u8 99, .int .u8 110, .int .u8 102, .int .u8 32] 5 (6, 7))) w2.heap.size j #[.int .u8 112, .int .u8 32, .int .u8 99, .int .u8 110, .int .u8 102, .int .u8 32] 5 (6, 7) (heap_alloc_last _ _)
      rw [h1]
      simp only [List.getElem?_toArray]
      exact hy
    have hE3 : Ext w2 ((w2.alloc (.cells #[.int .u8 112, .int .u8 32, .int .u8 99, .int .u8 110, .int .u8 102, .int .u8 32] 5 (6, 7))).alloc (.cells #[.slice (some ⟨w2.heap.size, 0, none⟩) 6 6] 64)) := ((Ext.refl w2).alloc _).alloc _
    have hB3 : Boxed ((w2.alloc (.cells #[.int .u8 112, .int .u8 32, .int .u8 99, .int .u8 110, .int .u8 102, .int .u8 32] 5 (6, 7))).alloc (.cells #[.slice (some ⟨w2.heap.size, 0, none⟩) 6 6] 64)) (w2.heap.size + 1) 64 (.slice (some ⟨w2.heap.size, 0, none⟩) 6 6) := by
      have := Boxed.new (w2.alloc (.cells #[.int .u8 112, .int .u8 32, .int .u8 99, .int .u8 110, .int .u8 102, .int .u8 32] 5 (6, 7))) 64 (.slice (some ⟨w2.heap.size, 0, none⟩) 6 6)
      rwa [World.size_alloc] at this
    generalize (w2.alloc (.cells #[.int .u8 112, .int .u8 32, .int .u8 99, .int .u8 110, .int .u8 102, .int .u8 32] 5 (6, 7))).alloc (.cells #[.slice (some ⟨w2.heap.size, 0, none⟩) 6 6] 64) = w3 at HC6 hE3 hB3 ⊢
    have HE3 := Lib.hid (And.intro (HE2.out.1.trans hE3) (And.intro (ext_block hE3 HE2.out.2) hB3))
    have hb := hB3.cell
    have hf := hB3.frozen
    have hT2 : w.heap.size ≤ w2.heap.size + 1 := by have := HE2.out.1.size; omega
    have hT3 : w.heap.size ≠ w2.heap.size + 1 := by omega
    have c0 := (BoxV.of_row HE3.out.2.1).cells 0 _ rfl
    have HR3 := Lib.hid (HR2.out.ext hE3)
    generalize w2.heap.size + 1 = T at HE3 hb hf hT2 hT3 ⊢
    generalize w2.heap.size = N at HC6 hb HE3 ⊢
    clear hB3 hE3 HE2 HR2 hl2
    obtain ⟨u, rfl⟩ : ∃ u : Nat, x = (u : Int) := ⟨x.toNat, by omega⟩
    gi_upto_region 5 with (refine ⟨trivial, ?_⟩; gi_at_call 34; refine (callsIn_wide.2 (appendInt_fullT N 6 u (by omega) _ w3 rfl HC6.out (by decide) (Lib.tabBelow_of_tabIs HTAB.out w3 HE3.out.1))).mono ?_; rintro e w' ⟨v', rfl, hown', hx'⟩; obtain ⟨xb, xm, xc, rfl⟩ := own_slice3 hown'; have HN1 := Lib.hid (TxS.first (bs := [112, 32, 99, 110, 102, 32] ++ Lib.itoa (u : Int)) HE3.out.1 HE3.out.2.1 HE3.out.2.2 (Nat.le_refl _) hT2 hT3 hx' (by rw [Lib.byteCells_append]; exact hown') (by simp; omega)); have hb1 := HN1.out.1.cell; have hf1 := HN1.out.1.frozen; clear hown' hx')
    clear hb hf c0 HE3 HC6 hT3
    have H := Lib.hid HN1.out.2
    generalize w'.setCell ⟨T, 0, none⟩ (.slice xb xm xc) = w4 at H HN1 ⊢
    clear HN1 hb1 hf1
    have hb := H.out.box.cell
    have hf := H.out.box.frozen
    have c0 := H.out.cell0
    have c1 := H.out.cell1
    gi_upto_region 6 with (gi_at_builtin; refine TxS.stepApp rfl (.tmp 16) (.tmp 17) rfl H.out rfl [32] #[.int .u8 32] rfl _ rfl 1 rfl rfl (by have := itoa_le (l := (u : Int)) (by omega) (by omega); simp; omega) ?_; intro xb xm xc w' HN1; have hb1 := HN1.out.1.cell; have hf1 := HN1.out.1.frozen)
    clear hb hf c0 c1 H
    have H := Lib.hid HN1.out.2.1
    generalize w'.setCell ⟨T, 0, none⟩ (.slice xb xm xc) = w5 at H HN1 ⊢
    clear HN1 hb1 hf1
    have hb := H.out.box.cell
    have hf := H.out.box.frozen
    have c0 := H.out.cell0
    have c1 := H.out.cell1
    gi_upto_region 7 with (refine ⟨trivial, ?_⟩; gi_at_call 34; refine (callsIn_wide.2 (H.out.callInt HTAB.out (n : Int) (by omega) (by omega) (by have := itoa_le (l := (u : Int)) (by omega) (by omega); simp; omega))).mono ?_; rintro e w' ⟨xb, xm, xc, rfl, HN1⟩; have hb1 := HN1.out.1.cell; have hf1 := HN1.out.1.frozen)
    clear hb hf c0 c1 H
    have H := Lib.hid HN1.out.2.1
    generalize w'.setCell ⟨T, 0, none⟩ (.slice xb xm xc) = w6 at H HN1 ⊢
    clear HN1 hb1 hf1
    have hb := H.out.box.cell
    have hf := H.out.box.frozen
    have c0 := H.out.cell0
    have c1 := H.out.cell1
    gi_upto_region 8 with (gi_at_builtin; refine TxS.stepApp rfl (.tmp 24) (.tmp 25) rfl H.out rfl [10] #[.int .u8 10] rfl _ rfl 1 rfl rfl (by have := itoa_le (l := (u : Int)) (by omega) (by omega); have := itoa_le (l := (n : Int)) (by omega) (by omega); simp; omega) ?_; intro xb xm xc w' HN1; have hb1 := HN1.out.1.cell; have hf1 := HN1.out.1.frozen)
    clear hb hf c0 c1 H
    have H := Lib.hid HN1.out.2.1
    generalize w'.setCell ⟨T, 0, none⟩ (.slice xb xm xc) = w7 at H HN1 ⊢
    clear HN1 hb1 hf1
    have hb := H.out.box.cell
    have hf := H.out.box.frozen
    have c0 := H.out.cell0
    have c1 := H.out.cell1
    have HH : Hid (TxS w w.heap.size T (u : Int) (.slice a n cap) (.slice xb xm xc) (headB (u : Int) n) w7) := Lib.hid H.out
    have hNl : rs.length ≤ 1000000 := by rw [← HN.out]; omega
    have hhd : (headB (u : Int) n).length ≤ 50 := headB_le (by omega) (by omega) (by omega)
    clear H
    gi_wp2_with (refine ⟨trivial, ?_⟩; gi_at_call 25; refine (clauses_any (u : Int) _ _ Fence.wide _ trivial rfl).mono ?_; rintro e w' ⟨rfl, rfl⟩)
    have hE0 : Ext w (w7.alloc (.cells #[.int .i64 (u : Int), .slice a n cap] 24)) := HH.out.ext.alloc _
    have hI0 : TxI w w.heap.size T (u : Int) (.slice a n cap) (headB (u : Int) n) rs [] (w7.alloc (.cells #[.int .i64 (u : Int), .slice a n cap] 24)) :=
      ⟨_, _, _, by unfold preB; rw [List.flatMap_nil, List.append_nil]; exact HH.out.next ((Ext.refl w7).alloc _)⟩
    have hCB : (w7.alloc (.cells #[.int .i64 (u : Int), .slice a n cap] 24)).cell? ⟨w7.heap.size, 1, none⟩ = some (.slice a n cap) := (BoxV.of_row (heap_alloc_last w7 (.cells #[.int .i64 (u : Int), .slice a n cap] 24))).cells 1 _ rfl
    have hz0 : (w7.alloc (.cells #[.int .i64 (u : Int), .slice a n cap] 24)).heap.size = w7.heap.size + 1 := World.size_alloc _ _
    have hz7 := HH.out.ext.size
    have HRn : RowsIn w (.slice a n cap) vs rs := HN.out ▸ HR.out
    refine wpIn_rangeFunc_ownF rfl (by decide) (gf := 39) (lb := #[.pointer (some ⟨w7.heap.size, 0, none⟩)]) rfl trivial (enters_of Tryd.func39 (by kernel_rfl) rfl)
      (clauses_stops Fence.wide (8 - 1) trivial rfl (by decide) w7.heap.size (.slice a n cap) vs rs w _ HRn hNl hE0 (by rw [hz0]; omega) hCB)
      belowK_t (belowK_b (by omega)) (Below.refl _ _) (fun _ => rfl)
      (TxI w w.heap.size T (u : Int) (.slice a n cap) (headB (u : Int) n) rs) (fun _ _ _ => False) (txI_own (by omega) _ _) (fun _ _ _ _ _ hs _ _ => hs) hI0 ?a1 ?assign ?body ?done ?stop
    case assign =>
      intro l i W K hK
      gi_wp2
      exact hK
    case body =>
      rintro l pre i W ⟨b0, k0, c9, hTx⟩ hpl
      obtain ⟨y, r, hy, hr, hs⟩ := HRn.at i.2
      have e1 : vs[i.1]?.getD (.slice none 0 0) = y := by rw [hy]; rfl
      have e2 := Lib.hid (show rs.getD i.1 [] = r by rw [List.getD_eq_getElem?_getD, hr]; rfl)
      obtain ⟨ya, ycap, rfl, -, -, hrc⟩ := hs
      have HRC : Hid (∀ (k : Nat) (q : Int), r[k]? = some q → ∃ b o, ya = some ⟨b, o, none⟩ ∧ w.cell? ⟨b, o + k, none⟩ = some (.int .i64 q)) := Lib.hid fun k q hq => hrc k (.int .i64 q) (by simp [i64s, hq])
      have HCL : Hid (∀ q ∈ r, -1000000 ≤ q ∧ q ≤ 1000000) := Lib.hid fun q hq => by
        have := List.all_eq_true.1 (List.all_eq_true.1 HOK.out r (List.mem_of_getElem? hr)) q hq
        unfold litOk at this
        simp at this
        omega
      obtain ⟨L, hL⟩ : ∃ L, L = r.length := ⟨_, rfl⟩
      have HL := Lib.hid hL
      have hLb : L ≤ 200000 := by have := szF_mem (List.mem_of_getElem? hr); have := HS.out.1; omega
      have hbd : (headB (u : Int) n ++ preB rs pre).length ≤ 10000000000000 := by
        have hcl : ∀ i : Fin rs.length, (clB (rs.getD i.1 [])).length ≤ 4400002 := fun i => by
          have hgi : rs[i.1]? = some (rs.getD i.1 []) := by rw [List.getD_eq_getElem?_getD, List.getElem?_eq_getElem i.2]; rfl
          have h1 := szF_mem (List.mem_of_getElem? hgi)
          have h2 := litsB_le (c := rs.getD i.1 []) fun q hq => by
            have := List.all_eq_true.1 (List.all_eq_true.1 HOK.out _ (List.mem_of_getElem? hgi)) q hq
            unfold litOk at this
            simp at this
            omega
          have := HS.out.1
          unfold clB
          simp only [List.length_append, List.length_cons, List.length_nil]
          omega
        have h3 := flat_le hcl pre
        have h4 : pre.length * 4400002 ≤ 200000 * 4400002 := Nat.mul_le_mul_right _ (by have := HN.out; omega)
        rw [List.length_append]
        unfold preB
        omega
      obtain ⟨bs0, hbs⟩ : ∃ bs0, bs0 = headB (u : Int) n ++ preB rs pre := ⟨_, rfl⟩
      have HBS := Lib.hid hbs
      rw [← hbs] at hTx hbd
      have HTX := Lib.hid hTx
      have hWB := hTx.ext.size
      rw [← hL] at e1
      rw [e1]
      clear hbs hTx hL hy hr hrc e1 hI0 hE0 hCB hNl HRn hz0 hpl
      gi_wp2
      gi_loopw [32] (fun k wr' => ∃ (j : Nat) (b : Option Addr) (m c : Nat), j ≤ L ∧ k = .int .i64 j ∧ Hid (TxS w w.heap.size T (u : Int) (.slice a n cap) (.slice b m c) (bs0 ++ (r.take j).flatMap litB) wr' ∧ KeepsOthers W wr' ∧ Below w.heap.size W wr')) (fun k _ => L - (intOf k).toNat)
      case atStart => exact ⟨0, _, _, _, Nat.zero_le _, rfl, Lib.hid ⟨by rw [List.take_zero, List.flatMap_nil, List.append_nil]; exact HTX.out, KeepsOthers.refl _, Below.refl _ _⟩⟩
      case round =>
        obtain ⟨k, tb, tm, tc, hk, rfl, H⟩ := hrel
        have hb := H.out.1.box.cell
        have hf := H.out.1.box.frozen
        have hlen : (bs0 ++ (r.take k).flatMap litB).length ≤ 10000000000000 + 5000000 := by
          have h1 := litsB_le (c := r.take k) fun q hq => HCL.out q (List.mem_of_mem_take hq)
          have h2 : (r.take k).length ≤ k := by simp; omega
          rw [List.length_append]
          omega
        by_cases hlt : k < L
        · obtain ⟨q, hq⟩ : ∃ q, r[k]? = some q := ⟨_, List.getElem?_eq_getElem (by have := HL.out; omega)⟩
          obtain ⟨b, o, rfl, g0⟩ := HRC.out k q hq
          have g1 := H.out.1.ext.cell g0
          have hki : (k : Int) < (L : Int) := Int.ofNat_lt.2 hlt
          have hqb := HCL.out q (List.mem_of_getElem? hq)
          have HTK : Hid ((r.take (k + 1)).flatMap litB = (r.take k).flatMap litB ++ Lib.itoa q ++ [32]) := Lib.hid (by rw [List.take_add_one, hq, List.flatMap_append]; simp [litB])
          have hqi := itoa_le hqb.1 hqb.2
          obtain ⟨hq1, hq2⟩ := hqb
          have hlen2 : (bs0 ++ (r.take k).flatMap litB ++ Lib.itoa q).length ≤ 10000000000000 + 6000000 := by rw [List.length_append]; omega
          clear hq g0
          gi_upto_region 14 with (refine ⟨trivial, ?_⟩; gi_at_call 34; refine (CallsIn.inRound l (callsIn_wide.2 (H.out.1.callInt HTAB.out q hq1 hq2 (by omega)))).mono ?_; rintro e w' ⟨xb, xm, xc, rfl, HN1⟩; have hb1 := HN1.out.1.cell; have hf1 := HN1.out.1.frozen)
          have H2 := Lib.hid (And.intro HN1.out.2.1 (And.intro (H.out.2.1.trans HN1.out.2.2.1) (H.out.2.2.trans HN1.out.2.2.2)))
          generalize w'.setCell ⟨T, 0, none⟩ (.slice xb xm xc) = w8 at H2 HN1 ⊢
          clear HN1 hb1 hf1 hb hf g1 H
          have H := H2
          clear H2
          have hb := H.out.1.box.cell
          have hf := H.out.1.box.frozen
          gi_wp2_with (gi_at_builtin; refine TxS.stepApp rfl (.tmp 39) (.tmp 40) rfl H.out.1 rfl [32] #[.int .u8 32] rfl _ rfl 1 rfl rfl (by simp only [List.length_cons, List.length_nil]; omega) ?_; intro xb xm xc w' HN1; have hb1 := HN1.out.1.cell; have hf1 := HN1.out.1.frozen)
          exact ⟨⟨k + 1, _, _, _, by omega, by simp, Lib.hid ⟨by rw [HTK.out, ← List.append_assoc, ← List.append_assoc]; exact HN1.out.2.1, H.out.2.1.trans HN1.out.2.2.1, H.out.2.2.trans HN1.out.2.2.2⟩⟩, by simp [intOf]; omega⟩
        · have hki : ¬ (k : Int) < (L : Int) := fun e => hlt (Int.ofNat_lt.1 e)
          gi_wp2_with (gi_at_builtin; refine TxS.stepApp rfl (.tmp 43) (.tmp 44) rfl H.out.1 rfl [48, 10] #[.int .u8 48, .int .u8 10] rfl _ rfl 2 rfl rfl (by simp only [List.length_cons, List.length_nil]; omega) ?_; intro xb xm xc w' HN1; have hb1 := HN1.out.1.cell; have hf1 := HN1.out.1.frozen)
          refine ⟨H.out.2.1.trans HN1.out.2.2.1, H.out.2.2.trans HN1.out.2.2.2, xb, xm, xc, ?_⟩
          have h9 := HN1.out.2.1
          rw [List.take_of_length_le (by have := HL.out; omega)] at h9
          rw [preB_snoc, ← List.append_assoc, ← HBS.out, e2.out, clB, ← List.append_assoc]
          exact h9
    case done =>
      rintro D ys W hD rfl ⟨tb, tm, tc, H⟩ hK
      unfold preB at H
      rw [fins_flat] at H
      have HDK := Lib.hid (And.intro hD hK)
      have hR : R = textF (u : Int) rs := by rw [HRR.out, if_pos HC.out]
      have htx : headB (u : Int) n ++ rs.flatMap clB = textF (u : Int) rs := by unfold textF; rw [HN.out]
      rw [htx] at H
      have hpos : 0 < (textF (u : Int) rs).length := by unfold textF headB; simp
      obtain ⟨tx, htxx⟩ : ∃ tx, tx = textF (u : Int) rs := ⟨_, rfl⟩
      rw [← htxx] at H hpos hR
      have HRT := Lib.hid hR
      obtain ⟨g, cap', hv, hcells⟩ : ∃ g cap', Value.slice tb tm tc = .slice (some ⟨g, 0, none⟩) tx.length cap' ∧ ∀ j (hj : j < tx.length), W.cell? ((⟨g, 0, none⟩ : Addr).add j) = some (.int .u8 (tx[j].toNat : Int)) := by
        rcases H.own.2 with ⟨_, h0⟩ | ⟨g, cap', cur, e, _⟩
        · omega
        · exact ⟨g, cap', e, fun j hj => H.own.cells (g := g) (by rw [e]; rfl) j _ (by simp [Lib.byteCells, hj])⟩
      simp only [Value.slice.injEq] at hv
      obtain ⟨rfl, rfl, rfl⟩ := hv
      have hcv := run_convert_bytes_back (P := Tryd.prog) W 64 9 5 ⟨g, 0, none⟩ tc tx Tryd.underlying64 Tryd.underlying5 Tryd.underlying9 hcells
      have hb := H.box.cell
      have HX := Lib.hid H.ext
      clear htxx hR htx hD hK hI0 hE0 hCB hNl HRn hz0 H hcells
      gi_wp2
      have hz1 : w7.heap.size + 1 ≤ D := by have := HDK.out.1; rwa [World.size_alloc] at this
      refine ⟨by simp, .inl ⟨_, _, rfl, run_takeDeferred HDK.out.2, ?_⟩⟩
      refine ⟨_, results_tmp rfl _ _ _, by rw [HRT.out]; rfl, Below.trans HX.out (belowK_b (w := w) (Nat.le_refl _) W D _ _ (by omega) HDK.out.2 rfl rfl)⟩
    case stop =>
      rintro D c pre W _ _ h _
      exact h.elim
end Go.Proofs.YtlikmdeplpldlaaDoor

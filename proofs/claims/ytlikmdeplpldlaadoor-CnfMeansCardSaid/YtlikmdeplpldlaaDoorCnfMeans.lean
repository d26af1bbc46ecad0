/-
  The walk of the law CnfMeans.
  Conditions: the net, the wires and the inputs lie in memory, the library's table of powers is laid.
-/
import Derived.Test.YtlikmdeplpldlaaDoorCnfV
import Derived.Test.YtlikmdeplpldlaaDoorCnfQ
namespace Go.Proofs.YtlikmdeplpldlaaDoor
open Go.RowKit
set_option linter.unusedSimpArgs false
set_option linter.unusedVariables false
set_option maxRecDepth 100000

theorem of_good {W w : World} {l : List GateV} {ws : List Int} {e : Ending} {n N : Nat} (h : OfP W l ws e w) (h0 : netOk 0 l = true) (h1 : ∀ q ∈ ws, wireOk l.length q = true) (hn : n = l.length) (hN : N = (ofN l ws).length) : ∃ a c vs, e = .returned (.tuple #[.agg #[.int .i64 (n : Int), .slice a N c], .int .i64 0]) ∧ Hid (FR W [] (.slice a N c) vs (ofN l ws) w) := by
  have ho : ofV l ws = ((l.length : Int), ofN l ws, 0) := by unfold ofV; rw [h0, if_pos rfl, if_pos (List.all_eq_true.2 h1)]
  obtain ⟨v, vs, rfl, hf⟩ := h
  rw [ho] at hf ⊢
  obtain ⟨a, c, rfl⟩ := own_n hf.top
  have hl := hf.len
  rw [hl, ← hN] at hf ⊢
  rw [hn]
  exact ⟨a, c, vs, rfl, Lib.hid hf⟩

theorem EvP.bad {W w : World} {l : List GateV} {ins : List Bool} {e : Ending} (h : EvP W l ins e w) (hb : ¬ (netOk 0 l = true ∧ insN l = ins.length)) : ∃ x : Int, (x = 40 ∨ x = 23) ∧ e = .returned (.tuple #[.slice none 0 0, .int .i64 x]) ∧ Ext W w := by
  rcases h with ⟨_, rfl, hx⟩ | ⟨_, _, rfl, hx⟩ | ⟨h1, h2, _⟩
  · exact ⟨40, .inl rfl, rfl, hx⟩
  · exact ⟨23, .inr rfl, rfl, hx⟩
  · exact absurd ⟨h1, h2⟩ hb
theorem EvP.good {W w : World} {l : List GateV} {ins : List Bool} {e : Ending} {n : Nat} (h : EvP W l ins e w) (hg : netOk 0 l = true ∧ insN l = ins.length) (hn : n = l.length) : ∃ g, e = .returned (.tuple #[.slice (some ⟨g, 0, none⟩) n n, .int .i64 0]) ∧ Hid (Ext W w ∧ w.ownsRow W.heap.size 4 1 (.slice (some ⟨g, 0, none⟩) n n) n (bools (evalN l [] ins))) := by
  subst hn
  rcases h with ⟨h1, _⟩ | ⟨_, h2, _⟩ | ⟨_, _, g, rfl, hx, ho⟩
  · rw [hg.1] at h1; cases h1
  · exact absurd hg.2 h2
  · exact ⟨g, rfl, Lib.hid ⟨hx, ho⟩⟩

set_option maxHeartbeats 8000000 in
theorem cnfMeans_any (l : List GateV) (gv : Value) (ws : List Int) (wv : Value) (ins : List Bool) (iv : Value) (turn : Int) (w : World) (h : GatesIn w gv l) (hwf : GatesWf l) (hw : SlC w wv ws.length (i64s ws)) (hwI : ∀ x ∈ ws, I64 x) (hi : SlC w iv ins.length (bools ins)) (hT : I64 turn) (htab : Lib.TabIs Tryd.prog w "internal/strconv.uint64pow10" .u64 Lib.pow10Tab) :
    Calls Tryd.prog 5 #[.agg #[gv], wv, iv, .int .i64 turn] w fun e w' => e = .returned (.bool true) ∧ Ext w w' := by
  have HH := Lib.hid (And.intro h (And.intro hwf (And.intro hw (And.intro hwI (And.intro htab hi)))))
  obtain ⟨a, cap, rfl, hn1, hn2, hgc⟩ := id h
  obtain ⟨aw, capw, rfl, hm1, hm2, hwc⟩ := id hw
  obtain ⟨ai, capi, rfl, -, -, -⟩ := id hi
  obtain ⟨n, hn⟩ : ∃ n, n = l.length := ⟨_, rfl⟩
  obtain ⟨M, hM⟩ : ∃ n, n = ws.length := ⟨_, rfl⟩
  have HN := Lib.hid (And.intro hn hM)
  have hMb : M ≤ 9223372036854775807 := by have := hm2; unfold maxLen at this; omega
  have HG : Hid (GatesIn w (.slice a n cap) l) := Lib.hid (by rw [hn]; exact h)
  have HW : Hid (SlC w (.slice aw M capw) ws.length (i64s ws)) := Lib.hid (by rw [hM]; exact hw)
  have HC := Lib.hid (And.intro hgc hwc)
  obtain ⟨hT1, hT2⟩ := hT
  rw [← hn, ← hM]
  clear h hwf hw hwI htab hn hM hn1 hn2 hm1 hm2 hgc hwc hi
  go_enter Tryd.func5, Tryd.ntmps5
  go_upto_region 1 with fail
  have hbX := BoxV.of_row (heap_alloc_last w (.cells #[.slice a n cap] 35))
  have hE : Ext w (w.alloc (.cells #[.slice a n cap] 35)) := (Ext.refl w).alloc _
  generalize w.alloc (.cells #[.slice a n cap] 35) = w1 at hbX hE ⊢
  generalize w.heap.size = X at hbX ⊢
  have p0 := hbX.cells 0 _ rfl
  have hl := hbX.lt
  have HE := Lib.hid hE
  have HT1 := Lib.hid (tab_ext HH.out.2.2.2.2.1 hE)
  have HG1 : Hid (GatesIn w1 (.slice a n cap) l) := Lib.hid (HG.out.ext hE)
  have HW1 := Lib.hid (HW.out.ext hE)
  have HI1 := Lib.hid (HH.out.2.2.2.2.2.ext hE)
  clear hbX hE
  by_cases hbig : (5000 : Int) < (n : Int)
  · have hbg : decide (5000 < l.length) = true := decide_eq_true (by have := HN.out.1; omega)
    have HBG := Lib.hid hbg
    clear hbg
    go_wp2_with (first | (go_at_call 8; refine (alive_any _ (tab_ext HT1.out (by repeat first | exact Ext.refl _ | assumption | refine Ext.drew ?_ | refine Ext.drewN ?_ _ | refine Ext.extBy ?_ _ | refine Ext.alloc ?_ _ | refine Ext.setCell ?_ (by simp; try omega) _ | (refine Ext.trans ?_ (by assumption))))).mono ?_; rintro e w' ⟨rfl, hE'⟩; (first | (with_reducible obtain ⟨t2, rfl⟩ := Ext.tok2 hE') | (obtain ⟨t2, rfl⟩ := Ext.tok hE'))) | (go_at_call 15; refine (big22_any l _ _ (SlC.ext HG1.out (by repeat first | exact Ext.refl _ | assumption | refine Ext.drew ?_ | refine Ext.drewN ?_ _ | refine Ext.extBy ?_ _ | refine Ext.alloc ?_ _ | refine Ext.setCell ?_ (by simp; try omega) _ | (refine Ext.trans ?_ (by assumption))))).mono ?_; rintro e w' ⟨rfl, hE'⟩; rw [HBG.out]; (first | (with_reducible obtain ⟨t2, rfl⟩ := Ext.tok2 hE') | (obtain ⟨t2, rfl⟩ := Ext.tok hE'))))
    go_ret
    exact ⟨rfl, HE.out.trans (Ext.by w1 _)⟩
  · have hbg : decide (5000 < l.length) = false := decide_eq_false (by have := HN.out.1; omega)
    have HBG := Lib.hid hbg
    clear hbg
    by_cases hMM : (100 : Int) < (M : Int)
    · go_wp2_with (first | (go_at_call 8; refine (alive_any _ (tab_ext HT1.out (by repeat first | exact Ext.refl _ | assumption | refine Ext.drew ?_ | refine Ext.drewN ?_ _ | refine Ext.extBy ?_ _ | refine Ext.alloc ?_ _ | refine Ext.setCell ?_ (by simp; try omega) _ | (refine Ext.trans ?_ (by assumption))))).mono ?_; rintro e w' ⟨rfl, hE'⟩; (first | (with_reducible obtain ⟨t2, rfl⟩ := Ext.tok2 hE') | (obtain ⟨t2, rfl⟩ := Ext.tok hE'))) | (go_at_call 15; refine (big22_any l _ _ (SlC.ext HG1.out (by repeat first | exact Ext.refl _ | assumption | refine Ext.drew ?_ | refine Ext.drewN ?_ _ | refine Ext.extBy ?_ _ | refine Ext.alloc ?_ _ | refine Ext.setCell ?_ (by simp; try omega) _ | (refine Ext.trans ?_ (by assumption))))).mono ?_; rintro e w' ⟨rfl, hE'⟩; rw [HBG.out]; (first | (with_reducible obtain ⟨t2, rfl⟩ := Ext.tok2 hE') | (obtain ⟨t2, rfl⟩ := Ext.tok hE'))))
      go_ret
      exact ⟨rfl, HE.out.trans (Ext.by w1 _)⟩
    · by_cases htn : turn < 0
      · go_wp2_with (first | (go_at_call 8; refine (alive_any _ (tab_ext HT1.out (by repeat first | exact Ext.refl _ | assumption | refine Ext.drew ?_ | refine Ext.drewN ?_ _ | refine Ext.extBy ?_ _ | refine Ext.alloc ?_ _ | refine Ext.setCell ?_ (by simp; try omega) _ | (refine Ext.trans ?_ (by assumption))))).mono ?_; rintro e w' ⟨rfl, hE'⟩; (first | (with_reducible obtain ⟨t2, rfl⟩ := Ext.tok2 hE') | (obtain ⟨t2, rfl⟩ := Ext.tok hE'))) | (go_at_call 15; refine (big22_any l _ _ (SlC.ext HG1.out (by repeat first | exact Ext.refl _ | assumption | refine Ext.drew ?_ | refine Ext.drewN ?_ _ | refine Ext.extBy ?_ _ | refine Ext.alloc ?_ _ | refine Ext.setCell ?_ (by simp; try omega) _ | (refine Ext.trans ?_ (by assumption))))).mono ?_; rintro e w' ⟨rfl, hE'⟩; rw [HBG.out]; (first | (with_reducible obtain ⟨t2, rfl⟩ := Ext.tok2 hE') | (obtain ⟨t2, rfl⟩ := Ext.tok hE'))))
        go_ret
        exact ⟨rfl, HE.out.trans (Ext.by w1 _)⟩
      · have HSZ : Hid (10 * l.length + 2 * ws.length ≤ 200000) := Lib.hid (by have := HN.out; omega)
        go_upto_region 5 with (first | (go_at_call 8; refine (alive_any _ (tab_ext HT1.out (by repeat first | exact Ext.refl _ | assumption | refine Ext.drew ?_ | refine Ext.drewN ?_ _ | refine Ext.extBy ?_ _ | refine Ext.alloc ?_ _ | refine Ext.setCell ?_ (by simp; try omega) _ | (refine Ext.trans ?_ (by assumption))))).mono ?_; rintro e w' ⟨rfl, hE'⟩; (first | (with_reducible obtain ⟨t2, rfl⟩ := Ext.tok2 hE') | (obtain ⟨t2, rfl⟩ := Ext.tok hE'))) | (go_at_call 15; refine (big22_any l _ _ (SlC.ext HG1.out (by repeat first | exact Ext.refl _ | assumption | refine Ext.drew ?_ | refine Ext.drewN ?_ _ | refine Ext.extBy ?_ _ | refine Ext.alloc ?_ _ | refine Ext.setCell ?_ (by simp; try omega) _ | (refine Ext.trans ?_ (by assumption))))).mono ?_; rintro e w' ⟨rfl, hE'⟩; rw [HBG.out]; (first | (with_reducible obtain ⟨t3, rfl⟩ := Ext.tok2 hE') | (obtain ⟨t3, rfl⟩ := Ext.tok hE'))))
        have hx5 := Ext.by w1 t3
        have HX5 := Lib.hid hx5
        have p5 := hx5.cell p0
        have hl5 := Nat.lt_of_lt_of_le hl hx5.size
        clear p0 hl
        generalize w1.extBy t3 = w5 at hx5 HX5 p5 hl5 ⊢
        have HEV : Hid (Calls Tryd.prog 19 #[.agg #[.slice a n cap], .slice ai ins.length capi] w5 (EvP w5 l ins)) := Lib.hid (evalR_any l _ ins _ w5 (SlC.ext HG1.out HX5.out) HH.out.2.1 (HI1.out.ext HX5.out) (by have := HSZ.out; omega))
        clear hx5
        by_cases hgd : netOk 0 l = true ∧ insN l = ins.length
        · have HGD := Lib.hid hgd
          obtain ⟨V, hV⟩ : ∃ V, V = evalN l [] ins := ⟨_, rfl⟩
          have HV := Lib.hid hV
          obtain ⟨N, hN⟩ : ∃ N, N = (ofN l ws).length := ⟨_, rfl⟩
          have HNN := Lib.hid hN
          clear hgd hV hN
          go_upto_region 9 with (go_at_call 19; refine HEV.out.mono ?_; rintro e w6 hP; obtain ⟨g, rfl, HO⟩ := hP.good HGD.out HN.out.1; clear hP)
          have hx6 := HO.out.1
          have HX6 := Lib.hid (HX5.out.trans hx6)
          have p6 := hx6.cell p5
          have hl6 := Nat.lt_of_lt_of_le hl5 hx6.size
          have HVL : Hid (V.length = n) := Lib.hid (by rw [HV.out, evalN_len]; have := HN.out.1; simp; omega)
          have HVS : Hid (SlC w6 (.slice (some ⟨g, 0, none⟩) n n) V.length (bools V)) := Lib.hid (by rw [HVL.out, HV.out]; exact SlC.of_owns HO.out.2)
          clear hx6 HO HEV p5 hl5
          go_wp2
          go_loopw [13, 14] (fun al i wr => ∃ (j : Nat) (b : Bool), j ≤ M ∧ i = .int .i64 j ∧ al = .bool b ∧ wr = w6 ∧ Hid (b = (ws.take j).all (wireV V) ∧ ∀ q ∈ ws.take j, wireOk l.length q = true)) (fun _ i _ => M - (intOf i).toNat)
          case atStart => exact ⟨0, true, Nat.zero_le _, rfl, rfl, rfl, Lib.hid ⟨rfl, by simp⟩⟩
          case round =>
            obtain ⟨j, b, hj, rfl, rfl, rfl, HB⟩ := hrel
            by_cases hlt : j < M
            · obtain ⟨q, hq⟩ : ∃ q, ws[j]? = some q := ⟨_, List.getElem?_eq_getElem (by have := HN.out.2; omega)⟩
              obtain ⟨bw, ow, rfl, g0⟩ := HC.out.2 j (.int .i64 q) (by simp [i64s, hq])
              replace g0 := HX6.out.cell (HE.out.cell g0)
              have hji : (j : Int) < (M : Int) := Int.ofNat_lt.2 hlt
              have hqI := HH.out.2.2.2.1 q (List.mem_of_getElem? hq)
              obtain ⟨hq1, hq2⟩ := hqI
              have HTK : Hid ((ws.take (j + 1)) = ws.take j ++ [q]) := Lib.hid (by rw [List.take_add_one, hq]; rfl)
              clear hq
              by_cases hwk : 0 ≤ q ∧ q < 2 * (n : Int)
              · obtain ⟨w0, w1'⟩ := hwk
                obtain ⟨m, hqm⟩ : ∃ m : Nat, q = (m : Int) := ⟨q.toNat, by omega⟩
                obtain ⟨x, hx⟩ : ∃ x, x = wireV V q := ⟨_, rfl⟩
                have HWR : Hid (Calls Tryd.prog 20 #[.slice (some ⟨g, 0, none⟩) n n, .int .i64 q] wr fun e w' => e = .returned (.bool x) ∧ wr = w') := Lib.hid (by rw [hx, hqm]; exact wireR_any V _ m (by have := HVL.out; omega) (by have := HVL.out; omega) wr HVS.out)
                have HB2 : Hid ((b && x) = (ws.take (j + 1)).all (wireV V) ∧ ∀ q ∈ ws.take (j + 1), wireOk l.length q = true) := Lib.hid (by
                  rw [HTK.out, List.all_append, ← HB.out.1, hx]
                  refine ⟨by simp, fun q' hq' => ?_⟩
                  rcases List.mem_append.1 hq' with h1 | h1
                  · exact HB.out.2 q' h1
                  · simp at h1; subst h1; unfold wireOk; rw [← HN.out.1]; simp [w0, w1'])
                clear hx HB hqm
                cases b
                · go_wp2_with (go_at_call 20; refine HWR.out.mono ?_; rintro e w' ⟨rfl, rfl⟩)
                  exact ⟨⟨j + 1, false, by omega, by go_num, rfl, by first | rfl | trivial, Lib.hid (by simpa using HB2.out)⟩, by simp [intOf]; omega⟩
                · cases x
                  · go_wp2_with (go_at_call 20; refine HWR.out.mono ?_; rintro e w' ⟨rfl, rfl⟩)
                    exact ⟨⟨j + 1, false, by omega, by go_num, rfl, by first | rfl | trivial, Lib.hid (by simpa using HB2.out)⟩, by simp [intOf]; omega⟩
                  · go_wp2_with (go_at_call 20; refine HWR.out.mono ?_; rintro e w' ⟨rfl, rfl⟩)
                    exact ⟨⟨j + 1, true, by omega, by go_num, rfl, by first | rfl | trivial, Lib.hid (by simpa using HB2.out)⟩, by simp [intOf]; omega⟩
              · by_cases w0 : 0 ≤ q
                · have w1' : 2 * (n : Int) ≤ q := by
                    by_cases w1' : q < 2 * (n : Int)
                    · exact absurd ⟨w0, w1'⟩ hwk
                    · omega
                  clear hwk
                  go_wp2
                  go_ret
                  exact ⟨rfl, HE.out.trans HX6.out⟩
                · have w1' : q < 0 := by omega
                  clear hwk w0
                  go_wp2
                  go_ret
                  exact ⟨rfl, HE.out.trans HX6.out⟩
            · have hji : ¬ (j : Int) < (M : Int) := fun e => hlt (Int.ofNat_lt.1 e)
              have hBB := HB.out
              rw [List.take_of_length_le (by have := HN.out.2; omega)] at hBB
              have HBB := Lib.hid hBB
              clear hBB HB hlt
              have hNb : N ≤ 200000 := by have := szF_len (ofN l ws); have := ofN_sz l ws; have := HSZ.out; have := HNN.out; omega
              have HSF : Hid (szF (ofN l ws) ≤ 200000) := Lib.hid (by have := ofN_sz l ws; have := HSZ.out; omega)
              go_upto_region 19 with (first | (go_at_call 16; refine (ofC_any l _ ws _ wr (SlC.ext HG1.out HX6.out) HH.out.2.1 (SlC.ext HW1.out HX6.out) HH.out.2.2.2.1 HSZ.out).mono ?_; rintro e w7 hP; obtain ⟨fa, fc, fs, rfl, HF⟩ := of_good hP HGD.out.1 HBB.out.2 HN.out.1 HNN.out; clear hP) | (refine wpList_store_last rfl 24 (.tmp 16) (.tmp 81) rfl _ _ _ _ rfl rfl (by simp) (by kernel_rfl) (by kernel_rfl) (by kernel_rfl) ?_) | (go_at_call 11; refine (num23_any _ _).mono ?_; rintro e w' ⟨rfl, rfl⟩))
              have hx8 := HF.out.ext.trans ((Ext.refl w7).alloc (.cells #[.int .i64 (n : Int), .slice fa N fc] 24))
              have HR8 := Lib.hid (HF.out.rows.ext ((Ext.refl w7).alloc (.cells #[.int .i64 (n : Int), .slice fa N fc] 24)))
              have HB8 := Lib.hid (BoxV.of_row (heap_alloc_last w7 (.cells #[.int .i64 (n : Int), .slice fa N fc] 24)))
              clear HF
              generalize w7.alloc (.cells #[.int .i64 (n : Int), .slice fa N fc] 24) = w8 at hx8 HR8 HB8 ⊢
              generalize w7.heap.size = X8 at HB8 ⊢
              have HX8 := Lib.hid (HX6.out.trans hx8)
              have HV8 : Hid (SlC w8 (.slice (some ⟨g, 0, none⟩) n n) n (bools V)) := Lib.hid (by have := HVS.out.ext hx8; rwa [HVL.out] at this)
              have p8 := hx8.cell p6
              clear hx8 p6 hl6 HVS
              go_upto_region 20 with (at_builtin; (refine wpList_append_slc _ rfl (.tmp 86) (.tmp 87) 25 rfl w8.heap.size 4 (.bool false) 1 1 Tryd.underlying25 infoBool rfl (by decide) (.slice (some ⟨w8.heap.size, 0, none⟩) 1 1) 1 [.bool false] rfl (own_fresh w8 #[.bool false] 4 w8.heap.size 1 _ rfl (Nat.le_refl _) rfl (by decide)) _ n (bools V) rfl (HV8.out.ext ((Ext.refl w8).alloc _)) (by rw [bools_len, HVL.out, Nat.mul_one]) (by intro u hu; simp [bools] at hu; rcases hu with ⟨_, rfl⟩ | ⟨_, rfl⟩ <;> rfl) (by unfold maxLen; omega) (by omega) (by simp) ?_; intro v3 w9 hown3 hg3 hat3; have hx9 := below_grown (B := w8.heap.size) (base := w8.heap.size) ((Ext.refl w8).alloc _) (Nat.le_refl _) (by simp) (own_fresh w8 #[.bool false] 4 w8.heap.size 1 _ rfl (Nat.le_refl _) rfl (by decide)) hg3; rw [Nat.add_comm 1 n] at hown3; obtain ⟨gm, cm, rfl, hgm, -, hgl⟩ := ownsRow_some hown3 (Nat.succ_pos n); have HM := Lib.hid (And.intro hown3 (And.intro hx9 hgm)); clear hown3 hg3 hat3 hx9 hgm hgl))
              have hm9 : Ext w8 w9 := HM.out.2.1
              have r0 := (HB8.out.ext hm9).cells 0 _ rfl
              have r1 := (HB8.out.ext hm9).cells 1 _ rfl
              have rl := (HB8.out.ext hm9).lt
              have p9 := hm9.cell p8
              have hml : (false :: V).length = n + 1 := by rw [List.length_cons, HVL.out]
              have hown : w9.ownsRow w8.heap.size 4 1 (.slice (some ⟨gm, 0, none⟩) (n + 1) cm) (n + 1) (bools (false :: V)) := HM.out.1
              have HHO : Hid (Calls Tryd.prog 13 #[.agg #[.int .i64 (n : Int), .slice fa N fc], .slice (some ⟨gm, 0, none⟩) (n + 1) cm] w9 fun e w' => e = .returned (.bool b) ∧ Ext w9 w') := Lib.hid (by
                have := holdsC_any (n : Int) (.slice fa N fc) fs (ofN l ws) (false :: V) (.slice (some ⟨gm, 0, none⟩) (n + 1) cm) w9 (by omega) (by omega) (HR8.out.ext hm9) HSF.out (by rw [hml]; exact SlC.of_owns hown) (by rw [hml]; omega)
                have e : holdsF (n : Int) (ofN l ws) (false :: V) = b := by rw [HBB.out.1, HN.out.1, HV.out]; exact means_all HGD.out.1 HBB.out.2
                rwa [e] at this)
              have hglt := (hown.lt gm rfl).2
              have hsz8 := hm9.size
              clear hm9 hml
              by_cases hn0 : n = 0
              · subst hn0
                go_wp2_with (go_at_call 13; refine HHO.out.mono ?_; rintro e w10 ⟨rfl, hx10⟩)
                go_ret
                exact ⟨rfl, (Ext.trans (HE.out.trans HX8.out) HM.out.2.1).trans hx10⟩
              · obtain ⟨k, hk⟩ : ∃ k : Nat, turn.tmod (n : Int) = (k : Int) := ⟨(turn.tmod (n : Int)).toNat, by have := Int.tmod_nonneg (n : Int) (show 0 ≤ turn by omega); omega⟩
                have hkn : k < n := by have := Int.tmod_lt_of_pos turn (show (0 : Int) < (n : Int) by omega); omega
                have hki : (k : Int) < (n : Int) := Int.ofNat_lt.2 hkn
                have hnn : (n : Int) ≠ 0 := by omega
                obtain ⟨bk, hbk⟩ : ∃ x, V[k]? = some x := ⟨_, List.getElem?_eq_getElem (by have := HVL.out; omega)⟩
                obtain ⟨f1, f2⟩ := own_cell1 hown (k + 1) (.bool bk) (by rw [bools_at (false :: V) (k + 1) bk (by simpa using hbk)])
                have HBK := Lib.hid hbk
                have HOW := Lib.hid hown
                clear hbk hown
                go_upto_region 25 with (go_at_call 13; refine HHO.out.mono ?_; rintro e w10 ⟨rfl, hx10⟩)
                have f3 := hx10.cell f1
                have f4 : w10.frozen? ⟨gm, k + 1, none⟩ = false := by rw [hx10.frozens _ _ hglt]; exact f2
                have hkm : (k : Int) + 1 < (n : Int) + 1 := by omega
                have HOX := Lib.hid (ownsRow_ext HOW.out hx10)
                have HX10 : Hid (Ext w8 w10) := Lib.hid (Ext.trans HM.out.2.1 hx10)
                clear f1 f2 r0 r1 rl p9 hglt
                go_upto_region 26 with fail
                have hx11 : Ext w8 (w10.setCell ⟨gm, k + 1, none⟩ (.bool (!bk))) := HX10.out.setCell (p := ⟨gm, k + 1, none⟩) HM.out.2.2 _
                have hown := own_set1 HOX.out (k + 1) (by omega) (.bool (!bk))
                have hset : (bools (false :: V)).set (k + 1) (.bool (!bk)) = bools ((false :: V).set (k + 1) (!bk)) := by simp [bools, List.map_set]
                rw [hset] at hown
                have HOS := Lib.hid hown
                have r0 := (HB8.out.ext hx11).cells 0 _ rfl
                have r1 := (HB8.out.ext hx11).cells 1 _ rfl
                have HR11 := Lib.hid (HR8.out.ext hx11)
                have p11 := hx11.cell p8
                have HX11 := Lib.hid ((HE.out.trans HX8.out).trans hx11)
                obtain ⟨q, hq⟩ : ∃ q, l[k]? = some q := ⟨_, List.getElem?_eq_getElem (by have := HN.out.1; omega)⟩
                obtain ⟨b3, o3, rfl, g0⟩ := HC.out.1 (k * 3) _ (gateCells_at l k q hq).1
                replace g0 := HX11.out.cell g0
                have HQ := Lib.hid hq
                clear hx11 hown hset f3 f4 hx10
                generalize w10.setCell ⟨gm, k + 1, none⟩ (.bool (!bk)) = w11 at HOS r0 r1 HR11 p11 HX11 g0 ⊢
                obtain ⟨op, qa, qb⟩ := q
                dsimp only at g0
                by_cases h2 : op = 2
                · subst h2
                  clear hq
                  go_wp2
                  go_ret
                  exact ⟨rfl, HX11.out⟩
                · have h2b : (op == 2) = false := by simpa using h2
                  have hml : ((false :: V).set (k + 1) (!bk)).length = n + 1 := by rw [List.length_set, List.length_cons, HVL.out]
                  have HHF : Hid (Calls Tryd.prog 13 #[.agg #[.int .i64 (n : Int), .slice fa N fc], .slice (some ⟨gm, 0, none⟩) (n + 1) cm] w11 fun e w' => e = .returned (.bool false) ∧ Ext w11 w') := Lib.hid (by
                    have := holdsC_any (n : Int) (.slice fa N fc) fs (ofN l ws) ((false :: V).set (k + 1) (!bk)) (.slice (some ⟨gm, 0, none⟩) (n + 1) cm) w11 (by omega) (by omega) HR11.out HSF.out (by rw [hml]; exact SlC.of_owns HOS.out) (by rw [hml]; omega)
                    have e : holdsF (n : Int) (ofN l ws) ((false :: V).set (k + 1) (!bk)) = false := by
                      have e1 : bk = (evalN l [] ins).getD k false := by rw [← HV.out, List.getD_eq_getElem?_getD, HBK.out]; rfl
                      rw [HN.out.1, e1, HV.out]
                      exact means_turn HGD.out.1 hq h2
                    rwa [e] at this)
                  clear hq h2 hml
                  go_wp2_with (go_at_call 13; refine HHF.out.mono ?_; rintro e w12 ⟨rfl, hx12⟩)
                  go_ret
                  exact ⟨rfl, HX11.out.trans hx12⟩
        · have hbd : ∀ {e w'}, EvP w5 l ins e w' → _ := fun h => EvP.bad h hgd
          have HBD := Lib.hid hgd
          clear hgd hbd
          go_upto_region 6 with (go_at_call 19; refine HEV.out.mono ?_; rintro e w6 hP; obtain ⟨x, hx, rfl, hx6⟩ := hP.bad HBD.out; clear hP)
          have hne : (x != 0) = true := by rcases hx with rfl | rfl <;> rfl
          clear hx
          go_wp2
          go_ret
          exact ⟨rfl, (HE.out.trans HX5.out).trans hx6⟩
end Go.Proofs.YtlikmdeplpldlaaDoor

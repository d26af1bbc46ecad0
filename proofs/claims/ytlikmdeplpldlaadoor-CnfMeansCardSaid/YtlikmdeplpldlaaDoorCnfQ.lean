/-
  The reference's walk that tells all gates' values.
  Conditions: the net and the inputs lie in memory, the net is small.
-/
import Derived.Test.YtlikmdeplpldlaaDoorCnfM
import Derived.Test.YtlikmdeplpldlaaDoorCnfP
namespace Go.Proofs.YtlikmdeplpldlaaDoor
open Go.RowKit
set_option linter.unusedSimpArgs false
set_option linter.unusedVariables false
set_option maxRecDepth 100000

/-- What Eval tells. -/
def EvP (W : World) (l : List GateV) (ins : List Bool) (e : Ending) (w' : World) : Prop :=
  (netOk 0 l = false ∧ e = .returned (.tuple #[.slice none 0 0, .int .i64 40]) ∧ Ext W w') ∨ (netOk 0 l = true ∧ insN l ≠ ins.length ∧ e = .returned (.tuple #[.slice none 0 0, .int .i64 23]) ∧ Ext W w') ∨
  (netOk 0 l = true ∧ insN l = ins.length ∧ ∃ g, e = .returned (.tuple #[.slice (some ⟨g, 0, none⟩) l.length l.length, .int .i64 0]) ∧ Ext W w' ∧ w'.ownsRow W.heap.size 4 1 (.slice (some ⟨g, 0, none⟩) l.length l.length) l.length (bools (evalN l [] ins)))
/-- What the walk of Eval keeps. -/
structure EvS (W : World) (X g n : Nat) (gv : Value) (A : List Bool) (j : Nat) (w : World) : Prop where
  ext : Ext W w
  box : BoxV X [gv] w
  own : w.ownsRow W.heap.size 4 1 (.slice (some ⟨g, 0, none⟩) n n) n (bools (padV n j A))
  len : A.length = j
  ne : g ≠ X
theorem EvS.next {W w w' : World} {X g n j : Nat} {gv : Value} {A : List Bool} (h : EvS W X g n gv A j w) (hx : Ext w w') : EvS W X g n gv A j w' :=
  { h with ext := h.ext.trans hx, box := h.box.ext hx, own := ownsRow_ext h.own hx }
theorem EvS.put {W w : World} {X g n j : Nat} {gv : Value} {A : List Bool} (h : EvS W X g n gv A j w) (hj : j < n) (b : Bool) : EvS W X g n gv (A ++ [b]) (j + 1) (w.setCell ⟨g, j, none⟩ (.bool b)) :=
  ⟨h.ext.setCell (p := ⟨g, j, none⟩) (h.own.lt g rfl).1 _, h.box.other h.ne _ _, by rw [← padV_set h.len hj]; exact own_set1 h.own j hj _, by simp [h.len], h.ne⟩
theorem EvS.skip {W w : World} {X g n j : Nat} {gv : Value} {A : List Bool} (h : EvS W X g n gv A j w) (hj : j < n) : EvS W X g n gv (A ++ [false]) (j + 1) w :=
  { h with own := by rw [← padV_skip hj]; exact h.own, len := by simp [h.len] }
theorem EvS.cell {W w : World} {X g n j : Nat} {gv : Value} {A : List Bool} (h : EvS W X g n gv A j w) (hj : j < n) : (∃ u, w.cell? ⟨g, j, none⟩ = some u) ∧ w.frozen? ⟨g, j, none⟩ = false := by
  obtain ⟨y, e1, e2⟩ := own_room1 h.own j hj
  exact ⟨⟨y, e1⟩, e2⟩

theorem infoBool : (Tryd.prog.info? 4).map (fun i => (i.zero, i.size, i.bytes)) = some (some (.bool false), 1, 1) := by kernel_rfl
theorem padV_zero (n : Nat) : (madeCells (Value.bool false).cells (n * 1)).toList = bools (padV n 0 []) := by
  rw [Nat.mul_one, show (Value.bool false).cells = #[Value.bool false] from rfl, toList_madeCells_one]
  simp [padV, bools]
set_option maxHeartbeats 8000000 in
theorem evalR_any (l : List GateV) (gv : Value) (ins : List Bool) (iv : Value) (w : World) (h : GatesIn w gv l) (hwf : GatesWf l) (hi : SlC w iv ins.length (bools ins)) (hl : l.length ≤ 200000) :
    Calls Tryd.prog 19 #[.agg #[gv], iv] w (EvP w l ins) := by
  obtain ⟨Q, hQ⟩ : ∃ Q, Q = EvP w l ins := ⟨_, rfl⟩
  rw [← hQ]
  have HQ := Lib.hid hQ
  obtain ⟨a, cap, rfl, -, -, hc⟩ := id h
  obtain ⟨ai, capi, rfl, hi1, hi2, hic⟩ := id hi
  have HG := Lib.hid (And.intro hwf (And.intro hc hic))
  obtain ⟨n, hn⟩ : ∃ n, n = l.length := ⟨_, rfl⟩
  obtain ⟨I, hI⟩ : ∃ n, n = ins.length := ⟨_, rfl⟩
  have HN := Lib.hid (And.intro hn hI)
  have HGn : Hid (GatesIn w (.slice a n cap) l) := Lib.hid (by rw [hn]; exact h)
  have hIb : I ≤ 9223372036854775807 := by have := hi2; unfold maxLen at this; omega
  rw [← hn] at hl
  rw [← hn, ← hI]
  clear h hc hic hi hi1 hi2 hwf hQ hn hI
  go_enter Tryd.func19, Tryd.ntmps19
  go_upto_region 1 with fail
  have hbX := BoxV.of_row (heap_alloc_last w (.cells #[.slice a n cap] 35))
  have hE : Ext w (w.alloc (.cells #[.slice a n cap] 35)) := (Ext.refl w).alloc _
  generalize w.alloc (.cells #[.slice a n cap] 35) = w1 at hbX hE ⊢
  obtain ⟨X, hX⟩ : ∃ X, X = w.heap.size := ⟨_, rfl⟩
  rw [← hX] at hbX ⊢
  have p0 := hbX.cells 0 _ rfl
  have hlX := hbX.lt
  have HE := Lib.hid (And.intro hE (And.intro hbX hX))
  have HG1 : Hid (GatesIn w1 (.slice a n cap) l) := Lib.hid (HGn.out.ext hE)
  clear hbX hE hX
  rcases chkN_or l with ⟨hc, ho⟩ | ⟨hc, ho⟩
  · have HC := Lib.hid hc
    have HO := Lib.hid ho
    clear hc ho
    go_wp2_with (go_at_call 31; refine (checkNR_any l _ _ (SlC.ext HG1.out (by repeat first | exact Ext.refl _ | assumption | refine Ext.drew ?_ | refine Ext.drewN ?_ _ | refine Ext.extBy ?_ _ | refine Ext.alloc ?_ _ | refine Ext.setCell ?_ (by simp; try omega) _ | (refine Ext.trans ?_ (by assumption)))) HG.out.1 (by have := HN.out; omega)).mono ?_; rintro e w' ⟨rfl, hE'⟩; rw [HC.out]; (first | (with_reducible obtain ⟨t2, rfl⟩ := Ext.tok2 hE') | (obtain ⟨t2, rfl⟩ := Ext.tok hE')))
    (try go_ret2)
    rw [HQ.out]
    exact .inl ⟨HO.out, rfl, HE.out.1.trans (Ext.by w1 t2)⟩
  · have HC := Lib.hid hc
    have HO := Lib.hid ho
    clear hc ho
    obtain ⟨K, hK⟩ : ∃ K, K = insN l := ⟨_, rfl⟩
    have HK := Lib.hid hK
    have hKb : K ≤ 200000 := by have := insN_len l; have := HN.out; omega
    clear hK
    by_cases hKI : K = I
    · subst hKI
      obtain ⟨i0, hi, hz0, hz1, hz2⟩ := info_parts infoBool
      go_upto_region 7 with (first | (go_at_call 31; refine (checkNR_any l _ _ (SlC.ext HG1.out (by repeat first | exact Ext.refl _ | assumption | refine Ext.drew ?_ | refine Ext.drewN ?_ _ | refine Ext.extBy ?_ _ | refine Ext.alloc ?_ _ | refine Ext.setCell ?_ (by simp; try omega) _ | (refine Ext.trans ?_ (by assumption)))) HG.out.1 (by have := HN.out; omega)).mono ?_; rintro e w' ⟨rfl, hE'⟩; rw [HC.out]; (first | (with_reducible obtain ⟨t2, rfl⟩ := Ext.tok2 hE') | (obtain ⟨t2, rfl⟩ := Ext.tok hE'))) | (go_at_call 33; refine (inputsR_any l _ _ (SlC.ext HG1.out (by repeat first | exact Ext.refl _ | assumption | refine Ext.drew ?_ | refine Ext.drewN ?_ _ | refine Ext.extBy ?_ _ | refine Ext.alloc ?_ _ | refine Ext.setCell ?_ (by simp; try omega) _ | (refine Ext.trans ?_ (by assumption)))) (by have := HN.out; omega)).mono ?_; rintro e w' ⟨ja, jc, rfl, hE'⟩; rw [← HK.out]; (first | (with_reducible obtain ⟨t3, rfl⟩ := Ext.tok2 hE') | (obtain ⟨t3, rfl⟩ := Ext.tok hE'))) | (at_make; refine wpList_make_full _ rfl _ _ 25 rfl w.heap.size 4 i0 (.bool false) 1 Tryd.underlying25 hi hz0 hz1 .i64 .i64 (n : Int) (n : Int) n rfl rfl rfl rfl (by rw [hz2]; omega) (by unfold maxLen; omega) (by have := HE.out.1.size; simp; omega) ?_; intro w3 hown3 hg3; have HP := Lib.hid (And.intro hown3 hg3); clear hown3 hg3))
      obtain ⟨g, hgg⟩ : ∃ g, g = w1.heap.size + t3.n := ⟨_, rfl⟩
      have hT := Ext.by w1 t3
      have hEV : Hid (EvS w X g n (.slice a n cap) [] 0 w3) := Lib.hid (by
        obtain ⟨h1, h2⟩ := HP.out
        have hx : Ext (w1.extBy t3) w3 := ⟨h2.os, h2.tape, h2.output, h2.size, fun k hk => h2.block k hk (by simp)⟩
        refine ⟨(HE.out.1.trans hT).trans hx, (HE.out.2.1.ext hT).ext hx, ?_, rfl, by omega⟩
        rw [← padV_zero, hgg, show w1.heap.size + t3.n = (w1.extBy t3).heap.size by simp]
        exact h1)
      rw [← hgg]
      clear HP hgg hT hE' p0 hlX HE HG1 hi hz0 hz1 hz2
      go_wp2
      go_loopw [8, 9] (fun k8 i wr => ∃ j : Nat, j ≤ n ∧ i = .int .i64 j ∧ k8 = .int .i64 (insN (l.take j) : Int) ∧ Hid (EvS w X g n (.slice a n cap) (evalN (l.take j) [] ins) j wr)) (fun _ i _ => n - (intOf i).toNat)
      case atStart => exact ⟨0, Nat.zero_le _, rfl, rfl, hEV⟩
      case round =>
        obtain ⟨j, hj, rfl, rfl, HV⟩ := hrel
        clear hEV
        have q0 := HV.out.box.cells 0 _ rfl
        by_cases hlt : j < n
        · have hji : (j : Int) < (n : Int) := Int.ofNat_lt.2 hlt
          obtain ⟨q, hq⟩ : ∃ q, l[j]? = some q := ⟨_, List.getElem?_eq_getElem (by have := HN.out; omega)⟩
          have hcs3 := gateCells_at l j q hq
          obtain ⟨b3, o3, rfl, g0⟩ := HG.out.2.1 (j * 3) _ hcs3.1
          obtain ⟨b3', o3', e0, g1⟩ := HG.out.2.1 (j * 3 + 1) _ hcs3.2.1
          simp only [Option.some.injEq, Addr.mk.injEq] at e0
          obtain ⟨rfl, rfl, -⟩ := e0
          obtain ⟨b3', o3', e0, g2⟩ := HG.out.2.1 (j * 3 + 2) _ hcs3.2.2
          simp only [Option.some.injEq, Addr.mk.injEq] at e0
          obtain ⟨rfl, rfl, -⟩ := e0
          rw [← Nat.add_assoc] at g1 g2
          replace g0 := HV.out.ext.cell g0
          replace g1 := HV.out.ext.cell g1
          replace g2 := HV.out.ext.cell g2
          have hgok := netOk_at HO.out hq
          rw [Nat.zero_add] at hgok
          have HGOK := Lib.hid hgok
          have HST := Lib.hid (And.intro (evalN_take hq ins) (insN_take hq))
          have hkl := insN_le l j
          have hkl2 := insN_le l (j + 1)
          rw [insN_take hq, ← HK.out] at hkl2
          rw [← HK.out] at hkl
          obtain ⟨op, qa, qb⟩ := q
          dsimp only at g0 g1 g2 hkl2
          clear hq hcs3 hgok
          go_upto_region 12 with (refine wpList_store_last rfl 48 (.tmp 10) (.tmp 39) rfl _ _ _ _ rfl rfl (by simp) (by kernel_rfl) (by kernel_rfl) (by kernel_rfl) ?_)
          go_frame
          have HB5 := Lib.hid (BoxV.of_row (heap_alloc_last wr (.cells #[.int .i64 op, .int .i64 qa, .int .i64 qb] 48)))
          have HV5 := Lib.hid (HV.out.next ((Ext.refl wr).alloc (.cells #[.int .i64 op, .int .i64 qa, .int .i64 qb] 48)))
          clear HV q0
          generalize wr.alloc (.cells #[.int .i64 op, .int .i64 qa, .int .i64 qb] 48) = w5 at HV5 HB5 ⊢
          generalize wr.heap.size = Y at HB5 ⊢
          have hY0 := HB5.out.cells 0 _ rfl
          have hY1 := HB5.out.cells 1 _ rfl
          have hY2 := HB5.out.cells 2 _ rfl
          obtain ⟨⟨u, r0⟩, rf⟩ := HV5.out.cell hlt
          obtain ⟨kk, hkk⟩ : ∃ k, k = insN (l.take j) := ⟨_, rfl⟩
          rw [← hkk] at hkl hkl2 ⊢
          have HKK := Lib.hid hkk
          clear g0 g1 g2 hkk
          by_cases h2 : op = 2
          · subst h2
            simp only [if_true] at hkl2
            obtain ⟨b, hb⟩ : ∃ b, ins[kk]? = some b := ⟨_, List.getElem?_eq_getElem (by have := HN.out; omega)⟩
            obtain ⟨bi, oi, rfl, f0⟩ := HG.out.2.2 kk (.bool b) (bools_at ins kk b hb)
            replace f0 := HV5.out.ext.cell f0
            have hkI : (kk : Int) < (K : Int) := by omega
            have hnx : Hid (evalN (l.take (j + 1)) [] ins = evalN (l.take j) [] ins ++ [b] ∧ insN (l.take (j + 1)) = kk + 1) := Lib.hid (by
              refine ⟨?_, by rw [HST.out.2, ← HKK.out]; simp⟩
              rw [HST.out.1, ← HKK.out]
              simp [nextV, List.getD, hb])
            clear hb
            go_wp2
            exact ⟨⟨j + 1, by omega, by go_num, by rw [hnx.out.2]; go_num, by rw [hnx.out.1]; exact Lib.hid (HV5.out.put hlt b)⟩, by simp [intOf]; omega⟩
          · by_cases h3 : op = 3
            · have hrg : 0 ≤ qa ∧ 0 ≤ qb ∧ qa < 2 * (j : Int) ∧ qb < 2 * (j : Int) := by
                have := HGOK.out
                unfold gateOk at this
                dsimp only at this
                rw [if_neg (by omega), if_pos h3] at this
                simpa using this
              subst h3
              obtain ⟨a1, a2, a3, a4⟩ := hrg
              obtain ⟨ma, rfl⟩ : ∃ m : Nat, qa = (m : Int) := ⟨qa.toNat, by omega⟩
              obtain ⟨mb, rfl⟩ : ∃ m : Nat, qb = (m : Int) := ⟨qb.toNat, by omega⟩
              obtain ⟨xa, hxa⟩ : ∃ x, x = wireV (evalN (l.take j) [] ins) (ma : Int) := ⟨_, rfl⟩
              obtain ⟨xb, hxb⟩ : ∃ x, x = wireV (evalN (l.take j) [] ins) (mb : Int) := ⟨_, rfl⟩
              have hpl := padV_len HV5.out.len hj
              have HWA : Hid (Calls Tryd.prog 20 #[.slice (some ⟨g, 0, none⟩) n n, .int .i64 (ma : Int)] w5 fun e w' => e = .returned (.bool xa) ∧ w5 = w') := Lib.hid (by
                have := wireR_any (padV n j (evalN (l.take j) [] ins)) (.slice (some ⟨g, 0, none⟩) n n) ma (by rw [hpl]; omega) (by rw [hpl]; omega) w5 (by rw [hpl]; exact SlC.of_owns HV5.out.own)
                rwa [padV_wire HV5.out.len a1 a3, ← hxa] at this)
              have HWB : Hid (Calls Tryd.prog 20 #[.slice (some ⟨g, 0, none⟩) n n, .int .i64 (mb : Int)] w5 fun e w' => e = .returned (.bool xb) ∧ w5 = w') := Lib.hid (by
                have := wireR_any (padV n j (evalN (l.take j) [] ins)) (.slice (some ⟨g, 0, none⟩) n n) mb (by rw [hpl]; omega) (by rw [hpl]; omega) w5 (by rw [hpl]; exact SlC.of_owns HV5.out.own)
                rwa [padV_wire HV5.out.len a2 a4, ← hxb] at this)
              have hnx : Hid (evalN (l.take (j + 1)) [] ins = evalN (l.take j) [] ins ++ [xa && xb] ∧ insN (l.take (j + 1)) = kk) := Lib.hid (by
                refine ⟨?_, by rw [HST.out.2, ← HKK.out]; simp⟩
                rw [HST.out.1, hxa, hxb]
                simp [nextV])
              clear hxa hxb hpl h2
              cases xa <;> cases xb <;>
              · go_wp2_with (go_at_call 20; (first | (with_reducible refine HWA.out.mono ?_) | (with_reducible refine HWB.out.mono ?_)); rintro e w' ⟨rfl, rfl⟩)
                exact ⟨⟨j + 1, by omega, by go_num, by rw [hnx.out.2], by rw [hnx.out.1]; exact Lib.hid (HV5.out.put hlt _)⟩, by simp [intOf]; omega⟩
            · have h2b : (op == 2) = false := by simpa using h2
              have h3b : (op == 3) = false := by simpa using h3
              have hnx : Hid (evalN (l.take (j + 1)) [] ins = evalN (l.take j) [] ins ++ [false] ∧ insN (l.take (j + 1)) = kk) := Lib.hid (by
                refine ⟨?_, by rw [HST.out.2, ← HKK.out]; simp [h2]⟩
                rw [HST.out.1]
                simp [nextV, h2, h3])
              clear h2 h3
              go_wp2
              exact ⟨⟨j + 1, by omega, by go_num, by rw [hnx.out.2], by rw [hnx.out.1]; exact Lib.hid (HV5.out.skip hlt)⟩, by simp [intOf]; omega⟩
        · have hji : ¬ (j : Int) < (n : Int) := fun e => hlt (Int.ofNat_lt.1 e)
          obtain rfl : j = n := by omega
          have hF := HV.out.own
          have hX := HV.out.ext
          rw [List.take_of_length_le (by have := HN.out; omega), show padV j j (evalN l [] ins) = evalN l [] ins by simp [padV]] at hF
          have HF := Lib.hid (And.intro hF hX)
          clear hF hX HV
          go_wp2
          (try go_ret2)
          rw [HQ.out]
          refine .inr (.inr ⟨HO.out, by rw [← HK.out, ← HN.out.2], g, by rw [← HN.out.1], HF.out.2, by rw [← HN.out.1]; exact HF.out.1⟩)
    · have hne : ((K : Int) != (I : Int)) = true := by simp; omega
      go_wp2_with (first | (go_at_call 31; refine (checkNR_any l _ _ (SlC.ext HG1.out (by repeat first | exact Ext.refl _ | assumption | refine Ext.drew ?_ | refine Ext.drewN ?_ _ | refine Ext.extBy ?_ _ | refine Ext.alloc ?_ _ | refine Ext.setCell ?_ (by simp; try omega) _ | (refine Ext.trans ?_ (by assumption)))) HG.out.1 (by have := HN.out; omega)).mono ?_; rintro e w' ⟨rfl, hE'⟩; rw [HC.out]; (first | (with_reducible obtain ⟨t2, rfl⟩ := Ext.tok2 hE') | (obtain ⟨t2, rfl⟩ := Ext.tok hE'))) | (go_at_call 33; refine (inputsR_any l _ _ (SlC.ext HG1.out (by repeat first | exact Ext.refl _ | assumption | refine Ext.drew ?_ | refine Ext.drewN ?_ _ | refine Ext.extBy ?_ _ | refine Ext.alloc ?_ _ | refine Ext.setCell ?_ (by simp; try omega) _ | (refine Ext.trans ?_ (by assumption)))) (by have := HN.out; omega)).mono ?_; rintro e w' ⟨ja, jc, rfl, hE'⟩; rw [← HK.out]; (first | (with_reducible obtain ⟨t3, rfl⟩ := Ext.tok2 hE') | (obtain ⟨t3, rfl⟩ := Ext.tok hE'))))
      (try go_ret2)
      rw [HQ.out]
      exact .inr (.inl ⟨HO.out, by rw [← HK.out, ← HN.out.2]; exact hKI, rfl, HE.out.1.trans (Ext.by w1 t3)⟩)
end Go.Proofs.YtlikmdeplpldlaaDoor

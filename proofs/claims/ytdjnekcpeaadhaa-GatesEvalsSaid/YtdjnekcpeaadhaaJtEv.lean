/-
  The walk of the law GatesEvals.
  Conditions: the net and the inputs lie in memory; what Kind tells.
-/
import Derived.Test.YtdjnekcpeaadhaaJtK
namespace Go.Proofs.Ytdjnekcpeaadhaa
open Go.RowKit
set_option linter.unusedSimpArgs false
set_option linter.unusedVariables false
set_option maxRecDepth 100000

theorem num22_any (e : Int) (w : World) : Calls Try.prog 20 #[.int .i64 e] w fun r w' => r = .returned (.int .i64 e) ∧ w = w' := by
  go_enter Try.func20, Try.ntmps20
  go_wp2
  go_ret
  exact ⟨rfl, rfl⟩
/-- What is told of a net and inputs: the values and the number. -/
def EvW (W : World) (m : Nat) (x : Int) (v : List Bool) (e : Ending) (w' : World) : Prop :=
  ∃ a, e = .returned (.tuple #[.slice a m m, .int .i64 x]) ∧ Hid (Ext W w' ∧ SlC w' (.slice a m m) m (bools v) ∧ v.length = m)
theorem EvW.of (l : List GateV) (ins : List Bool) : ∃ m x v, ∀ W e w', EvP W l ins e w' → EvW W m x v e w' := by
  by_cases h1 : netOk 0 l = true
  · by_cases h2 : insN l = ins.length
    · refine ⟨l.length, 0, evalN l [] ins, ?_⟩
      rintro W e w' (⟨h, -⟩ | ⟨-, h, -⟩ | ⟨-, -, g, rfl, h3, h4⟩)
      · rw [h1] at h; cases h
      · exact absurd h2 h
      · exact ⟨_, rfl, Lib.hid ⟨h3, SlC.of_owns h4, by rw [evalN_len]; simp⟩⟩
    · refine ⟨0, 23, [], ?_⟩
      rintro W e w' (⟨h, -⟩ | ⟨-, -, rfl, h3⟩ | ⟨-, h, -⟩)
      · rw [h1] at h; cases h
      · exact ⟨_, rfl, Lib.hid ⟨h3, SlC.nil _, rfl⟩⟩
      · exact absurd h h2
  · refine ⟨0, 40, [], ?_⟩
    rintro W e w' (⟨-, rfl, h3⟩ | ⟨h, -⟩ | ⟨h, -⟩)
    · exact ⟨_, rfl, Lib.hid ⟨h3, SlC.nil _, rfl⟩⟩
    · exact absurd h h1
    · exact absurd h h1
set_option maxHeartbeats 8000000 in
theorem gatesEvals_any (hK : KindC) (l : List GateV) (gv : Value) (ins : List Bool) (iv : Value) (w : World) (h : GatesIn w gv l) (hwf : GatesWf l) (hi : SlC w iv ins.length (bools ins)) :
    Calls Try.prog 5 #[.agg #[gv], iv] w fun e w' => e = .returned (.bool true) ∧ Ext w w' := by
  have HAL := Lib.hid (alive22_any hK)
  clear hK
  obtain ⟨a, cap, rfl, -, -, -⟩ := id h
  obtain ⟨ai, capi, rfl, hi1, hi2, -⟩ := id hi
  obtain ⟨n, hn⟩ : ∃ n, n = l.length := ⟨_, rfl⟩
  obtain ⟨I, hI⟩ : ∃ n, n = ins.length := ⟨_, rfl⟩
  have HN := Lib.hid (And.intro hn (And.intro hI hwf))
  have hIb : I ≤ 9223372036854775807 := by have := hi2; unfold maxLen at this; omega
  have HG : Hid (GatesIn w (.slice a n cap) l) := Lib.hid (by rw [hn]; exact h)
  have HI : Hid (SlC w (.slice ai I capi) ins.length (bools ins)) := Lib.hid (by rw [hI]; exact hi)
  rw [← hn, ← hI]
  clear h hi hi1 hi2 hwf hn hI
  go_enter Try.func5, Try.ntmps5
  go_upto_region 1 with fail
  have hbX := BoxV.of_row (heap_alloc_last w (.cells #[.slice a n cap] 25))
  have hE : Ext w (w.alloc (.cells #[.slice a n cap] 25)) := (Ext.refl w).alloc _
  have HE := Lib.hid hE
  generalize w.alloc (.cells #[.slice a n cap] 25) = w1 at hbX hE HE ⊢
  generalize w.heap.size = X at hbX ⊢
  have p0 := hbX.cells 0 _ rfl
  have hlX := hbX.lt
  have HG1 : Hid (GatesIn w1 (.slice a n cap) l) := Lib.hid (SlC.ext HG.out hE)
  have HI1 : Hid (SlC w1 (.slice ai I capi) ins.length (bools ins)) := Lib.hid (HI.out.ext hE)
  clear hbX hE
  have HBG : Hid (∀ t, Calls Try.prog 16 #[.agg #[.slice a n cap]] (w1.extBy t) fun e w' => e = .returned (.bool (decide (5000 < n))) ∧ Ext (w1.extBy t) w') := Lib.hid (fun t => by
    have h1 := big22_any l _ (w1.extBy t) (SlC.ext HG1.out (Ext.by w1 t))
    rw [← HN.out.1] at h1
    exact h1)
  by_cases hb : 5000 < n
  · have e : decide (5000 < n) = true := decide_eq_true hb
    rw [e] at HBG
    clear e
    go_wp2_with (first | (go_at_call 6; refine (HAL.out _).mono ?_; rintro e w' ⟨rfl, hE'⟩; (first | (with_reducible obtain ⟨t2, rfl⟩ := Ext.tok2 hE') | (obtain ⟨t2, rfl⟩ := Ext.tok hE'))) | (go_at_call 16; refine (HBG.out _).mono ?_; rintro e w' ⟨rfl, hE'⟩; (first | (with_reducible obtain ⟨t3, rfl⟩ := Ext.tok2 hE') | (obtain ⟨t3, rfl⟩ := Ext.tok hE'))))
    go_ret
    exact ⟨rfl, HE.out.trans (Ext.by w1 _)⟩
  · have e : decide (5000 < n) = false := decide_eq_false hb
    rw [e] at HBG
    clear e
    by_cases hbi : (5000 : Int) < (I : Int)
    · go_wp2_with (first | (go_at_call 6; refine (HAL.out _).mono ?_; rintro e w' ⟨rfl, hE'⟩; (first | (with_reducible obtain ⟨t2, rfl⟩ := Ext.tok2 hE') | (obtain ⟨t2, rfl⟩ := Ext.tok hE'))) | (go_at_call 16; refine (HBG.out _).mono ?_; rintro e w' ⟨rfl, hE'⟩; (first | (with_reducible obtain ⟨t3, rfl⟩ := Ext.tok2 hE') | (obtain ⟨t3, rfl⟩ := Ext.tok hE'))))
      go_ret
      exact ⟨rfl, HE.out.trans (Ext.by w1 _)⟩
    · obtain ⟨m, x, v, hEW⟩ := EvW.of l ins
      have HCK : Hid (∀ w', Ext w1 w' → Calls Try.prog 17 #[.agg #[.slice a n cap]] w' fun e w2 => e = .returned (.int .i64 (chkN l)) ∧ Ext w' w2) := Lib.hid (fun w' hx => checkNC_any l _ w' (SlC.ext HG1.out hx) HN.out.2.2 (by have := HN.out.1; omega))
      have HCR : Hid (∀ w', Ext w1 w' → Calls Try.prog 21 #[.agg #[.slice a n cap]] w' fun e w2 => e = .returned (.int .i64 (chkN l)) ∧ Ext w' w2) := Lib.hid (fun w' hx => checkNR_any l _ w' (SlC.ext HG1.out hx) HN.out.2.2 (by have := HN.out.1; omega))
      have HEC : Hid (∀ w', Ext w1 w' → Calls Try.prog 18 #[.agg #[.slice a n cap], .slice ai I capi] w' (EvW w' m x v)) := Lib.hid (fun w' hx => (evalC_any l _ ins _ w' (SlC.ext HG1.out hx) HN.out.2.2 (HI1.out.ext hx) (by have := HN.out.1; omega)).mono fun e w2 h => hEW _ _ _ h)
      have HER : Hid (∀ w', Ext w1 w' → Calls Try.prog 19 #[.agg #[.slice a n cap], .slice ai I capi] w' (EvW w' m x v)) := Lib.hid (fun w' hx => (evalR_any l _ ins _ w' (SlC.ext HG1.out hx) HN.out.2.2 (HI1.out.ext hx) (by have := HN.out.1; omega)).mono fun e w2 h => hEW _ _ _ h)
      clear hEW
      obtain ⟨ck, hck⟩ : ∃ c, c = chkN l := ⟨_, rfl⟩
      rw [← hck] at HCK HCR
      clear hck
      go_upto_region 5 with (first | (go_at_call 6; refine (HAL.out _).mono ?_; rintro e w' ⟨rfl, hE'⟩; (first | (with_reducible obtain ⟨t2, rfl⟩ := Ext.tok2 hE') | (obtain ⟨t2, rfl⟩ := Ext.tok hE'))) | (go_at_call 16; refine (HBG.out _).mono ?_; rintro e w' ⟨rfl, hE'⟩; (first | (with_reducible obtain ⟨t3, rfl⟩ := Ext.tok2 hE') | (obtain ⟨t3, rfl⟩ := Ext.tok hE'))))
      obtain ⟨w3, hw3⟩ : ∃ x, x = w1.extBy t3 := ⟨_, rfl⟩
      have HX3 : Hid (Ext w1 w3) := Lib.hid (by rw [hw3]; exact Ext.by w1 t3)
      rw [← hw3]
      have p3 := HX3.out.cell p0
      have l3 := Nat.lt_of_lt_of_le hlX HX3.out.size
      clear hw3 hE' p0 hlX
      go_upto_region 8 with (first | (go_at_call 17; refine (HCK.out _ HX3.out).mono ?_; rintro e w4 ⟨rfl, hE4⟩; have HX4 := Lib.hid (HX3.out.trans hE4); have p4 := hE4.cell p3; have l4 := Nat.lt_of_lt_of_le l3 hE4.size; clear hE4) | (go_at_call 18; refine (HEC.out _ HX4.out).mono ?_; rintro e w5 ⟨a5, rfl, H5⟩; have HX5 := Lib.hid (HX4.out.trans H5.out.1); have p5 := H5.out.1.cell p4; have l5 := Nat.lt_of_lt_of_le l4 H5.out.1.size) | (go_at_call 19; refine (HER.out _ HX5.out).mono ?_; rintro e w6 ⟨a6, rfl, H6⟩; have HX6 := Lib.hid (HX5.out.trans H6.out.1); have p6 := H6.out.1.cell p5; have l6 := Nat.lt_of_lt_of_le l5 H6.out.1.size))
      have HF1 : Hid (∀ t, Calls Try.prog 21 #[.agg #[.slice a n cap]] (w6.extBy t) fun e w2 => e = .returned (.int .i64 ck) ∧ Ext (w6.extBy t) w2) := Lib.hid fun t => HCR.out _ (HX6.out.trans (Ext.by w6 t))
      have HS5 := Lib.hid (H5.out.2.1.ext H6.out.1)
      have HS6 := Lib.hid H6.out.2.1
      have HVL := Lib.hid H6.out.2.2
      have hmb : m ≤ 9223372036854775807 := by obtain ⟨aa, cc, e, h1, h2, -⟩ := HS6.out; simp only [Value.slice.injEq] at e; unfold maxLen at h2; omega
      clear p3 l3 p4 l4 p5 l5
      ((first | (with_reducible refine region_ext2 (by kernel_rfl) (by kernel_rfl) ?_) | refine region_ext (by kernel_rfl) (by kernel_rfl) ?_); (repeat (go_big_quiet_step (first | (with_reducible exact in_same (num22_any _ _)) | (with_reducible exact in_ext (HF1.out _))))); refine wpQuiet_nil ?_; rintro _ ⟨t1, rfl⟩)
      go_wp2
      go_loopw [12] (fun i wr => ∃ j : Nat, j ≤ m ∧ i = .int .i64 j ∧ Ext w6 wr) (fun i _ => m - (intOf i).toNat)
      case atStart => exact ⟨0, Nat.zero_le _, rfl, (by repeat first | exact Ext.refl _ | assumption | refine Ext.drew ?_ | refine Ext.drewN ?_ _ | refine Ext.extBy ?_ _ | refine Ext.alloc ?_ _ | refine Ext.setCell ?_ (by simp; try omega) _ | (refine Ext.trans ?_ (by assumption)))⟩
      case round =>
        obtain ⟨j, hj, rfl, hxr⟩ := hrel
        by_cases hlt : j < m
        · have hji : (j : Int) < (m : Int) := Int.ofNat_lt.2 hlt
          obtain ⟨b, hb⟩ : ∃ b, v[j]? = some b := ⟨_, List.getElem?_eq_getElem (by have := HVL.out; omega)⟩
          obtain ⟨a7, c7, e5, -, -, hc5⟩ := HS5.out
          obtain ⟨a8, c8, e6, -, -, hc6⟩ := HS6.out
          simp only [Value.slice.injEq] at e5 e6
          obtain ⟨b5, o5, e7, g5⟩ := hc5 j _ (bools_at v j b hb)
          obtain ⟨b6, o6, e8, g6⟩ := hc6 j _ (bools_at v j b hb)
          obtain rfl := e5.1.trans e7
          obtain rfl := e6.1.trans e8
          replace g5 := hxr.cell g5
          replace g6 := hxr.cell g6
          have y5 := World.block_lt_of_cell? wr _ g5
          have y6 := World.block_lt_of_cell? wr _ g6
          have HXR := Lib.hid hxr
          clear hc5 hc6 e5 e6 e7 e8 hb hxr p6 l6
          go_wp2
          go_region
          cases b <;>
          · go_wp2
            exact ⟨⟨j + 1, by omega, by go_num, HXR.out.drew⟩, by simp [intOf]; omega⟩
        · have hji : ¬ (j : Int) < (m : Int) := fun e => hlt (Int.ofNat_lt.1 e)
          have HXR := Lib.hid hxr
          clear hxr
          go_wp2
          go_ret
          exact ⟨rfl, HE.out.trans (HX6.out.trans HXR.out)⟩
end Go.Proofs.Ytdjnekcpeaadhaa

/-
  What the reference's operations bit by bit do.
  No condition but that the kind has bits.
  What the reference's division of numbers without a sign does.
  No condition but that the numbers fit 64 bits and that the divisor is not nought.
  What the reference's shifts do.
  No condition but that the kind has bits.
  What the reference's Bin and Cast do: the same as the program's.
  No condition but that numbers fit 64 bits.
-/
import Derived.Test.YtdjnekcpeaadhaaGreatJtO
import Derived.Test.YtdjnekcpeaadhaaGreatJtM
import Derived.Test.YtdjnekcpeaadhaaGreatJtI
namespace Go.Proofs.YtdjnekcpeaadhaaGreat
open Go.RowKit
set_option linter.unusedSimpArgs false
set_option linter.unusedVariables false
set_option maxRecDepth 100000


/-- The round of 'bitwise', for one operation. -/
def BwInv (B g cap g2 cap2 m : Nat) (f : Int → Int → Int) (X Y : List Int) (w wr : World) (j : Nat) : Prop :=
  wr.ownsRow B 3 1 (.slice (some ⟨g, 0, none⟩) m cap) m ((mix2 f X Y j).map (.int .i64)) ∧ wr.ownsRow B 3 1 (.slice (some ⟨g2, 0, none⟩) m cap2) m (Y.map (.int .i64)) ∧ Below B w wr ∧ g < wr.heap.size ∧ g2 < wr.heap.size

theorem BwInv.read {B g cap g2 cap2 m : Nat} {f : Int → Int → Int} {X Y : List Int} {w wr : World} {j : Nat} {x y : Int} (h : BwInv B g cap g2 cap2 m f X Y w wr j) (hj : j < m) (hl : X.length = Y.length) (hx : X[j]? = some x) (hy : Y[j]? = some y) :
    wr.cell? ⟨g, j, none⟩ = some (.int .i64 x) ∧ wr.cell? ⟨g2, j, none⟩ = some (.int .i64 y) ∧ wr.frozen? ⟨g, j, none⟩ = false := by
  obtain ⟨h1, h2, _⟩ := h
  refine ⟨?_, ?_, h1.frozenAt j⟩
  · rw [h1.cellAt j (by omega), List.getElem?_map, mix2_at f X Y j x hl hx]; rfl
  · rw [h2.cellAt j (by omega), List.getElem?_map, hy]; rfl

theorem BwInv.write {B g cap g2 cap2 m : Nat} {f : Int → Int → Int} {X Y : List Int} {w wr : World} {j : Nat} {x y : Int} (h : BwInv B g cap g2 cap2 m f X Y w wr j) (hg : B ≤ g) (hne : g ≠ g2) (hl : X.length = Y.length) (hx : X[j]? = some x) (hy : Y[j]? = some y) (w' : World) (he : Ext wr w') :
    BwInv B g cap g2 cap2 m f X Y w (w'.setCell ⟨g, j, none⟩ (.int .i64 (f x y))) (j + 1) := by
  obtain ⟨h1, h2, h3, h4, h5⟩ := h
  have h1' := ownsRow_ext h1 he
  have h2' := ownsRow_ext h2 he
  obtain ⟨a1, a2⟩ := h1'.stored j (.int .i64 (f x y))
  rw [← List.map_set, mix2_set f X Y j x y hl hx hy] at a1
  refine ⟨a1, h2'.kept a2 (.inr (by simp [Value.ownBlock]; omega)), ?_, ?_, ?_⟩
  · exact (Below.trans h3 (Below.mono he (Nat.le_trans (Nat.le_of_lt (Nat.lt_of_le_of_lt hg h4)) (Nat.le_refl _)))).setCell hg _
  · simp [World.setCell]; exact Nat.lt_of_lt_of_le h4 he.size
  · simp [World.setCell]; exact Nat.lt_of_lt_of_le h5 he.size

theorem BwInv.skip {B g cap g2 cap2 m : Nat} {f : Int → Int → Int} {X Y : List Int} {w wr : World} {j : Nat} {x y : Int} (h : BwInv B g cap g2 cap2 m f X Y w wr j) (hl : X.length = Y.length) (hx : X[j]? = some x) (hy : Y[j]? = some y) (hf : f x y = x) :
    BwInv B g cap g2 cap2 m f X Y w wr (j + 1) := by
  obtain ⟨h1, h2⟩ := h
  refine ⟨?_, h2⟩
  rw [← mix2_set f X Y j x y hl hx hy, hf]
  have := mix2_at f X Y j x hl hx
  obtain ⟨hj, he⟩ := List.getElem?_eq_some_iff.1 this
  rw [← he, List.set_getElem_self]
  exact h1

set_option maxHeartbeats 2000000 in
theorem refBitwise_and (k a b : Int) (hpos : 0 < wid k) (w : World) :
    Calls Tryz.prog 17 #[.int .i64 8, .int .i64 k, .int .i64 a, .int .i64 b] w fun e w' => e = .returned (.int .i64 (wkr k (fromS (List.zipWith (bitOp 8) (bitsL (wid k) a) (bitsL (wid k) b)) (wid k)))) ∧ Ext w w' := by
  have hm64 := wid_le k
  obtain ⟨X, hX⟩ : ∃ X, X = bitsL (wid k) a := ⟨_, rfl⟩
  obtain ⟨Y, hY⟩ : ∃ Y, Y = bitsL (wid k) b := ⟨_, rfl⟩
  have hbX : ∀ (j : Nat) (x : Int), X[j]? = some x → 0 ≤ x ∧ x ≤ 1 := fun j x h => bitsL_bit (wid k) a j x (hX ▸ h)
  have hbY : ∀ (j : Nat) (x : Int), Y[j]? = some x → 0 ≤ x ∧ x ≤ 1 := fun j x h => bitsL_bit (wid k) b j x (hY ▸ h)
  have hlX : X.length = wid k := by rw [hX]; exact bitsL_length _ _
  have hlY : Y.length = wid k := by rw [hY]; exact bitsL_length _ _
  have hA := fun (w : World) => refBits_any k a w
  have hB := fun (w : World) => refBits_any k b w
  rw [← hX] at hA ⊢
  rw [← hY] at hB ⊢
  clear hX hY
  obtain ⟨m, hm⟩ : ∃ m, m = wid k := ⟨_, rfl⟩
  rw [← hm] at hpos hm64 hlX hlY hA hB ⊢
  have HM := Lib.hid hm
  have HX := Lib.hid hlX
  have HY := Lib.hid hlY
  have HA := Lib.hid hA
  have HBB := Lib.hid hB
  have HbX := Lib.hid hbX
  have HbY := Lib.hid hbY
  clear hm hlX hlY hA hB hbX hbY
  go_enter Tryz.func17, Tryz.ntmps17
  go_wp2_with fail
  refine (HA.out _).mono ?_
  rintro e w1 ⟨v1, rfl, hown1, hx1⟩
  obtain ⟨g, cap, rfl, hg, hcap, hgs⟩ := ownsRow_some hown1 hpos
  go_wp2_with fail
  refine (HBB.out _).mono ?_
  rintro e w2 ⟨v2, rfl, hown2, hx2⟩
  obtain ⟨g2, cap2, rfl, hg2, hcap2, hgs2⟩ := ownsRow_some hown2 hpos
  have hinv0 : BwInv w.heap.size g cap g2 cap2 m (bitOp 8) X Y w w2 0 := ⟨by rw [mix2_zero]; exact ownsRow_ext hown1 hx2, ownsRow_base hown2 hx1.size, hx1.trans hx2, Nat.lt_of_lt_of_le hgs hx2.size, hgs2⟩
  have hne : g ≠ g2 := by omega
  clear hown1 hown2 hx1 hx2 hgs hgs2 hg2
  go_wp2_with fail
  go_loopw [11] (fun i wr => ∃ j : Nat, j ≤ m ∧ i = .int .i64 j ∧ BwInv w.heap.size g cap g2 cap2 m (bitOp 8) X Y w wr j) (fun i _ => m - (intOf i).toNat)
  case atStart => exact ⟨0, Nat.zero_le _, rfl, hinv0⟩
  case round =>
    clear hinv0
    obtain ⟨j, hj, rfl, hinv⟩ := hrel
    by_cases hlt : j < m
    · obtain ⟨x, hx⟩ : ∃ x, X[j]? = some x := ⟨_, List.getElem?_eq_getElem (by have := HX.out; omega)⟩
      obtain ⟨y, hy⟩ : ∃ y, Y[j]? = some y := ⟨_, List.getElem?_eq_getElem (by have := HY.out; omega)⟩
      have hbx := HbX.out j x hx
      have hby := HbY.out j y hy
      have hl : X.length = Y.length := HX.out.trans HY.out.symm
      obtain ⟨c1, c2, c3⟩ := hinv.read hlt hl hx hy
      have hgw : g < wr.heap.size := hinv.2.2.2.1
      have h1 := fun w' he => hinv.write hg hne hl hx hy w' he
      obtain ⟨x0, x1⟩ := hbx
      obtain ⟨y0, y1⟩ := hby
      clear hinv hx hy hl
      have hxy : x * y = 0 ∨ x * y = 1 := by
        rcases (show x = 0 ∨ x = 1 by omega) with rfl | rfl <;> simp <;> omega
      have p0 : 0 ≤ x * y := by omega
      have p1 : x * y ≤ 1 := by omega
      clear hxy
      have H1 := Lib.hid h1
      clear h1
      have h1 := fun w' he => H1.out w' he
      go_wp2_with fail
      (refine region_drew_tail 12 (by kernel_rfl) (by kernel_rfl) ?_; simp only [List.take_succ_cons, List.take_zero, List.drop_succ_cons, List.drop_zero]; (repeat (go_big_quiet_step (fail))); refine wpQuiet_nil ?_; rintro _ ⟨nq, rfl⟩)
      go_wp2
      go_roundw
      case rel => exact ⟨j + 1, by omega, by go_num, by have h2 := h1 _ ((Ext.refl _).drewN nq); exact h2⟩
      case measure => simp [intOf]; omega
    · obtain rfl : j = m := by omega
      obtain ⟨hown, _, hbel, _⟩ := hinv
      rw [mix2_all _ _ _ _ (by rw [HX.out]; omega) (by rw [HY.out]; omega)] at hown
      have hs := SlC.of_owns hown
      have hlen : (List.zipWith (bitOp 8) X Y).length = j := by simp [HX.out, HY.out]
      have HF := Lib.hid (refFrom_any k (List.zipWith (bitOp 8) X Y) (.slice (some ⟨g, 0, none⟩) j cap) wr (by rw [hlen]; exact hs) (by rw [hlen]; omega))
      rw [hlen, ← HM.out, Nat.min_self] at HF
      clear hs hown hlen
      go_wp2_with (first | (go_at_call 29; refine HF.out.mono ?_; rintro e w' ⟨rfl, rfl⟩))
      go_ret
      exact ⟨rfl, hbel⟩

set_option maxHeartbeats 2000000 in
theorem refBitwise_or (k a b : Int) (hpos : 0 < wid k) (w : World) :
    Calls Tryz.prog 17 #[.int .i64 9, .int .i64 k, .int .i64 a, .int .i64 b] w fun e w' => e = .returned (.int .i64 (wkr k (fromS (List.zipWith (bitOp 9) (bitsL (wid k) a) (bitsL (wid k) b)) (wid k)))) ∧ Ext w w' := by
  have hm64 := wid_le k
  obtain ⟨X, hX⟩ : ∃ X, X = bitsL (wid k) a := ⟨_, rfl⟩
  obtain ⟨Y, hY⟩ : ∃ Y, Y = bitsL (wid k) b := ⟨_, rfl⟩
  have hbX : ∀ (j : Nat) (x : Int), X[j]? = some x → 0 ≤ x ∧ x ≤ 1 := fun j x h => bitsL_bit (wid k) a j x (hX ▸ h)
  have hbY : ∀ (j : Nat) (x : Int), Y[j]? = some x → 0 ≤ x ∧ x ≤ 1 := fun j x h => bitsL_bit (wid k) b j x (hY ▸ h)
  have hlX : X.length = wid k := by rw [hX]; exact bitsL_length _ _
  have hlY : Y.length = wid k := by rw [hY]; exact bitsL_length _ _
  have hA := fun (w : World) => refBits_any k a w
  have hB := fun (w : World) => refBits_any k b w
  rw [← hX] at hA ⊢
  rw [← hY] at hB ⊢
  clear hX hY
  obtain ⟨m, hm⟩ : ∃ m, m = wid k := ⟨_, rfl⟩
  rw [← hm] at hpos hm64 hlX hlY hA hB ⊢
  have HM := Lib.hid hm
  have HX := Lib.hid hlX
  have HY := Lib.hid hlY
  have HA := Lib.hid hA
  have HBB := Lib.hid hB
  have HbX := Lib.hid hbX
  have HbY := Lib.hid hbY
  clear hm hlX hlY hA hB hbX hbY
  go_enter Tryz.func17, Tryz.ntmps17
  go_wp2_with fail
  refine (HA.out _).mono ?_
  rintro e w1 ⟨v1, rfl, hown1, hx1⟩
  obtain ⟨g, cap, rfl, hg, hcap, hgs⟩ := ownsRow_some hown1 hpos
  go_wp2_with fail
  refine (HBB.out _).mono ?_
  rintro e w2 ⟨v2, rfl, hown2, hx2⟩
  obtain ⟨g2, cap2, rfl, hg2, hcap2, hgs2⟩ := ownsRow_some hown2 hpos
  have hinv0 : BwInv w.heap.size g cap g2 cap2 m (bitOp 9) X Y w w2 0 := ⟨by rw [mix2_zero]; exact ownsRow_ext hown1 hx2, ownsRow_base hown2 hx1.size, hx1.trans hx2, Nat.lt_of_lt_of_le hgs hx2.size, hgs2⟩
  have hne : g ≠ g2 := by omega
  clear hown1 hown2 hx1 hx2 hgs hgs2 hg2
  go_wp2_with fail
  go_loopw [11] (fun i wr => ∃ j : Nat, j ≤ m ∧ i = .int .i64 j ∧ BwInv w.heap.size g cap g2 cap2 m (bitOp 9) X Y w wr j) (fun i _ => m - (intOf i).toNat)
  case atStart => exact ⟨0, Nat.zero_le _, rfl, hinv0⟩
  case round =>
    clear hinv0
    obtain ⟨j, hj, rfl, hinv⟩ := hrel
    by_cases hlt : j < m
    · obtain ⟨x, hx⟩ : ∃ x, X[j]? = some x := ⟨_, List.getElem?_eq_getElem (by have := HX.out; omega)⟩
      obtain ⟨y, hy⟩ : ∃ y, Y[j]? = some y := ⟨_, List.getElem?_eq_getElem (by have := HY.out; omega)⟩
      have hbx := HbX.out j x hx
      have hby := HbY.out j y hy
      have hl : X.length = Y.length := HX.out.trans HY.out.symm
      obtain ⟨c1, c2, c3⟩ := hinv.read hlt hl hx hy
      have hgw : g < wr.heap.size := hinv.2.2.2.1
      have h1 := fun (e : y = 1) (w' : World) (he : Ext wr w') => (show BwInv w.heap.size g cap g2 cap2 m (bitOp 9) X Y w (w'.setCell ⟨g, j, none⟩ (.int .i64 1)) (j + 1) from by have := hinv.write hg hne hl hx hy w' he; simpa [bitOp, e] using this)
      have h2 := fun (e : ¬ y = 1) => hinv.skip hl hx hy (by simp [bitOp, e])
      have H1 := Lib.hid h1
      have H2 := Lib.hid h2
      clear h1 h2
      obtain ⟨x0, x1⟩ := hbx
      obtain ⟨y0, y1⟩ := hby
      clear hinv hx hy hl

      by_cases hy1 : y = 1
      · subst hy1
        go_wp2_with fail
        go_roundw
        case rel => exact ⟨j + 1, by omega, by go_num, H1.out rfl _ (Ext.refl _)⟩
        case measure => simp [intOf]; omega
      · have hyb : (y == 1) = false := by simpa using hy1
        go_wp2_with fail
        go_roundw
        case rel => exact ⟨j + 1, by omega, by go_num, H2.out hy1⟩
        case measure => simp [intOf]; omega
    · obtain rfl : j = m := by omega
      obtain ⟨hown, _, hbel, _⟩ := hinv
      rw [mix2_all _ _ _ _ (by rw [HX.out]; omega) (by rw [HY.out]; omega)] at hown
      have hs := SlC.of_owns hown
      have hlen : (List.zipWith (bitOp 9) X Y).length = j := by simp [HX.out, HY.out]
      have HF := Lib.hid (refFrom_any k (List.zipWith (bitOp 9) X Y) (.slice (some ⟨g, 0, none⟩) j cap) wr (by rw [hlen]; exact hs) (by rw [hlen]; omega))
      rw [hlen, ← HM.out, Nat.min_self] at HF
      clear hs hown hlen
      go_wp2_with (first | (go_at_call 29; refine HF.out.mono ?_; rintro e w' ⟨rfl, rfl⟩))
      go_ret
      exact ⟨rfl, hbel⟩

set_option maxHeartbeats 2000000 in
theorem refBitwise_xor (k a b : Int) (hpos : 0 < wid k) (w : World) :
    Calls Tryz.prog 17 #[.int .i64 10, .int .i64 k, .int .i64 a, .int .i64 b] w fun e w' => e = .returned (.int .i64 (wkr k (fromS (List.zipWith (bitOp 10) (bitsL (wid k) a) (bitsL (wid k) b)) (wid k)))) ∧ Ext w w' := by
  have hm64 := wid_le k
  obtain ⟨X, hX⟩ : ∃ X, X = bitsL (wid k) a := ⟨_, rfl⟩
  obtain ⟨Y, hY⟩ : ∃ Y, Y = bitsL (wid k) b := ⟨_, rfl⟩
  have hbX : ∀ (j : Nat) (x : Int), X[j]? = some x → 0 ≤ x ∧ x ≤ 1 := fun j x h => bitsL_bit (wid k) a j x (hX ▸ h)
  have hbY : ∀ (j : Nat) (x : Int), Y[j]? = some x → 0 ≤ x ∧ x ≤ 1 := fun j x h => bitsL_bit (wid k) b j x (hY ▸ h)
  have hlX : X.length = wid k := by rw [hX]; exact bitsL_length _ _
  have hlY : Y.length = wid k := by rw [hY]; exact bitsL_length _ _
  have hA := fun (w : World) => refBits_any k a w
  have hB := fun (w : World) => refBits_any k b w
  rw [← hX] at hA ⊢
  rw [← hY] at hB ⊢
  clear hX hY
  obtain ⟨m, hm⟩ : ∃ m, m = wid k := ⟨_, rfl⟩
  rw [← hm] at hpos hm64 hlX hlY hA hB ⊢
  have HM := Lib.hid hm
  have HX := Lib.hid hlX
  have HY := Lib.hid hlY
  have HA := Lib.hid hA
  have HBB := Lib.hid hB
  have HbX := Lib.hid hbX
  have HbY := Lib.hid hbY
  clear hm hlX hlY hA hB hbX hbY
  go_enter Tryz.func17, Tryz.ntmps17
  go_wp2_with fail
  refine (HA.out _).mono ?_
  rintro e w1 ⟨v1, rfl, hown1, hx1⟩
  obtain ⟨g, cap, rfl, hg, hcap, hgs⟩ := ownsRow_some hown1 hpos
  go_wp2_with fail
  refine (HBB.out _).mono ?_
  rintro e w2 ⟨v2, rfl, hown2, hx2⟩
  obtain ⟨g2, cap2, rfl, hg2, hcap2, hgs2⟩ := ownsRow_some hown2 hpos
  have hinv0 : BwInv w.heap.size g cap g2 cap2 m (bitOp 10) X Y w w2 0 := ⟨by rw [mix2_zero]; exact ownsRow_ext hown1 hx2, ownsRow_base hown2 hx1.size, hx1.trans hx2, Nat.lt_of_lt_of_le hgs hx2.size, hgs2⟩
  have hne : g ≠ g2 := by omega
  clear hown1 hown2 hx1 hx2 hgs hgs2 hg2
  go_wp2_with fail
  go_loopw [11] (fun i wr => ∃ j : Nat, j ≤ m ∧ i = .int .i64 j ∧ BwInv w.heap.size g cap g2 cap2 m (bitOp 10) X Y w wr j) (fun i _ => m - (intOf i).toNat)
  case atStart => exact ⟨0, Nat.zero_le _, rfl, hinv0⟩
  case round =>
    clear hinv0
    obtain ⟨j, hj, rfl, hinv⟩ := hrel
    by_cases hlt : j < m
    · obtain ⟨x, hx⟩ : ∃ x, X[j]? = some x := ⟨_, List.getElem?_eq_getElem (by have := HX.out; omega)⟩
      obtain ⟨y, hy⟩ : ∃ y, Y[j]? = some y := ⟨_, List.getElem?_eq_getElem (by have := HY.out; omega)⟩
      have hbx := HbX.out j x hx
      have hby := HbY.out j y hy
      have hl : X.length = Y.length := HX.out.trans HY.out.symm
      obtain ⟨c1, c2, c3⟩ := hinv.read hlt hl hx hy
      have hgw : g < wr.heap.size := hinv.2.2.2.1
      have h1 := fun w' he => hinv.write hg hne hl hx hy w' he
      obtain ⟨x0, x1⟩ := hbx
      obtain ⟨y0, y1⟩ := hby
      clear hinv hx hy hl

      go_wp2_with fail
      (refine region_drew_tail 13 (by kernel_rfl) (by kernel_rfl) ?_; simp only [List.take_succ_cons, List.take_zero, List.drop_succ_cons, List.drop_zero]; (repeat (go_big_quiet_step (fail))); refine wpQuiet_nil ?_; rintro _ ⟨nq, rfl⟩)
      go_wp2
      go_roundw
      case rel => exact ⟨j + 1, by omega, by go_num, by have h2 := h1 _ ((Ext.refl _).drewN nq); exact h2⟩
      case measure => simp [intOf]; omega
    · obtain rfl : j = m := by omega
      obtain ⟨hown, _, hbel, _⟩ := hinv
      rw [mix2_all _ _ _ _ (by rw [HX.out]; omega) (by rw [HY.out]; omega)] at hown
      have hs := SlC.of_owns hown
      have hlen : (List.zipWith (bitOp 10) X Y).length = j := by simp [HX.out, HY.out]
      have HF := Lib.hid (refFrom_any k (List.zipWith (bitOp 10) X Y) (.slice (some ⟨g, 0, none⟩) j cap) wr (by rw [hlen]; exact hs) (by rw [hlen]; omega))
      rw [hlen, ← HM.out, Nat.min_self] at HF
      clear hs hown hlen
      go_wp2_with (first | (go_at_call 29; refine HF.out.mono ?_; rintro e w' ⟨rfl, rfl⟩))
      go_ret
      exact ⟨rfl, hbel⟩
end Go.Proofs.YtdjnekcpeaadhaaGreat
namespace Go.Proofs.YtdjnekcpeaadhaaGreat
open Go.RowKit
set_option linter.unusedSimpArgs false
set_option linter.unusedVariables false
set_option maxRecDepth 100000

theorem div_q63 (q : Int) : wrap64 (q + 2 ^ 63) = wrap64 (q + -9223372036854775808) := by
  apply wrap64_congr
  have : (2 : Int) ^ 63 = 9223372036854775808 := by decide
  rw [this]; omega

set_option maxHeartbeats 2000000 in
theorem refDivide_any (a b : Int) (hb : I64 b) (hb0 : b ≠ 0) (w : World) :
    Calls Tryz.prog 19 #[.int .i64 a, .int .i64 b] w fun e w' => e = .returned (.tuple #[.int .i64 (wrap64 (a % 18446744073709551616 / (b % 18446744073709551616))), .int .i64 (wrap64 (a % 18446744073709551616 % (b % 18446744073709551616)))]) ∧ w = w' := by
  have hbz : b % 18446744073709551616 ≠ 0 := by unfold I64 at hb; omega
  have HS := Lib.hid (div_start a b hbz)
  clear hbz
  go_enter Tryz.func19, Tryz.ntmps19
  go_wp2_with fail
  go_loop [6, 7, 8] (fun q r i => ∃ (j : Nat) (q0 r0 : Int), j ≤ 64 ∧ i = .int .i64 ((j : Int) - 1) ∧ q = .int .i64 q0 ∧ r = .int .i64 r0 ∧ DivInv a b j q0 r0) (fun _ _ i => (intOf i + 1).toNat)
  case atStart => exact ⟨64, 0, 0, by omega, rfl, rfl, rfl, HS.out⟩
  case round =>
    obtain ⟨j, q0, r0, hj, rfl, rfl, rfl, hinv⟩ := hrel
    have HI := Lib.hid hinv
    clear hinv
    by_cases hlt : 0 < j
    · obtain ⟨i, rfl⟩ : ∃ i, j = i + 1 := ⟨j - 1, by omega⟩
      have e : ((i + 1 : Nat) : Int) - 1 = (i : Int) := by omega
      rw [e]
      clear e hlt
      have hi64 : i < 64 := by omega
      have hr : I64 (wrap64 (wrap64 (2 * r0) + a / 2 ^ i % 2)) := wrap64_I64 _
      by_cases hc : r0 < 0
      · have HY := Lib.hid (div_yes hi64 HI.out (Or.inl hc))
        by_cases h63 : i = 63
        · rw [show wrap64 (q0 + 2 ^ i) = wrap64 (q0 + -9223372036854775808) from by rw [h63]; exact div_q63 q0] at HY
          have b63 : ((i : Int) == 63) = true := by simp [h63]
          clear h63
          go_wp2_with (first | (go_at_call 32; refine (refBit_any _ _ (by omega) (by omega) _).mono ?_; rintro e w' ⟨rfl, rfl⟩) | (go_at_call 21; refine (refBelow_any _ _ _ (by assumption) hb _).mono ?_; rintro e w' ⟨rfl, rfl⟩) | (go_at_call 14; refine (refPower_any _ (by omega) _).mono ?_; rintro e w' ⟨rfl, rfl⟩))
          go_round
          case rel => exact ⟨i, _, _, by omega, rfl, rfl, rfl, HY.out⟩
          case measure => simp [intOf] <;> omega
        · have hi3 : i < 63 := by omega
          go_wp2_with (first | (go_at_call 32; refine (refBit_any _ _ (by omega) (by omega) _).mono ?_; rintro e w' ⟨rfl, rfl⟩) | (go_at_call 21; refine (refBelow_any _ _ _ (by assumption) hb _).mono ?_; rintro e w' ⟨rfl, rfl⟩) | (go_at_call 14; refine (refPower_any _ (by omega) _).mono ?_; rintro e w' ⟨rfl, rfl⟩))
          go_round
          case rel => exact ⟨i, _, _, by omega, rfl, rfl, rfl, HY.out⟩
          case measure => simp [intOf] <;> omega
      · have hc' : 0 ≤ r0 := Int.not_lt.1 hc
        cases hbl : blw 9 (wrap64 (wrap64 (2 * r0) + a / 2 ^ i % 2)) b
        · have HY := Lib.hid (div_yes hi64 HI.out (Or.inr (by rw [hbl]; rfl)))
          by_cases h63 : i = 63
          · rw [show wrap64 (q0 + 2 ^ i) = wrap64 (q0 + -9223372036854775808) from by rw [h63]; exact div_q63 q0] at HY
            have b63 : ((i : Int) == 63) = true := by simp [h63]
            clear h63
            go_wp2_with (first | (go_at_call 32; refine (refBit_any _ _ (by omega) (by omega) _).mono ?_; rintro e w' ⟨rfl, rfl⟩) | (go_at_call 21; refine (refBelow_any _ _ _ (by assumption) hb _).mono ?_; rintro e w' ⟨rfl, rfl⟩) | (go_at_call 14; refine (refPower_any _ (by omega) _).mono ?_; rintro e w' ⟨rfl, rfl⟩))
            go_round
            case rel => exact ⟨i, _, _, by omega, rfl, rfl, rfl, HY.out⟩
            case measure => simp [intOf] <;> omega
          · have hi3 : i < 63 := by omega
            go_wp2_with (first | (go_at_call 32; refine (refBit_any _ _ (by omega) (by omega) _).mono ?_; rintro e w' ⟨rfl, rfl⟩) | (go_at_call 21; refine (refBelow_any _ _ _ (by assumption) hb _).mono ?_; rintro e w' ⟨rfl, rfl⟩) | (go_at_call 14; refine (refPower_any _ (by omega) _).mono ?_; rintro e w' ⟨rfl, rfl⟩))
            go_round
            case rel => exact ⟨i, _, _, by omega, rfl, rfl, rfl, HY.out⟩
            case measure => simp [intOf] <;> omega
        · have HY := Lib.hid (div_no hi64 HI.out hc' hbl)
          go_wp2_with (first | (go_at_call 32; refine (refBit_any _ _ (by omega) (by omega) _).mono ?_; rintro e w' ⟨rfl, rfl⟩) | (go_at_call 21; refine (refBelow_any _ _ _ (by assumption) hb _).mono ?_; rintro e w' ⟨rfl, rfl⟩) | (go_at_call 14; refine (refPower_any _ (by omega) _).mono ?_; rintro e w' ⟨rfl, rfl⟩))
          go_round
          case rel => exact ⟨i, _, _, by omega, rfl, rfl, rfl, HY.out⟩
          case measure => simp [intOf] <;> omega
    · obtain rfl : j = 0 := by omega
      have HE := Lib.hid (div_end HI.out)
      have e : ((0 : Nat) : Int) - 1 = -1 := by omega
      rw [e]
      go_wp2
      go_ret2
      exact ⟨by rw [← HE.out.1, ← HE.out.2]; rfl, rfl⟩
end Go.Proofs.YtdjnekcpeaadhaaGreat
namespace Go.Proofs.YtdjnekcpeaadhaaGreat
open Go.RowKit
set_option linter.unusedSimpArgs false
set_option linter.unusedVariables false
set_option maxRecDepth 100000

theorem bitsL_at (m : Nat) (n : Int) (j : Nat) (hj : j < m) : (bitsL m n)[j]? = some (n / 2 ^ j % 2) := by
  simp [bitsL, hj]

/-- The first loop of 'moved': the number of the places, held at m. -/
theorem capN_yes {m : Nat} {b : Int} {j : Nat} (hj : j < m) (h : (m : Int) ≤ 2 * capN m (topN m b (j + 1)) + b / 2 ^ j % 2) : capN m (topN m b j) = m ∧ decide ((m : Int) ≤ topN m b j) = true := by
  have h1 := topN_step m b j hj
  have h2 := topN_pos m b (j + 1)
  have h3 : (m : Int) ≤ topN m b j := by unfold capN at h; split at h <;> omega
  exact ⟨by unfold capN; rw [if_pos h3], by simpa using h3⟩
theorem capN_no {m : Nat} {b : Int} {j : Nat} (hj : j < m) (h : ¬ (m : Int) ≤ 2 * capN m (topN m b (j + 1)) + b / 2 ^ j % 2) :
    capN m (topN m b j) = 2 * capN m (topN m b (j + 1)) + b / 2 ^ j % 2 ∧ decide ((m : Int) ≤ topN m b j) = decide ((m : Int) ≤ topN m b (j + 1)) := by
  have h1 := topN_step m b j hj
  have h2 := topN_pos m b (j + 1)
  have hb : 0 ≤ b / 2 ^ j % 2 := by omega
  have h4 : ¬ (m : Int) ≤ topN m b (j + 1) := by
    intro h5; unfold capN at h; rw [if_pos h5] at h; omega
  have e : capN m (topN m b (j + 1)) = topN m b (j + 1) := by unfold capN; rw [if_neg h4]
  rw [e] at h ⊢
  have h3 : ¬ (m : Int) ≤ topN m b j := by omega
  refine ⟨by unfold capN; rw [if_neg h3]; exact h1, ?_⟩
  rw [decide_eq_false h3, decide_eq_false h4]
theorem capN_bd (m : Nat) (t : Int) (ht : 0 ≤ t) : 0 ≤ capN m t ∧ capN m t ≤ m := by unfold capN; split <;> omega

/-- The second loop of 'moved'. -/
def MvInv (B g cap h m : Nat) (X M : List Int) (w wr : World) (j : Nat) : Prop :=
  wr.ownsRow B 3 1 (.slice (some ⟨h, 0, none⟩) m m) m ((upto M m j).map (.int .i64)) ∧ wr.ownsRow B 3 1 (.slice (some ⟨g, 0, none⟩) m cap) m (X.map (.int .i64)) ∧ Below B w wr

theorem MvInv.step {B g cap h m : Nat} {X M : List Int} {w wr : World} {j : Nat} {x : Int} (hi : MvInv B g cap h m X M w wr j) (hB : B ≤ h) (hne : g ≠ h) (hl : M.length = m) (hx : M[j]? = some x) :
    MvInv B g cap h m X M w (wr.setCell ⟨h, j, none⟩ (.int .i64 x)) (j + 1) := by
  obtain ⟨h1, h2, h3⟩ := hi
  obtain ⟨a1, a2⟩ := h1.stored j (.int .i64 x)
  rw [← List.map_set, upto_set M m j x hl hx] at a1
  exact ⟨a1, h2.kept a2 (.inr (by simp [Value.ownBlock]; omega)), h3.setCell hB _⟩
theorem MvInv.step2 {B g cap h m : Nat} {X M : List Int} {w wr : World} {j : Nat} {x f : Int} (hi : MvInv B g cap h m X M w wr j) (hB : B ≤ h) (hne : g ≠ h) (hl : M.length = m) (hx : M[j]? = some x) :
    MvInv B g cap h m X M w ((wr.setCell ⟨h, j, none⟩ (.int .i64 f)).setCell ⟨h, j, none⟩ (.int .i64 x)) (j + 1) := by
  obtain ⟨h1, h2, h3⟩ := hi
  obtain ⟨b1, b2⟩ := h1.stored j (.int .i64 f)
  obtain ⟨a1, a2⟩ := b1.stored j (.int .i64 x)
  rw [List.set_set, ← List.map_set, upto_set M m j x hl hx] at a1
  exact ⟨a1, (h2.kept b2 (.inr (by simp [Value.ownBlock]; omega))).kept a2 (.inr (by simp [Value.ownBlock]; omega)), (h3.setCell hB _).setCell hB _⟩
theorem MvInv.cells {B g cap h m : Nat} {X M : List Int} {w wr : World} {j : Nat} (hi : MvInv B g cap h m X M w wr j) (hj : j < m) (hl : M.length = m) :
    (∃ u, wr.cell? ⟨h, j, none⟩ = some u) ∧ wr.frozen? ⟨h, j, none⟩ = false ∧ ∀ (i : Nat) x, X[i]? = some x → wr.cell? ⟨g, i, none⟩ = some (.int .i64 x) := by
  obtain ⟨h1, h2, h3⟩ := hi
  refine ⟨?_, h1.frozenAt j, fun i x hx => ?_⟩
  · rw [h1.cellAt j (by omega)]
    have : j < ((upto M m j).map (Value.int .i64)).length := by rw [List.length_map, upto_len M m j hl (by omega)]; exact hj
    exact ⟨_, List.getElem?_eq_getElem this⟩
  · have hlen := h2.1
    have hi' : i < X.length := (List.getElem?_eq_some_iff.1 hx).1
    rw [h2.cellAt i (by simp at hlen; omega), List.getElem?_map, hx]; rfl


set_option maxHeartbeats 4000000 in
theorem refMoved_shl (k a b : Int) (hpos : 0 < wid k) (w : World) :
    Calls Tryz.prog 20 #[.int .i64 12, .int .i64 k, .int .i64 a, .int .i64 b] w fun e w' => e = .returned (.int .i64 (wkr k (fromS (movedL 12 (wid k) (bitsL (wid k) a) (b % 2 ^ wid k) 0) (wid k)))) ∧ Ext w w' := by
  have hm64 := wid_le k
  obtain ⟨X, hX⟩ : ∃ X, X = bitsL (wid k) a := ⟨_, rfl⟩
  obtain ⟨Y, hY⟩ : ∃ Y, Y = bitsL (wid k) b := ⟨_, rfl⟩
  have hYj : ∀ j : Nat, j < wid k → Y[j]? = some (b / 2 ^ j % 2) := fun j hj => by rw [hY]; exact bitsL_at _ _ _ hj
  have hlX : X.length = wid k := by rw [hX]; exact bitsL_length _ _
  have hA := fun (w : World) => refBits_any k a w
  have hB := fun (w : World) => refBits_any k b w
  rw [← hX] at hA ⊢
  rw [← hY] at hB
  clear hX hY
  obtain ⟨m, hm⟩ : ∃ m, m = wid k := ⟨_, rfl⟩
  rw [← hm] at hpos hm64 hlX hYj hA hB ⊢
  obtain ⟨M, hM⟩ : ∃ M, M = movedL 12 m X (b % 2 ^ m) 0 := ⟨_, rfl⟩
  have hlM : M.length = m := by rw [hM]; simp [movedL]
  have hMj : ∀ j : Nat, j < m → M[j]? = some (movAt 12 m X (b % 2 ^ m) 0 j) := fun j hj => by rw [hM]; simp [movedL, hj]
  rw [← hM]
  have hU : topN m b 0 = b % 2 ^ m := by simp [topN]
  have HU := Lib.hid hU
  have HM := Lib.hid hm
  have HX := Lib.hid hlX
  have HMJ := Lib.hid hMj
  have HLM := Lib.hid hlM
  have HYJ := Lib.hid hYj
  have HA := Lib.hid hA
  have HBB := Lib.hid hB
  clear hm hlX hYj hA hB hU hMj hlM hM
  go_enter Tryz.func20, Tryz.ntmps20
  go_wp2_with fail
  refine (HA.out _).mono ?_
  rintro e w1 ⟨v1, rfl, hown1, hx1⟩
  obtain ⟨g, cap, rfl, hg, hcap, hgs⟩ := ownsRow_some hown1 hpos
  go_wp2_with (first | (go_at_call 15; refine (refSigned_any _ _).mono ?_; rintro e w' ⟨rfl, rfl⟩))
  refine (HBB.out _).mono ?_
  rintro e w2 ⟨v2, rfl, hown2, hx2⟩
  obtain ⟨g2, cap2, rfl, hg2, hcap2, hgs2⟩ := ownsRow_some hown2 hpos
  have hcells : ∀ j : Nat, j < m → w2.cell? ⟨g2, j, none⟩ = some (.int .i64 (b / 2 ^ j % 2)) := fun j hj => by
    rw [hown2.cellAt j (by omega), List.getElem?_map, HYJ.out j hj]; rfl
  have HC := Lib.hid hcells
  have hown := ownsRow_ext hown1 hx2
  have hx := hx1.trans hx2
  have hgs' : g < w2.heap.size := Nat.lt_of_lt_of_le hgs hx2.size
  have HO := Lib.hid (And.intro hown (And.intro hx hgs'))
  clear hown1 hown2 hx1 hx2 hgs hcells hown hx hgs' hgs2 hg2
  go_wp2_with fail
  go_loop [13, 14, 15] (fun far n i => ∃ j : Nat, j ≤ m ∧ i = .int .i64 ((j : Int) - 1) ∧ n = .int .i64 (capN m (topN m b j)) ∧ far = .bool (decide ((m : Int) ≤ topN m b j))) (fun _ _ i => (intOf i + 1).toNat)
  case atStart => exact ⟨m, Nat.le_refl _, rfl, by rw [topN_start]; simp [capN]; omega, by rw [topN_start]; simp; omega⟩
  case round =>
    obtain ⟨j, hj, rfl, rfl, rfl⟩ := hrel
    by_cases hlt : 0 < j
    · obtain ⟨i, rfl⟩ : ∃ i, j = i + 1 := ⟨j - 1, by omega⟩
      have e : ((i + 1 : Nat) : Int) - 1 = (i : Int) := by omega
      rw [e]
      have him : i < m := by omega
      clear e hlt
      have hcell := HC.out i him
      have hbit : 0 ≤ b / 2 ^ i % 2 ∧ b / 2 ^ i % 2 ≤ 1 := by omega
      have hy := Lib.hid (@capN_yes m b i him)
      have hn := Lib.hid (@capN_no m b i him)
      have hbd := capN_bd m _ (topN_pos m b (i + 1))
      generalize hN : capN m (topN m b (i + 1)) = N at *
      generalize hF : decide ((m : Int) ≤ topN m b (i + 1)) = F at *
      generalize b / 2 ^ i % 2 = y at *
      clear hN hF
      obtain ⟨y0, y1⟩ := hbit
      obtain ⟨n0, n1⟩ := hbd
      by_cases hc : (m : Int) ≤ 2 * N + y
      · have HY := Lib.hid (hy.out hc)
        go_wp2
        go_round
        case rel => exact ⟨i, by omega, rfl, by rw [HY.out.1], by rw [HY.out.2]⟩
        case measure => simp [intOf] <;> omega
      · have HY := Lib.hid (hn.out hc)
        go_wp2
        go_round
        case rel => exact ⟨i, by omega, rfl, by rw [HY.out.1], by rw [HY.out.2]⟩
        case measure => simp [intOf] <;> omega
    · obtain rfl : j = 0 := by omega
      have e : ((0 : Nat) : Int) - 1 = -1 := by omega
      rw [e, HU.out]
      have hU0 : 0 ≤ b % 2 ^ m := by have := topN_pos m b 0; rw [HU.out] at this; exact this
      obtain ⟨U, hUU⟩ : ∃ U, U = b % 2 ^ m := ⟨_, rfl⟩
      rw [← hUU] at hU0 ⊢
      have HMJ' := HMJ.out
      rw [← hUU] at HMJ'
      have HMJ2 := Lib.hid HMJ'
      clear hUU HMJ' HMJ e
      have hbase : w.heap.size ≤ w2.heap.size := HO.out.2.1.size
      have hN : capN m U = if (m : Int) ≤ U then (m : Int) else U := rfl
      by_cases hfar : (m : Int) ≤ U
      · rw [if_pos hfar] at hN; rw [decide_eq_true hfar]
        rw [hN]
        clear hN
        go_wp2_with (at_make; refine wpList_make_full _ rfl _ _ 29 rfl w.heap.size 3 _ (.int .i64 0) 1 Tryz.underlying29 rfl rfl rfl .i64 .i64 (m : Int) (m : Int) m rfl rfl rfl rfl (by have := (info_parts infoInt); show 8 * m ≤ _; omega) (by unfold maxLen; omega) hbase ?_; intro w3 hown3 hg3)
        have hinv0 : MvInv w.heap.size g cap w2.heap.size m X M w w3 0 := by
          refine ⟨?_, (HO.out.1).kept hg3 (.inr (by simp [Value.ownBlock])), ?_⟩
          · have e : (upto M m 0).map (Value.int .i64) = (madeCells (Value.int .i64 0).cells (m * 1)).toList := by
              simp [upto, Value.cells, toList_madeCells_one]
            rw [e]; exact hown3
          · exact (show Below w.heap.size w w2 from HO.out.2.1).grown hg3 hbase (fun k hk => by simp at hk)
        have hne : g ≠ w2.heap.size := by have := HO.out.2.2; omega
        have hne' : g ≠ w2.heap.size := hne
        have HI0 := Lib.hid hinv0
        clear hinv0 hown3 hg3
        go_loopw [17] (fun i wr => ∃ j : Nat, j ≤ m ∧ i = .int .i64 j ∧ MvInv w.heap.size g cap w2.heap.size m X M w wr j) (fun i _ => m - (intOf i).toNat)
        case atStart => exact ⟨0, Nat.zero_le _, rfl, HI0.out⟩
        case round =>
          obtain ⟨j, hj, rfl, hinv⟩ := hrel
          by_cases hlt : j < m
          · have hx := HMJ2.out j hlt
            obtain ⟨⟨u, hu⟩, hfz, hXc⟩ := hinv.cells hlt HLM.out
            have he : movAt 12 m X U 0 j = 0 := by unfold movAt; rw [if_neg (by simp only [movFrom, (show ¬ ((12 : Int) = 13) by decide), if_false]; omega)]
            rw [he] at hx
            have hst := Lib.hid (hinv.step hbase hne' HLM.out hx)
            clear hx hinv hXc
            go_wp2_with fail
            go_roundw
            case rel => exact ⟨j + 1, by omega, by go_num, hst.out⟩
            case measure => simp [intOf] <;> omega
          · obtain rfl : j = m := by omega
            have hl := HLM.out
            have hown := hinv.1
            have hbel := hinv.2.2
            rw [upto_all M j hl] at hown
            have hs := SlC.of_owns hown
            have HF := Lib.hid (refFrom_any k M (.slice (some ⟨w2.heap.size, 0, none⟩) j j) wr (by rw [hl]; exact hs) (by rw [hl]; omega))
            rw [hl, ← HM.out, Nat.min_self] at HF
            clear hs hown hl hinv
            go_wp2_with (first | (go_at_call 29; refine HF.out.mono ?_; rintro e w' ⟨rfl, rfl⟩))
            go_ret
            exact ⟨rfl, hbel⟩
      · rw [if_neg hfar] at hN; rw [decide_eq_false hfar]
        rw [hN]
        clear hN
        go_wp2_with (at_make; refine wpList_make_full _ rfl _ _ 29 rfl w.heap.size 3 _ (.int .i64 0) 1 Tryz.underlying29 rfl rfl rfl .i64 .i64 (m : Int) (m : Int) m rfl rfl rfl rfl (by have := (info_parts infoInt); show 8 * m ≤ _; omega) (by unfold maxLen; omega) hbase ?_; intro w3 hown3 hg3)
        have hinv0 : MvInv w.heap.size g cap w2.heap.size m X M w w3 0 := by
          refine ⟨?_, (HO.out.1).kept hg3 (.inr (by simp [Value.ownBlock])), ?_⟩
          · have e : (upto M m 0).map (Value.int .i64) = (madeCells (Value.int .i64 0).cells (m * 1)).toList := by
              simp [upto, Value.cells, toList_madeCells_one]
            rw [e]; exact hown3
          · exact (show Below w.heap.size w w2 from HO.out.2.1).grown hg3 hbase (fun k hk => by simp at hk)
        have hne : g ≠ w2.heap.size := by have := HO.out.2.2; omega
        have hne' : g ≠ w2.heap.size := hne
        have HI0 := Lib.hid hinv0
        clear hinv0 hown3 hg3
        go_loopw [17] (fun i wr => ∃ j : Nat, j ≤ m ∧ i = .int .i64 j ∧ MvInv w.heap.size g cap w2.heap.size m X M w wr j) (fun i _ => m - (intOf i).toNat)
        case atStart => exact ⟨0, Nat.zero_le _, rfl, HI0.out⟩
        case round =>
          obtain ⟨j, hj, rfl, hinv⟩ := hrel
          by_cases hlt : j < m
          · have hx := HMJ2.out j hlt
            obtain ⟨⟨u, hu⟩, hfz, hXc⟩ := hinv.cells hlt HLM.out
            by_cases h0 : 0 ≤ (j : Int) - U
            · by_cases h1 : (j : Int) - U < m
              · obtain ⟨F, hF⟩ : ∃ F : Nat, (j : Int) - U = (F : Int) := ⟨((j : Int) - U).toNat, by omega⟩
                obtain ⟨x, hxx⟩ : ∃ x, X[F]? = some x := ⟨_, List.getElem?_eq_getElem (by have := HX.out; omega)⟩
                have he : movAt 12 m X U 0 j = x := by
                  unfold movAt
                  simp only [movFrom, (show ¬ ((12 : Int) = 13) by decide), if_false]
                  rw [if_pos (by omega), hF]
                  simp [hxx]
                rw [he] at hx
                have hst := Lib.hid (hinv.step2 (f := 0) hbase hne' HLM.out hx)
                have hcx := hXc F x hxx
                have hFm : F < m := by omega
                have hU1 : U < m := by omega
                clear hx hinv hXc hxx h0 h1 he
                go_wp2_with fail
                go_roundw
                case rel => exact ⟨j + 1, by omega, by go_num, hst.out⟩
                case measure => simp [intOf] <;> omega
              · exfalso; omega
            · have he : movAt 12 m X U 0 j = 0 := by unfold movAt; rw [if_neg (by simp only [movFrom, (show ¬ ((12 : Int) = 13) by decide), if_false]; omega)]
              rw [he] at hx
              have hst := Lib.hid (hinv.step hbase hne' HLM.out hx)
              clear hx hinv hXc
              go_wp2_with fail
              go_roundw
              case rel => exact ⟨j + 1, by omega, by go_num, hst.out⟩
              case measure => simp [intOf] <;> omega
          · obtain rfl : j = m := by omega
            have hl := HLM.out
            have hown := hinv.1
            have hbel := hinv.2.2
            rw [upto_all M j hl] at hown
            have hs := SlC.of_owns hown
            have HF := Lib.hid (refFrom_any k M (.slice (some ⟨w2.heap.size, 0, none⟩) j j) wr (by rw [hl]; exact hs) (by rw [hl]; omega))
            rw [hl, ← HM.out, Nat.min_self] at HF
            clear hs hown hl hinv
            go_wp2_with (first | (go_at_call 29; refine HF.out.mono ?_; rintro e w' ⟨rfl, rfl⟩))
            go_ret
            exact ⟨rfl, hbel⟩


set_option maxHeartbeats 4000000 in
theorem refMoved_sar (k a b : Int) (hpos : 0 < wid k) (hs : sgn k = true) (ha : a < 0) (w : World) :
    Calls Tryz.prog 20 #[.int .i64 13, .int .i64 k, .int .i64 a, .int .i64 b] w fun e w' => e = .returned (.int .i64 (wkr k (fromS (movedL 13 (wid k) (bitsL (wid k) a) (b % 2 ^ wid k) 1) (wid k)))) ∧ Ext w w' := by
  have hm64 := wid_le k
  obtain ⟨X, hX⟩ : ∃ X, X = bitsL (wid k) a := ⟨_, rfl⟩
  obtain ⟨Y, hY⟩ : ∃ Y, Y = bitsL (wid k) b := ⟨_, rfl⟩
  have hYj : ∀ j : Nat, j < wid k → Y[j]? = some (b / 2 ^ j % 2) := fun j hj => by rw [hY]; exact bitsL_at _ _ _ hj
  have hlX : X.length = wid k := by rw [hX]; exact bitsL_length _ _
  have hA := fun (w : World) => refBits_any k a w
  have hB := fun (w : World) => refBits_any k b w
  rw [← hX] at hA ⊢
  rw [← hY] at hB
  clear hX hY
  obtain ⟨m, hm⟩ : ∃ m, m = wid k := ⟨_, rfl⟩
  rw [← hm] at hpos hm64 hlX hYj hA hB ⊢
  obtain ⟨M, hM⟩ : ∃ M, M = movedL 13 m X (b % 2 ^ m) 1 := ⟨_, rfl⟩
  have hlM : M.length = m := by rw [hM]; simp [movedL]
  have hMj : ∀ j : Nat, j < m → M[j]? = some (movAt 13 m X (b % 2 ^ m) 1 j) := fun j hj => by rw [hM]; simp [movedL, hj]
  rw [← hM]
  have hU : topN m b 0 = b % 2 ^ m := by simp [topN]
  have HU := Lib.hid hU
  have HM := Lib.hid hm
  have HX := Lib.hid hlX
  have HMJ := Lib.hid hMj
  have HLM := Lib.hid hlM
  have HYJ := Lib.hid hYj
  have HA := Lib.hid hA
  have HBB := Lib.hid hB
  clear hm hlX hYj hA hB hU hMj hlM hM
  go_enter Tryz.func20, Tryz.ntmps20
  go_wp2_with fail
  refine (HA.out _).mono ?_
  rintro e w1 ⟨v1, rfl, hown1, hx1⟩
  obtain ⟨g, cap, rfl, hg, hcap, hgs⟩ := ownsRow_some hown1 hpos
  go_wp2_with (first | (go_at_call 15; refine (refSigned_any _ _).mono ?_; rintro e w' ⟨rfl, rfl⟩))
  refine (HBB.out _).mono ?_
  rintro e w2 ⟨v2, rfl, hown2, hx2⟩
  obtain ⟨g2, cap2, rfl, hg2, hcap2, hgs2⟩ := ownsRow_some hown2 hpos
  have hcells : ∀ j : Nat, j < m → w2.cell? ⟨g2, j, none⟩ = some (.int .i64 (b / 2 ^ j % 2)) := fun j hj => by
    rw [hown2.cellAt j (by omega), List.getElem?_map, HYJ.out j hj]; rfl
  have HC := Lib.hid hcells
  have hown := ownsRow_ext hown1 hx2
  have hx := hx1.trans hx2
  have hgs' : g < w2.heap.size := Nat.lt_of_lt_of_le hgs hx2.size
  have HO := Lib.hid (And.intro hown (And.intro hx hgs'))
  clear hown1 hown2 hx1 hx2 hgs hcells hown hx hgs' hgs2 hg2
  go_wp2_with fail
  go_loop [13, 14, 15] (fun far n i => ∃ j : Nat, j ≤ m ∧ i = .int .i64 ((j : Int) - 1) ∧ n = .int .i64 (capN m (topN m b j)) ∧ far = .bool (decide ((m : Int) ≤ topN m b j))) (fun _ _ i => (intOf i + 1).toNat)
  case atStart => exact ⟨m, Nat.le_refl _, rfl, by rw [topN_start]; simp [capN]; omega, by rw [topN_start]; simp; omega⟩
  case round =>
    obtain ⟨j, hj, rfl, rfl, rfl⟩ := hrel
    by_cases hlt : 0 < j
    · obtain ⟨i, rfl⟩ : ∃ i, j = i + 1 := ⟨j - 1, by omega⟩
      have e : ((i + 1 : Nat) : Int) - 1 = (i : Int) := by omega
      rw [e]
      have him : i < m := by omega
      clear e hlt
      have hcell := HC.out i him
      have hbit : 0 ≤ b / 2 ^ i % 2 ∧ b / 2 ^ i % 2 ≤ 1 := by omega
      have hy := Lib.hid (@capN_yes m b i him)
      have hn := Lib.hid (@capN_no m b i him)
      have hbd := capN_bd m _ (topN_pos m b (i + 1))
      generalize hN : capN m (topN m b (i + 1)) = N at *
      generalize hF : decide ((m : Int) ≤ topN m b (i + 1)) = F at *
      generalize b / 2 ^ i % 2 = y at *
      clear hN hF
      obtain ⟨y0, y1⟩ := hbit
      obtain ⟨n0, n1⟩ := hbd
      by_cases hc : (m : Int) ≤ 2 * N + y
      · have HY := Lib.hid (hy.out hc)
        go_wp2
        go_round
        case rel => exact ⟨i, by omega, rfl, by rw [HY.out.1], by rw [HY.out.2]⟩
        case measure => simp [intOf] <;> omega
      · have HY := Lib.hid (hn.out hc)
        go_wp2
        go_round
        case rel => exact ⟨i, by omega, rfl, by rw [HY.out.1], by rw [HY.out.2]⟩
        case measure => simp [intOf] <;> omega
    · obtain rfl : j = 0 := by omega
      have e : ((0 : Nat) : Int) - 1 = -1 := by omega
      rw [e, HU.out]
      have hU0 : 0 ≤ b % 2 ^ m := by have := topN_pos m b 0; rw [HU.out] at this; exact this
      obtain ⟨U, hUU⟩ : ∃ U, U = b % 2 ^ m := ⟨_, rfl⟩
      rw [← hUU] at hU0 ⊢
      have HMJ' := HMJ.out
      rw [← hUU] at HMJ'
      have HMJ2 := Lib.hid HMJ'
      clear hUU HMJ' HMJ e
      have hbase : w.heap.size ≤ w2.heap.size := HO.out.2.1.size
      have hN : capN m U = if (m : Int) ≤ U then (m : Int) else U := rfl
      by_cases hfar : (m : Int) ≤ U
      · rw [if_pos hfar] at hN; rw [decide_eq_true hfar]
        rw [hN]
        clear hN
        go_wp2_with (at_make; refine wpList_make_full _ rfl _ _ 29 rfl w.heap.size 3 _ (.int .i64 0) 1 Tryz.underlying29 rfl rfl rfl .i64 .i64 (m : Int) (m : Int) m rfl rfl rfl rfl (by have := (info_parts infoInt); show 8 * m ≤ _; omega) (by unfold maxLen; omega) hbase ?_; intro w3 hown3 hg3)
        have hinv0 : MvInv w.heap.size g cap w2.heap.size m X M w w3 0 := by
          refine ⟨?_, (HO.out.1).kept hg3 (.inr (by simp [Value.ownBlock])), ?_⟩
          · have e : (upto M m 0).map (Value.int .i64) = (madeCells (Value.int .i64 0).cells (m * 1)).toList := by
              simp [upto, Value.cells, toList_madeCells_one]
            rw [e]; exact hown3
          · exact (show Below w.heap.size w w2 from HO.out.2.1).grown hg3 hbase (fun k hk => by simp at hk)
        have hne : g ≠ w2.heap.size := by have := HO.out.2.2; omega
        have hne' : g ≠ w2.heap.size := hne
        have HI0 := Lib.hid hinv0
        clear hinv0 hown3 hg3
        go_loopw [17] (fun i wr => ∃ j : Nat, j ≤ m ∧ i = .int .i64 j ∧ MvInv w.heap.size g cap w2.heap.size m X M w wr j) (fun i _ => m - (intOf i).toNat)
        case atStart => exact ⟨0, Nat.zero_le _, rfl, HI0.out⟩
        case round =>
          obtain ⟨j, hj, rfl, hinv⟩ := hrel
          by_cases hlt : j < m
          · have hx := HMJ2.out j hlt
            obtain ⟨⟨u, hu⟩, hfz, hXc⟩ := hinv.cells hlt HLM.out
            have he : movAt 13 m X U 1 j = 1 := by unfold movAt; rw [if_neg (by simp only [movFrom, if_true]; omega)]
            rw [he] at hx
            have hst := Lib.hid (hinv.step hbase hne' HLM.out hx)
            clear hx hinv hXc
            go_wp2_with fail
            go_roundw
            case rel => exact ⟨j + 1, by omega, by go_num, hst.out⟩
            case measure => simp [intOf] <;> omega
          · obtain rfl : j = m := by omega
            have hl := HLM.out
            have hown := hinv.1
            have hbel := hinv.2.2
            rw [upto_all M j hl] at hown
            have hs := SlC.of_owns hown
            have HF := Lib.hid (refFrom_any k M (.slice (some ⟨w2.heap.size, 0, none⟩) j j) wr (by rw [hl]; exact hs) (by rw [hl]; omega))
            rw [hl, ← HM.out, Nat.min_self] at HF
            clear hs hown hl hinv
            go_wp2_with (first | (go_at_call 29; refine HF.out.mono ?_; rintro e w' ⟨rfl, rfl⟩))
            go_ret
            exact ⟨rfl, hbel⟩
      · rw [if_neg hfar] at hN; rw [decide_eq_false hfar]
        rw [hN]
        clear hN
        go_wp2_with (at_make; refine wpList_make_full _ rfl _ _ 29 rfl w.heap.size 3 _ (.int .i64 0) 1 Tryz.underlying29 rfl rfl rfl .i64 .i64 (m : Int) (m : Int) m rfl rfl rfl rfl (by have := (info_parts infoInt); show 8 * m ≤ _; omega) (by unfold maxLen; omega) hbase ?_; intro w3 hown3 hg3)
        have hinv0 : MvInv w.heap.size g cap w2.heap.size m X M w w3 0 := by
          refine ⟨?_, (HO.out.1).kept hg3 (.inr (by simp [Value.ownBlock])), ?_⟩
          · have e : (upto M m 0).map (Value.int .i64) = (madeCells (Value.int .i64 0).cells (m * 1)).toList := by
              simp [upto, Value.cells, toList_madeCells_one]
            rw [e]; exact hown3
          · exact (show Below w.heap.size w w2 from HO.out.2.1).grown hg3 hbase (fun k hk => by simp at hk)
        have hne : g ≠ w2.heap.size := by have := HO.out.2.2; omega
        have hne' : g ≠ w2.heap.size := hne
        have HI0 := Lib.hid hinv0
        clear hinv0 hown3 hg3
        go_loopw [17] (fun i wr => ∃ j : Nat, j ≤ m ∧ i = .int .i64 j ∧ MvInv w.heap.size g cap w2.heap.size m X M w wr j) (fun i _ => m - (intOf i).toNat)
        case atStart => exact ⟨0, Nat.zero_le _, rfl, HI0.out⟩
        case round =>
          obtain ⟨j, hj, rfl, hinv⟩ := hrel
          by_cases hlt : j < m
          · have hx := HMJ2.out j hlt
            obtain ⟨⟨u, hu⟩, hfz, hXc⟩ := hinv.cells hlt HLM.out
            by_cases h0 : 0 ≤ (j : Int) + U
            · by_cases h1 : (j : Int) + U < m
              · obtain ⟨F, hF⟩ : ∃ F : Nat, (j : Int) + U = (F : Int) := ⟨((j : Int) + U).toNat, by omega⟩
                obtain ⟨x, hxx⟩ : ∃ x, X[F]? = some x := ⟨_, List.getElem?_eq_getElem (by have := HX.out; omega)⟩
                have he : movAt 13 m X U 1 j = x := by
                  unfold movAt
                  simp only [movFrom, if_true]
                  rw [if_pos (by omega), hF]
                  simp [hxx]
                rw [he] at hx
                have hst := Lib.hid (hinv.step2 (f := 1) hbase hne' HLM.out hx)
                have hcx := hXc F x hxx
                have hFm : F < m := by omega
                have hU1 : U < m := by omega
                clear hx hinv hXc hxx h0 h1 he
                go_wp2_with fail
                go_roundw
                case rel => exact ⟨j + 1, by omega, by go_num, hst.out⟩
                case measure => simp [intOf] <;> omega
              · have he : movAt 13 m X U 1 j = 1 := by unfold movAt; rw [if_neg (by simp only [movFrom, if_true]; omega)]
                rw [he] at hx
                have hst := Lib.hid (hinv.step hbase hne' HLM.out hx)
                clear hx hinv hXc
                go_wp2_with fail
                go_roundw
                case rel => exact ⟨j + 1, by omega, by go_num, hst.out⟩
                case measure => simp [intOf] <;> omega
            · exfalso; omega
          · obtain rfl : j = m := by omega
            have hl := HLM.out
            have hown := hinv.1
            have hbel := hinv.2.2
            rw [upto_all M j hl] at hown
            have hs := SlC.of_owns hown
            have HF := Lib.hid (refFrom_any k M (.slice (some ⟨w2.heap.size, 0, none⟩) j j) wr (by rw [hl]; exact hs) (by rw [hl]; omega))
            rw [hl, ← HM.out, Nat.min_self] at HF
            clear hs hown hl hinv
            go_wp2_with (first | (go_at_call 29; refine HF.out.mono ?_; rintro e w' ⟨rfl, rfl⟩))
            go_ret
            exact ⟨rfl, hbel⟩


set_option maxHeartbeats 4000000 in
theorem refMoved_spr (k a b : Int) (hpos : 0 < wid k) (hs : sgn k = true) (ha : ¬ a < 0) (w : World) :
    Calls Tryz.prog 20 #[.int .i64 13, .int .i64 k, .int .i64 a, .int .i64 b] w fun e w' => e = .returned (.int .i64 (wkr k (fromS (movedL 13 (wid k) (bitsL (wid k) a) (b % 2 ^ wid k) 0) (wid k)))) ∧ Ext w w' := by
  have hm64 := wid_le k
  obtain ⟨X, hX⟩ : ∃ X, X = bitsL (wid k) a := ⟨_, rfl⟩
  obtain ⟨Y, hY⟩ : ∃ Y, Y = bitsL (wid k) b := ⟨_, rfl⟩
  have hYj : ∀ j : Nat, j < wid k → Y[j]? = some (b / 2 ^ j % 2) := fun j hj => by rw [hY]; exact bitsL_at _ _ _ hj
  have hlX : X.length = wid k := by rw [hX]; exact bitsL_length _ _
  have hA := fun (w : World) => refBits_any k a w
  have hB := fun (w : World) => refBits_any k b w
  rw [← hX] at hA ⊢
  rw [← hY] at hB
  clear hX hY
  obtain ⟨m, hm⟩ : ∃ m, m = wid k := ⟨_, rfl⟩
  rw [← hm] at hpos hm64 hlX hYj hA hB ⊢
  obtain ⟨M, hM⟩ : ∃ M, M = movedL 13 m X (b % 2 ^ m) 0 := ⟨_, rfl⟩
  have hlM : M.length = m := by rw [hM]; simp [movedL]
  have hMj : ∀ j : Nat, j < m → M[j]? = some (movAt 13 m X (b % 2 ^ m) 0 j) := fun j hj => by rw [hM]; simp [movedL, hj]
  rw [← hM]
  have hU : topN m b 0 = b % 2 ^ m := by simp [topN]
  have HU := Lib.hid hU
  have HM := Lib.hid hm
  have HX := Lib.hid hlX
  have HMJ := Lib.hid hMj
  have HLM := Lib.hid hlM
  have HYJ := Lib.hid hYj
  have HA := Lib.hid hA
  have HBB := Lib.hid hB
  clear hm hlX hYj hA hB hU hMj hlM hM
  go_enter Tryz.func20, Tryz.ntmps20
  go_wp2_with fail
  refine (HA.out _).mono ?_
  rintro e w1 ⟨v1, rfl, hown1, hx1⟩
  obtain ⟨g, cap, rfl, hg, hcap, hgs⟩ := ownsRow_some hown1 hpos
  go_wp2_with (first | (go_at_call 15; refine (refSigned_any _ _).mono ?_; rintro e w' ⟨rfl, rfl⟩))
  refine (HBB.out _).mono ?_
  rintro e w2 ⟨v2, rfl, hown2, hx2⟩
  obtain ⟨g2, cap2, rfl, hg2, hcap2, hgs2⟩ := ownsRow_some hown2 hpos
  have hcells : ∀ j : Nat, j < m → w2.cell? ⟨g2, j, none⟩ = some (.int .i64 (b / 2 ^ j % 2)) := fun j hj => by
    rw [hown2.cellAt j (by omega), List.getElem?_map, HYJ.out j hj]; rfl
  have HC := Lib.hid hcells
  have hown := ownsRow_ext hown1 hx2
  have hx := hx1.trans hx2
  have hgs' : g < w2.heap.size := Nat.lt_of_lt_of_le hgs hx2.size
  have HO := Lib.hid (And.intro hown (And.intro hx hgs'))
  clear hown1 hown2 hx1 hx2 hgs hcells hown hx hgs' hgs2 hg2
  go_wp2_with fail
  go_loop [13, 14, 15] (fun far n i => ∃ j : Nat, j ≤ m ∧ i = .int .i64 ((j : Int) - 1) ∧ n = .int .i64 (capN m (topN m b j)) ∧ far = .bool (decide ((m : Int) ≤ topN m b j))) (fun _ _ i => (intOf i + 1).toNat)
  case atStart => exact ⟨m, Nat.le_refl _, rfl, by rw [topN_start]; simp [capN]; omega, by rw [topN_start]; simp; omega⟩
  case round =>
    obtain ⟨j, hj, rfl, rfl, rfl⟩ := hrel
    by_cases hlt : 0 < j
    · obtain ⟨i, rfl⟩ : ∃ i, j = i + 1 := ⟨j - 1, by omega⟩
      have e : ((i + 1 : Nat) : Int) - 1 = (i : Int) := by omega
      rw [e]
      have him : i < m := by omega
      clear e hlt
      have hcell := HC.out i him
      have hbit : 0 ≤ b / 2 ^ i % 2 ∧ b / 2 ^ i % 2 ≤ 1 := by omega
      have hy := Lib.hid (@capN_yes m b i him)
      have hn := Lib.hid (@capN_no m b i him)
      have hbd := capN_bd m _ (topN_pos m b (i + 1))
      generalize hN : capN m (topN m b (i + 1)) = N at *
      generalize hF : decide ((m : Int) ≤ topN m b (i + 1)) = F at *
      generalize b / 2 ^ i % 2 = y at *
      clear hN hF
      obtain ⟨y0, y1⟩ := hbit
      obtain ⟨n0, n1⟩ := hbd
      by_cases hc : (m : Int) ≤ 2 * N + y
      · have HY := Lib.hid (hy.out hc)
        go_wp2
        go_round
        case rel => exact ⟨i, by omega, rfl, by rw [HY.out.1], by rw [HY.out.2]⟩
        case measure => simp [intOf] <;> omega
      · have HY := Lib.hid (hn.out hc)
        go_wp2
        go_round
        case rel => exact ⟨i, by omega, rfl, by rw [HY.out.1], by rw [HY.out.2]⟩
        case measure => simp [intOf] <;> omega
    · obtain rfl : j = 0 := by omega
      have e : ((0 : Nat) : Int) - 1 = -1 := by omega
      rw [e, HU.out]
      have hU0 : 0 ≤ b % 2 ^ m := by have := topN_pos m b 0; rw [HU.out] at this; exact this
      obtain ⟨U, hUU⟩ : ∃ U, U = b % 2 ^ m := ⟨_, rfl⟩
      rw [← hUU] at hU0 ⊢
      have HMJ' := HMJ.out
      rw [← hUU] at HMJ'
      have HMJ2 := Lib.hid HMJ'
      clear hUU HMJ' HMJ e
      have hbase : w.heap.size ≤ w2.heap.size := HO.out.2.1.size
      have hN : capN m U = if (m : Int) ≤ U then (m : Int) else U := rfl
      by_cases hfar : (m : Int) ≤ U
      · rw [if_pos hfar] at hN; rw [decide_eq_true hfar]
        rw [hN]
        clear hN
        go_wp2_with (at_make; refine wpList_make_full _ rfl _ _ 29 rfl w.heap.size 3 _ (.int .i64 0) 1 Tryz.underlying29 rfl rfl rfl .i64 .i64 (m : Int) (m : Int) m rfl rfl rfl rfl (by have := (info_parts infoInt); show 8 * m ≤ _; omega) (by unfold maxLen; omega) hbase ?_; intro w3 hown3 hg3)
        have hinv0 : MvInv w.heap.size g cap w2.heap.size m X M w w3 0 := by
          refine ⟨?_, (HO.out.1).kept hg3 (.inr (by simp [Value.ownBlock])), ?_⟩
          · have e : (upto M m 0).map (Value.int .i64) = (madeCells (Value.int .i64 0).cells (m * 1)).toList := by
              simp [upto, Value.cells, toList_madeCells_one]
            rw [e]; exact hown3
          · exact (show Below w.heap.size w w2 from HO.out.2.1).grown hg3 hbase (fun k hk => by simp at hk)
        have hne : g ≠ w2.heap.size := by have := HO.out.2.2; omega
        have hne' : g ≠ w2.heap.size := hne
        have HI0 := Lib.hid hinv0
        clear hinv0 hown3 hg3
        go_loopw [17] (fun i wr => ∃ j : Nat, j ≤ m ∧ i = .int .i64 j ∧ MvInv w.heap.size g cap w2.heap.size m X M w wr j) (fun i _ => m - (intOf i).toNat)
        case atStart => exact ⟨0, Nat.zero_le _, rfl, HI0.out⟩
        case round =>
          obtain ⟨j, hj, rfl, hinv⟩ := hrel
          by_cases hlt : j < m
          · have hx := HMJ2.out j hlt
            obtain ⟨⟨u, hu⟩, hfz, hXc⟩ := hinv.cells hlt HLM.out
            have he : movAt 13 m X U 0 j = 0 := by unfold movAt; rw [if_neg (by simp only [movFrom, if_true]; omega)]
            rw [he] at hx
            have hst := Lib.hid (hinv.step hbase hne' HLM.out hx)
            clear hx hinv hXc
            go_wp2_with fail
            go_roundw
            case rel => exact ⟨j + 1, by omega, by go_num, hst.out⟩
            case measure => simp [intOf] <;> omega
          · obtain rfl : j = m := by omega
            have hl := HLM.out
            have hown := hinv.1
            have hbel := hinv.2.2
            rw [upto_all M j hl] at hown
            have hs := SlC.of_owns hown
            have HF := Lib.hid (refFrom_any k M (.slice (some ⟨w2.heap.size, 0, none⟩) j j) wr (by rw [hl]; exact hs) (by rw [hl]; omega))
            rw [hl, ← HM.out, Nat.min_self] at HF
            clear hs hown hl hinv
            go_wp2_with (first | (go_at_call 29; refine HF.out.mono ?_; rintro e w' ⟨rfl, rfl⟩))
            go_ret
            exact ⟨rfl, hbel⟩
      · rw [if_neg hfar] at hN; rw [decide_eq_false hfar]
        rw [hN]
        clear hN
        go_wp2_with (at_make; refine wpList_make_full _ rfl _ _ 29 rfl w.heap.size 3 _ (.int .i64 0) 1 Tryz.underlying29 rfl rfl rfl .i64 .i64 (m : Int) (m : Int) m rfl rfl rfl rfl (by have := (info_parts infoInt); show 8 * m ≤ _; omega) (by unfold maxLen; omega) hbase ?_; intro w3 hown3 hg3)
        have hinv0 : MvInv w.heap.size g cap w2.heap.size m X M w w3 0 := by
          refine ⟨?_, (HO.out.1).kept hg3 (.inr (by simp [Value.ownBlock])), ?_⟩
          · have e : (upto M m 0).map (Value.int .i64) = (madeCells (Value.int .i64 0).cells (m * 1)).toList := by
              simp [upto, Value.cells, toList_madeCells_one]
            rw [e]; exact hown3
          · exact (show Below w.heap.size w w2 from HO.out.2.1).grown hg3 hbase (fun k hk => by simp at hk)
        have hne : g ≠ w2.heap.size := by have := HO.out.2.2; omega
        have hne' : g ≠ w2.heap.size := hne
        have HI0 := Lib.hid hinv0
        clear hinv0 hown3 hg3
        go_loopw [17] (fun i wr => ∃ j : Nat, j ≤ m ∧ i = .int .i64 j ∧ MvInv w.heap.size g cap w2.heap.size m X M w wr j) (fun i _ => m - (intOf i).toNat)
        case atStart => exact ⟨0, Nat.zero_le _, rfl, HI0.out⟩
        case round =>
          obtain ⟨j, hj, rfl, hinv⟩ := hrel
          by_cases hlt : j < m
          · have hx := HMJ2.out j hlt
            obtain ⟨⟨u, hu⟩, hfz, hXc⟩ := hinv.cells hlt HLM.out
            by_cases h0 : 0 ≤ (j : Int) + U
            · by_cases h1 : (j : Int) + U < m
              · obtain ⟨F, hF⟩ : ∃ F : Nat, (j : Int) + U = (F : Int) := ⟨((j : Int) + U).toNat, by omega⟩
                obtain ⟨x, hxx⟩ : ∃ x, X[F]? = some x := ⟨_, List.getElem?_eq_getElem (by have := HX.out; omega)⟩
                have he : movAt 13 m X U 0 j = x := by
                  unfold movAt
                  simp only [movFrom, if_true]
                  rw [if_pos (by omega), hF]
                  simp [hxx]
                rw [he] at hx
                have hst := Lib.hid (hinv.step2 (f := 0) hbase hne' HLM.out hx)
                have hcx := hXc F x hxx
                have hFm : F < m := by omega
                have hU1 : U < m := by omega
                clear hx hinv hXc hxx h0 h1 he
                go_wp2_with fail
                go_roundw
                case rel => exact ⟨j + 1, by omega, by go_num, hst.out⟩
                case measure => simp [intOf] <;> omega
              · have he : movAt 13 m X U 0 j = 0 := by unfold movAt; rw [if_neg (by simp only [movFrom, if_true]; omega)]
                rw [he] at hx
                have hst := Lib.hid (hinv.step hbase hne' HLM.out hx)
                clear hx hinv hXc
                go_wp2_with fail
                go_roundw
                case rel => exact ⟨j + 1, by omega, by go_num, hst.out⟩
                case measure => simp [intOf] <;> omega
            · exfalso; omega
          · obtain rfl : j = m := by omega
            have hl := HLM.out
            have hown := hinv.1
            have hbel := hinv.2.2
            rw [upto_all M j hl] at hown
            have hs := SlC.of_owns hown
            have HF := Lib.hid (refFrom_any k M (.slice (some ⟨w2.heap.size, 0, none⟩) j j) wr (by rw [hl]; exact hs) (by rw [hl]; omega))
            rw [hl, ← HM.out, Nat.min_self] at HF
            clear hs hown hl hinv
            go_wp2_with (first | (go_at_call 29; refine HF.out.mono ?_; rintro e w' ⟨rfl, rfl⟩))
            go_ret
            exact ⟨rfl, hbel⟩


set_option maxHeartbeats 4000000 in
theorem refMoved_shr (k a b : Int) (hpos : 0 < wid k) (hs : sgn k = false) (w : World) :
    Calls Tryz.prog 20 #[.int .i64 13, .int .i64 k, .int .i64 a, .int .i64 b] w fun e w' => e = .returned (.int .i64 (wkr k (fromS (movedL 13 (wid k) (bitsL (wid k) a) (b % 2 ^ wid k) 0) (wid k)))) ∧ Ext w w' := by
  have hm64 := wid_le k
  obtain ⟨X, hX⟩ : ∃ X, X = bitsL (wid k) a := ⟨_, rfl⟩
  obtain ⟨Y, hY⟩ : ∃ Y, Y = bitsL (wid k) b := ⟨_, rfl⟩
  have hYj : ∀ j : Nat, j < wid k → Y[j]? = some (b / 2 ^ j % 2) := fun j hj => by rw [hY]; exact bitsL_at _ _ _ hj
  have hlX : X.length = wid k := by rw [hX]; exact bitsL_length _ _
  have hA := fun (w : World) => refBits_any k a w
  have hB := fun (w : World) => refBits_any k b w
  rw [← hX] at hA ⊢
  rw [← hY] at hB
  clear hX hY
  obtain ⟨m, hm⟩ : ∃ m, m = wid k := ⟨_, rfl⟩
  rw [← hm] at hpos hm64 hlX hYj hA hB ⊢
  obtain ⟨M, hM⟩ : ∃ M, M = movedL 13 m X (b % 2 ^ m) 0 := ⟨_, rfl⟩
  have hlM : M.length = m := by rw [hM]; simp [movedL]
  have hMj : ∀ j : Nat, j < m → M[j]? = some (movAt 13 m X (b % 2 ^ m) 0 j) := fun j hj => by rw [hM]; simp [movedL, hj]
  rw [← hM]
  have hU : topN m b 0 = b % 2 ^ m := by simp [topN]
  have HU := Lib.hid hU
  have HM := Lib.hid hm
  have HX := Lib.hid hlX
  have HMJ := Lib.hid hMj
  have HLM := Lib.hid hlM
  have HYJ := Lib.hid hYj
  have HA := Lib.hid hA
  have HBB := Lib.hid hB
  clear hm hlX hYj hA hB hU hMj hlM hM
  go_enter Tryz.func20, Tryz.ntmps20
  go_wp2_with fail
  refine (HA.out _).mono ?_
  rintro e w1 ⟨v1, rfl, hown1, hx1⟩
  obtain ⟨g, cap, rfl, hg, hcap, hgs⟩ := ownsRow_some hown1 hpos
  go_wp2_with (first | (go_at_call 15; refine (refSigned_any _ _).mono ?_; rintro e w' ⟨rfl, rfl⟩))
  refine (HBB.out _).mono ?_
  rintro e w2 ⟨v2, rfl, hown2, hx2⟩
  obtain ⟨g2, cap2, rfl, hg2, hcap2, hgs2⟩ := ownsRow_some hown2 hpos
  have hcells : ∀ j : Nat, j < m → w2.cell? ⟨g2, j, none⟩ = some (.int .i64 (b / 2 ^ j % 2)) := fun j hj => by
    rw [hown2.cellAt j (by omega), List.getElem?_map, HYJ.out j hj]; rfl
  have HC := Lib.hid hcells
  have hown := ownsRow_ext hown1 hx2
  have hx := hx1.trans hx2
  have hgs' : g < w2.heap.size := Nat.lt_of_lt_of_le hgs hx2.size
  have HO := Lib.hid (And.intro hown (And.intro hx hgs'))
  clear hown1 hown2 hx1 hx2 hgs hcells hown hx hgs' hgs2 hg2
  go_wp2_with fail
  go_loop [13, 14, 15] (fun far n i => ∃ j : Nat, j ≤ m ∧ i = .int .i64 ((j : Int) - 1) ∧ n = .int .i64 (capN m (topN m b j)) ∧ far = .bool (decide ((m : Int) ≤ topN m b j))) (fun _ _ i => (intOf i + 1).toNat)
  case atStart => exact ⟨m, Nat.le_refl _, rfl, by rw [topN_start]; simp [capN]; omega, by rw [topN_start]; simp; omega⟩
  case round =>
    obtain ⟨j, hj, rfl, rfl, rfl⟩ := hrel
    by_cases hlt : 0 < j
    · obtain ⟨i, rfl⟩ : ∃ i, j = i + 1 := ⟨j - 1, by omega⟩
      have e : ((i + 1 : Nat) : Int) - 1 = (i : Int) := by omega
      rw [e]
      have him : i < m := by omega
      clear e hlt
      have hcell := HC.out i him
      have hbit : 0 ≤ b / 2 ^ i % 2 ∧ b / 2 ^ i % 2 ≤ 1 := by omega
      have hy := Lib.hid (@capN_yes m b i him)
      have hn := Lib.hid (@capN_no m b i him)
      have hbd := capN_bd m _ (topN_pos m b (i + 1))
      generalize hN : capN m (topN m b (i + 1)) = N at *
      generalize hF : decide ((m : Int) ≤ topN m b (i + 1)) = F at *
      generalize b / 2 ^ i % 2 = y at *
      clear hN hF
      obtain ⟨y0, y1⟩ := hbit
      obtain ⟨n0, n1⟩ := hbd
      by_cases hc : (m : Int) ≤ 2 * N + y
      · have HY := Lib.hid (hy.out hc)
        go_wp2
        go_round
        case rel => exact ⟨i, by omega, rfl, by rw [HY.out.1], by rw [HY.out.2]⟩
        case measure => simp [intOf] <;> omega
      · have HY := Lib.hid (hn.out hc)
        go_wp2
        go_round
        case rel => exact ⟨i, by omega, rfl, by rw [HY.out.1], by rw [HY.out.2]⟩
        case measure => simp [intOf] <;> omega
    · obtain rfl : j = 0 := by omega
      have e : ((0 : Nat) : Int) - 1 = -1 := by omega
      rw [e, HU.out]
      have hU0 : 0 ≤ b % 2 ^ m := by have := topN_pos m b 0; rw [HU.out] at this; exact this
      obtain ⟨U, hUU⟩ : ∃ U, U = b % 2 ^ m := ⟨_, rfl⟩
      rw [← hUU] at hU0 ⊢
      have HMJ' := HMJ.out
      rw [← hUU] at HMJ'
      have HMJ2 := Lib.hid HMJ'
      clear hUU HMJ' HMJ e
      have hbase : w.heap.size ≤ w2.heap.size := HO.out.2.1.size
      have hN : capN m U = if (m : Int) ≤ U then (m : Int) else U := rfl
      by_cases hfar : (m : Int) ≤ U
      · rw [if_pos hfar] at hN; rw [decide_eq_true hfar]
        rw [hN]
        clear hN
        go_wp2_with (at_make; refine wpList_make_full _ rfl _ _ 29 rfl w.heap.size 3 _ (.int .i64 0) 1 Tryz.underlying29 rfl rfl rfl .i64 .i64 (m : Int) (m : Int) m rfl rfl rfl rfl (by have := (info_parts infoInt); show 8 * m ≤ _; omega) (by unfold maxLen; omega) hbase ?_; intro w3 hown3 hg3)
        have hinv0 : MvInv w.heap.size g cap w2.heap.size m X M w w3 0 := by
          refine ⟨?_, (HO.out.1).kept hg3 (.inr (by simp [Value.ownBlock])), ?_⟩
          · have e : (upto M m 0).map (Value.int .i64) = (madeCells (Value.int .i64 0).cells (m * 1)).toList := by
              simp [upto, Value.cells, toList_madeCells_one]
            rw [e]; exact hown3
          · exact (show Below w.heap.size w w2 from HO.out.2.1).grown hg3 hbase (fun k hk => by simp at hk)
        have hne : g ≠ w2.heap.size := by have := HO.out.2.2; omega
        have hne' : g ≠ w2.heap.size := hne
        have HI0 := Lib.hid hinv0
        clear hinv0 hown3 hg3
        go_loopw [17] (fun i wr => ∃ j : Nat, j ≤ m ∧ i = .int .i64 j ∧ MvInv w.heap.size g cap w2.heap.size m X M w wr j) (fun i _ => m - (intOf i).toNat)
        case atStart => exact ⟨0, Nat.zero_le _, rfl, HI0.out⟩
        case round =>
          obtain ⟨j, hj, rfl, hinv⟩ := hrel
          by_cases hlt : j < m
          · have hx := HMJ2.out j hlt
            obtain ⟨⟨u, hu⟩, hfz, hXc⟩ := hinv.cells hlt HLM.out
            have he : movAt 13 m X U 0 j = 0 := by unfold movAt; rw [if_neg (by simp only [movFrom, if_true]; omega)]
            rw [he] at hx
            have hst := Lib.hid (hinv.step hbase hne' HLM.out hx)
            clear hx hinv hXc
            go_wp2_with fail
            go_roundw
            case rel => exact ⟨j + 1, by omega, by go_num, hst.out⟩
            case measure => simp [intOf] <;> omega
          · obtain rfl : j = m := by omega
            have hl := HLM.out
            have hown := hinv.1
            have hbel := hinv.2.2
            rw [upto_all M j hl] at hown
            have hs := SlC.of_owns hown
            have HF := Lib.hid (refFrom_any k M (.slice (some ⟨w2.heap.size, 0, none⟩) j j) wr (by rw [hl]; exact hs) (by rw [hl]; omega))
            rw [hl, ← HM.out, Nat.min_self] at HF
            clear hs hown hl hinv
            go_wp2_with (first | (go_at_call 29; refine HF.out.mono ?_; rintro e w' ⟨rfl, rfl⟩))
            go_ret
            exact ⟨rfl, hbel⟩
      · rw [if_neg hfar] at hN; rw [decide_eq_false hfar]
        rw [hN]
        clear hN
        go_wp2_with (at_make; refine wpList_make_full _ rfl _ _ 29 rfl w.heap.size 3 _ (.int .i64 0) 1 Tryz.underlying29 rfl rfl rfl .i64 .i64 (m : Int) (m : Int) m rfl rfl rfl rfl (by have := (info_parts infoInt); show 8 * m ≤ _; omega) (by unfold maxLen; omega) hbase ?_; intro w3 hown3 hg3)
        have hinv0 : MvInv w.heap.size g cap w2.heap.size m X M w w3 0 := by
          refine ⟨?_, (HO.out.1).kept hg3 (.inr (by simp [Value.ownBlock])), ?_⟩
          · have e : (upto M m 0).map (Value.int .i64) = (madeCells (Value.int .i64 0).cells (m * 1)).toList := by
              simp [upto, Value.cells, toList_madeCells_one]
            rw [e]; exact hown3
          · exact (show Below w.heap.size w w2 from HO.out.2.1).grown hg3 hbase (fun k hk => by simp at hk)
        have hne : g ≠ w2.heap.size := by have := HO.out.2.2; omega
        have hne' : g ≠ w2.heap.size := hne
        have HI0 := Lib.hid hinv0
        clear hinv0 hown3 hg3
        go_loopw [17] (fun i wr => ∃ j : Nat, j ≤ m ∧ i = .int .i64 j ∧ MvInv w.heap.size g cap w2.heap.size m X M w wr j) (fun i _ => m - (intOf i).toNat)
        case atStart => exact ⟨0, Nat.zero_le _, rfl, HI0.out⟩
        case round =>
          obtain ⟨j, hj, rfl, hinv⟩ := hrel
          by_cases hlt : j < m
          · have hx := HMJ2.out j hlt
            obtain ⟨⟨u, hu⟩, hfz, hXc⟩ := hinv.cells hlt HLM.out
            by_cases h0 : 0 ≤ (j : Int) + U
            · by_cases h1 : (j : Int) + U < m
              · obtain ⟨F, hF⟩ : ∃ F : Nat, (j : Int) + U = (F : Int) := ⟨((j : Int) + U).toNat, by omega⟩
                obtain ⟨x, hxx⟩ : ∃ x, X[F]? = some x := ⟨_, List.getElem?_eq_getElem (by have := HX.out; omega)⟩
                have he : movAt 13 m X U 0 j = x := by
                  unfold movAt
                  simp only [movFrom, if_true]
                  rw [if_pos (by omega), hF]
                  simp [hxx]
                rw [he] at hx
                have hst := Lib.hid (hinv.step2 (f := 0) hbase hne' HLM.out hx)
                have hcx := hXc F x hxx
                have hFm : F < m := by omega
                have hU1 : U < m := by omega
                clear hx hinv hXc hxx h0 h1 he
                go_wp2_with fail
                go_roundw
                case rel => exact ⟨j + 1, by omega, by go_num, hst.out⟩
                case measure => simp [intOf] <;> omega
              · have he : movAt 13 m X U 0 j = 0 := by unfold movAt; rw [if_neg (by simp only [movFrom, if_true]; omega)]
                rw [he] at hx
                have hst := Lib.hid (hinv.step hbase hne' HLM.out hx)
                clear hx hinv hXc
                go_wp2_with fail
                go_roundw
                case rel => exact ⟨j + 1, by omega, by go_num, hst.out⟩
                case measure => simp [intOf] <;> omega
            · exfalso; omega
          · obtain rfl : j = m := by omega
            have hl := HLM.out
            have hown := hinv.1
            have hbel := hinv.2.2
            rw [upto_all M j hl] at hown
            have hs := SlC.of_owns hown
            have HF := Lib.hid (refFrom_any k M (.slice (some ⟨w2.heap.size, 0, none⟩) j j) wr (by rw [hl]; exact hs) (by rw [hl]; omega))
            rw [hl, ← HM.out, Nat.min_self] at HF
            clear hs hown hl hinv
            go_wp2_with (first | (go_at_call 29; refine HF.out.mono ?_; rintro e w' ⟨rfl, rfl⟩))
            go_ret
            exact ⟨rfl, hbel⟩

end Go.Proofs.YtdjnekcpeaadhaaGreat
namespace Go.Proofs.YtdjnekcpeaadhaaGreat
open Go.RowKit
set_option linter.unusedSimpArgs false
set_option linter.unusedVariables false
set_option maxRecDepth 100000

theorem isk_wid {k a : Int} (h : isk k a = true) : 0 < wid k := by
  have h : decide (0 < width k) = true := by simp only [isk, Bool.and_eq_true] at h; exact h.1
  have := width_wid k
  simp at h; omega

set_option maxRecDepth 100000 in
set_option maxHeartbeats 1000000 in
theorem refBin_no1 (k a b : Int) (op : Int) (h1 : isk k a = false) (w : World) :
    Calls Tryz.prog 6 #[.int .i64 op, .int .i64 k, .int .i64 a, .int .i64 b] w fun e w' => e = .returned (.tuple #[.int .i64 (0), .int .i64 (0), .bool false]) ∧ Ext w w' := by
  go_enter Tryz.func6, Tryz.ntmps6
  go_wp2_with (first
    | (go_at_call 16; refine (refIs_any _ _ _).mono ?_; rintro e w1 ⟨rfl, rfl⟩))
  go_ret3
  exact ⟨rfl, (by repeat first | exact Ext.refl _ | assumption | refine Ext.drew ?_ | refine Ext.drewN ?_ _ | refine Ext.extBy ?_ _ | refine Ext.alloc ?_ _ | refine Ext.setCell ?_ (by simp; try omega) _ | (refine Ext.trans ?_ (by assumption)))⟩

set_option maxRecDepth 100000 in
set_option maxHeartbeats 1000000 in
theorem refBin_no2 (k a b : Int) (op : Int) (h1 : isk k a = true) (h2 : isk k b = false) (w : World) :
    Calls Tryz.prog 6 #[.int .i64 op, .int .i64 k, .int .i64 a, .int .i64 b] w fun e w' => e = .returned (.tuple #[.int .i64 (0), .int .i64 (0), .bool false]) ∧ Ext w w' := by
  go_enter Tryz.func6, Tryz.ntmps6
  go_wp2_with (first
    | (go_at_call 16; refine (refIs_any _ _ _).mono ?_; rintro e w1 ⟨rfl, rfl⟩))
  go_ret3
  exact ⟨rfl, (by repeat first | exact Ext.refl _ | assumption | refine Ext.drew ?_ | refine Ext.drewN ?_ _ | refine Ext.extBy ?_ _ | refine Ext.alloc ?_ _ | refine Ext.setCell ?_ (by simp; try omega) _ | (refine Ext.trans ?_ (by assumption)))⟩

set_option maxRecDepth 100000 in
set_option maxHeartbeats 1000000 in
theorem refBin_noB (a b : Int) (op : Int) (h1 : isk 1 a = true) (h2 : isk 1 b = true) (n8 : (op == 8) = false) (n9 : (op == 9) = false) (n10 : (op == 10) = false) (n11 : (op == 11) = false) (n14 : (op == 14) = false) (n15 : (op == 15) = false) (w : World) :
    Calls Tryz.prog 6 #[.int .i64 op, .int .i64 1, .int .i64 a, .int .i64 b] w fun e w' => e = .returned (.tuple #[.int .i64 (0), .int .i64 (0), .bool false]) ∧ Ext w w' := by
  go_enter Tryz.func6, Tryz.ntmps6
  go_wp2_with (first
    | (go_at_call 16; refine (refIs_any _ _ _).mono ?_; rintro e w1 ⟨rfl, rfl⟩))
  go_ret3
  exact ⟨rfl, (by repeat first | exact Ext.refl _ | assumption | refine Ext.drew ?_ | refine Ext.drewN ?_ _ | refine Ext.extBy ?_ _ | refine Ext.alloc ?_ _ | refine Ext.setCell ?_ (by simp; try omega) _ | (refine Ext.trans ?_ (by assumption)))⟩

set_option maxRecDepth 100000 in
set_option maxHeartbeats 1000000 in
theorem refBin_noK (k a b : Int) (op : Int) (hk : (k == 1) = false) (h1 : isk k a = true) (h2 : isk k b = true) (n3 : (op == 3) = false) (n4 : (op == 4) = false) (n5 : (op == 5) = false) (n6 : (op == 6) = false) (n7 : (op == 7) = false) (n8 : (op == 8) = false) (n9 : (op == 9) = false) (n10 : (op == 10) = false) (n12 : (op == 12) = false) (n13 : (op == 13) = false) (n14 : (op == 14) = false) (n15 : (op == 15) = false) (n16 : (op == 16) = false) (n17 : (op == 17) = false) (n18 : (op == 18) = false) (n19 : (op == 19) = false) (w : World) :
    Calls Tryz.prog 6 #[.int .i64 op, .int .i64 k, .int .i64 a, .int .i64 b] w fun e w' => e = .returned (.tuple #[.int .i64 (0), .int .i64 (0), .bool false]) ∧ Ext w w' := by
  go_enter Tryz.func6, Tryz.ntmps6
  go_wp2_with (first
    | (go_at_call 16; refine (refIs_any _ _ _).mono ?_; rintro e w1 ⟨rfl, rfl⟩))
  go_ret3
  exact ⟨rfl, (by repeat first | exact Ext.refl _ | assumption | refine Ext.drew ?_ | refine Ext.drewN ?_ _ | refine Ext.extBy ?_ _ | refine Ext.alloc ?_ _ | refine Ext.setCell ?_ (by simp; try omega) _ | (refine Ext.trans ?_ (by assumption)))⟩

set_option maxRecDepth 100000 in
set_option maxHeartbeats 1000000 in
theorem refBin_8b (a b : Int) (h1 : isk 1 a = true) (h2 : isk 1 b = true) (w : World) :
    Calls Tryz.prog 6 #[.int .i64 8, .int .i64 1, .int .i64 a, .int .i64 b] w fun e w' => e = .returned (.tuple #[.int .i64 (wkr 1 (bits .and .i64 a b)), .int .i64 (1), .bool true]) ∧ Ext w w' := by
  have hpos := isk_wid h1
  go_enter Tryz.func6, Tryz.ntmps6
  go_wp2_with (first
    | (go_at_call 16; refine (refIs_any _ _ _).mono ?_; rintro e w1 ⟨rfl, rfl⟩)
    | (go_at_call 17; refine (refBitwise_and _ _ _ (by assumption) _).mono ?_; rintro e w1 ⟨rfl, hx⟩; obtain ⟨t1, rfl⟩ := hx.tok))
  go_ret3
  exact ⟨by rw [← law_and]; rfl, (by repeat first | exact Ext.refl _ | assumption | refine Ext.drew ?_ | refine Ext.drewN ?_ _ | refine Ext.extBy ?_ _ | refine Ext.alloc ?_ _ | refine Ext.setCell ?_ (by simp; try omega) _ | (refine Ext.trans ?_ (by assumption)))⟩

set_option maxRecDepth 100000 in
set_option maxHeartbeats 1000000 in
theorem refBin_8k (k a b : Int) (hk : (k == 1) = false) (h1 : isk k a = true) (h2 : isk k b = true) (w : World) :
    Calls Tryz.prog 6 #[.int .i64 8, .int .i64 k, .int .i64 a, .int .i64 b] w fun e w' => e = .returned (.tuple #[.int .i64 (wkr k (bits .and .i64 a b)), .int .i64 (k), .bool true]) ∧ Ext w w' := by
  have hpos := isk_wid h1
  go_enter Tryz.func6, Tryz.ntmps6
  go_wp2_with (first
    | (go_at_call 16; refine (refIs_any _ _ _).mono ?_; rintro e w1 ⟨rfl, rfl⟩)
    | (go_at_call 17; refine (refBitwise_and _ _ _ (by assumption) _).mono ?_; rintro e w1 ⟨rfl, hx⟩; obtain ⟨t1, rfl⟩ := hx.tok))
  go_ret3
  exact ⟨by rw [← law_and]; rfl, (by repeat first | exact Ext.refl _ | assumption | refine Ext.drew ?_ | refine Ext.drewN ?_ _ | refine Ext.extBy ?_ _ | refine Ext.alloc ?_ _ | refine Ext.setCell ?_ (by simp; try omega) _ | (refine Ext.trans ?_ (by assumption)))⟩

set_option maxRecDepth 100000 in
set_option maxHeartbeats 1000000 in
theorem refBin_9b (a b : Int) (h1 : isk 1 a = true) (h2 : isk 1 b = true) (w : World) :
    Calls Tryz.prog 6 #[.int .i64 9, .int .i64 1, .int .i64 a, .int .i64 b] w fun e w' => e = .returned (.tuple #[.int .i64 (wkr 1 (bits .or .i64 a b)), .int .i64 (1), .bool true]) ∧ Ext w w' := by
  have hpos := isk_wid h1
  go_enter Tryz.func6, Tryz.ntmps6
  go_wp2_with (first
    | (go_at_call 16; refine (refIs_any _ _ _).mono ?_; rintro e w1 ⟨rfl, rfl⟩)
    | (go_at_call 17; refine (refBitwise_or _ _ _ (by assumption) _).mono ?_; rintro e w1 ⟨rfl, hx⟩; obtain ⟨t1, rfl⟩ := hx.tok))
  go_ret3
  exact ⟨by rw [← law_or]; rfl, (by repeat first | exact Ext.refl _ | assumption | refine Ext.drew ?_ | refine Ext.drewN ?_ _ | refine Ext.extBy ?_ _ | refine Ext.alloc ?_ _ | refine Ext.setCell ?_ (by simp; try omega) _ | (refine Ext.trans ?_ (by assumption)))⟩

set_option maxRecDepth 100000 in
set_option maxHeartbeats 1000000 in
theorem refBin_9k (k a b : Int) (hk : (k == 1) = false) (h1 : isk k a = true) (h2 : isk k b = true) (w : World) :
    Calls Tryz.prog 6 #[.int .i64 9, .int .i64 k, .int .i64 a, .int .i64 b] w fun e w' => e = .returned (.tuple #[.int .i64 (wkr k (bits .or .i64 a b)), .int .i64 (k), .bool true]) ∧ Ext w w' := by
  have hpos := isk_wid h1
  go_enter Tryz.func6, Tryz.ntmps6
  go_wp2_with (first
    | (go_at_call 16; refine (refIs_any _ _ _).mono ?_; rintro e w1 ⟨rfl, rfl⟩)
    | (go_at_call 17; refine (refBitwise_or _ _ _ (by assumption) _).mono ?_; rintro e w1 ⟨rfl, hx⟩; obtain ⟨t1, rfl⟩ := hx.tok))
  go_ret3
  exact ⟨by rw [← law_or]; rfl, (by repeat first | exact Ext.refl _ | assumption | refine Ext.drew ?_ | refine Ext.drewN ?_ _ | refine Ext.extBy ?_ _ | refine Ext.alloc ?_ _ | refine Ext.setCell ?_ (by simp; try omega) _ | (refine Ext.trans ?_ (by assumption)))⟩

set_option maxRecDepth 100000 in
set_option maxHeartbeats 1000000 in
theorem refBin_10b (a b : Int) (h1 : isk 1 a = true) (h2 : isk 1 b = true) (w : World) :
    Calls Tryz.prog 6 #[.int .i64 10, .int .i64 1, .int .i64 a, .int .i64 b] w fun e w' => e = .returned (.tuple #[.int .i64 (wkr 1 (bits .xor .i64 a b)), .int .i64 (1), .bool true]) ∧ Ext w w' := by
  have hpos := isk_wid h1
  go_enter Tryz.func6, Tryz.ntmps6
  go_wp2_with (first
    | (go_at_call 16; refine (refIs_any _ _ _).mono ?_; rintro e w1 ⟨rfl, rfl⟩)
    | (go_at_call 17; refine (refBitwise_xor _ _ _ (by assumption) _).mono ?_; rintro e w1 ⟨rfl, hx⟩; obtain ⟨t1, rfl⟩ := hx.tok))
  go_ret3
  exact ⟨by rw [← law_xor]; rfl, (by repeat first | exact Ext.refl _ | assumption | refine Ext.drew ?_ | refine Ext.drewN ?_ _ | refine Ext.extBy ?_ _ | refine Ext.alloc ?_ _ | refine Ext.setCell ?_ (by simp; try omega) _ | (refine Ext.trans ?_ (by assumption)))⟩

set_option maxRecDepth 100000 in
set_option maxHeartbeats 1000000 in
theorem refBin_10k (k a b : Int) (hk : (k == 1) = false) (h1 : isk k a = true) (h2 : isk k b = true) (w : World) :
    Calls Tryz.prog 6 #[.int .i64 10, .int .i64 k, .int .i64 a, .int .i64 b] w fun e w' => e = .returned (.tuple #[.int .i64 (wkr k (bits .xor .i64 a b)), .int .i64 (k), .bool true]) ∧ Ext w w' := by
  have hpos := isk_wid h1
  go_enter Tryz.func6, Tryz.ntmps6
  go_wp2_with (first
    | (go_at_call 16; refine (refIs_any _ _ _).mono ?_; rintro e w1 ⟨rfl, rfl⟩)
    | (go_at_call 17; refine (refBitwise_xor _ _ _ (by assumption) _).mono ?_; rintro e w1 ⟨rfl, hx⟩; obtain ⟨t1, rfl⟩ := hx.tok))
  go_ret3
  exact ⟨by rw [← law_xor]; rfl, (by repeat first | exact Ext.refl _ | assumption | refine Ext.drew ?_ | refine Ext.drewN ?_ _ | refine Ext.extBy ?_ _ | refine Ext.alloc ?_ _ | refine Ext.setCell ?_ (by simp; try omega) _ | (refine Ext.trans ?_ (by assumption)))⟩

set_option maxRecDepth 100000 in
set_option maxHeartbeats 1000000 in
theorem refBin_11b (a b : Int) (h1 : isk 1 a = true) (h2 : isk 1 b = true) (w : World) :
    Calls Tryz.prog 6 #[.int .i64 11, .int .i64 1, .int .i64 a, .int .i64 b] w fun e w' => e = .returned (.tuple #[.int .i64 (tru (a == 0 || b != 0)), .int .i64 1, .bool true]) ∧ Ext w w' := by
  have hb : a = 0 ∨ a = 1 := isk_one h1
  have hb2 : b = 0 ∨ b = 1 := isk_one h2
  rcases hb with rfl | rfl <;> rcases hb2 with rfl | rfl
  all_goals
    go_enter Tryz.func6, Tryz.ntmps6
    go_wp2_with (first
      | (go_at_call 16; refine (refIs_any _ _ _).mono ?_; rintro e w1 ⟨rfl, rfl⟩)
      | (go_at_call 18; refine (refTruth_any _ _).mono ?_; rintro e w1 ⟨rfl, rfl⟩))
    go_ret3
    exact ⟨rfl, (by repeat first | exact Ext.refl _ | assumption | refine Ext.drew ?_ | refine Ext.drewN ?_ _ | refine Ext.extBy ?_ _ | refine Ext.alloc ?_ _ | refine Ext.setCell ?_ (by simp; try omega) _ | (refine Ext.trans ?_ (by assumption)))⟩

set_option maxRecDepth 100000 in
set_option maxHeartbeats 1000000 in
theorem refBin_14b (a b : Int) (h1 : isk 1 a = true) (h2 : isk 1 b = true) (w : World) :
    Calls Tryz.prog 6 #[.int .i64 14, .int .i64 1, .int .i64 a, .int .i64 b] w fun e w' => e = .returned (.tuple #[.int .i64 (tru (a == b)), .int .i64 (1), .bool true]) ∧ Ext w w' := by
  go_enter Tryz.func6, Tryz.ntmps6
  go_wp2_with (first
    | (go_at_call 16; refine (refIs_any _ _ _).mono ?_; rintro e w1 ⟨rfl, rfl⟩)
    | (go_at_call 18; refine (refTruth_any _ _).mono ?_; rintro e w1 ⟨rfl, rfl⟩))
  go_ret3
  exact ⟨rfl, (by repeat first | exact Ext.refl _ | assumption | refine Ext.drew ?_ | refine Ext.drewN ?_ _ | refine Ext.extBy ?_ _ | refine Ext.alloc ?_ _ | refine Ext.setCell ?_ (by simp; try omega) _ | (refine Ext.trans ?_ (by assumption)))⟩

set_option maxRecDepth 100000 in
set_option maxHeartbeats 1000000 in
theorem refBin_14k (k a b : Int) (hk : (k == 1) = false) (h1 : isk k a = true) (h2 : isk k b = true) (w : World) :
    Calls Tryz.prog 6 #[.int .i64 14, .int .i64 k, .int .i64 a, .int .i64 b] w fun e w' => e = .returned (.tuple #[.int .i64 (tru (a == b)), .int .i64 (1), .bool true]) ∧ Ext w w' := by
  go_enter Tryz.func6, Tryz.ntmps6
  go_wp2_with (first
    | (go_at_call 16; refine (refIs_any _ _ _).mono ?_; rintro e w1 ⟨rfl, rfl⟩)
    | (go_at_call 18; refine (refTruth_any _ _).mono ?_; rintro e w1 ⟨rfl, rfl⟩))
  go_ret3
  exact ⟨rfl, (by repeat first | exact Ext.refl _ | assumption | refine Ext.drew ?_ | refine Ext.drewN ?_ _ | refine Ext.extBy ?_ _ | refine Ext.alloc ?_ _ | refine Ext.setCell ?_ (by simp; try omega) _ | (refine Ext.trans ?_ (by assumption)))⟩

set_option maxRecDepth 100000 in
set_option maxHeartbeats 1000000 in
theorem refBin_15b (a b : Int) (h1 : isk 1 a = true) (h2 : isk 1 b = true) (w : World) :
    Calls Tryz.prog 6 #[.int .i64 15, .int .i64 1, .int .i64 a, .int .i64 b] w fun e w' => e = .returned (.tuple #[.int .i64 (tru (a != b)), .int .i64 (1), .bool true]) ∧ Ext w w' := by
  go_enter Tryz.func6, Tryz.ntmps6
  go_wp2_with (first
    | (go_at_call 16; refine (refIs_any _ _ _).mono ?_; rintro e w1 ⟨rfl, rfl⟩)
    | (go_at_call 18; refine (refTruth_any _ _).mono ?_; rintro e w1 ⟨rfl, rfl⟩))
  go_ret3
  exact ⟨rfl, (by repeat first | exact Ext.refl _ | assumption | refine Ext.drew ?_ | refine Ext.drewN ?_ _ | refine Ext.extBy ?_ _ | refine Ext.alloc ?_ _ | refine Ext.setCell ?_ (by simp; try omega) _ | (refine Ext.trans ?_ (by assumption)))⟩

set_option maxRecDepth 100000 in
set_option maxHeartbeats 1000000 in
theorem refBin_15k (k a b : Int) (hk : (k == 1) = false) (h1 : isk k a = true) (h2 : isk k b = true) (w : World) :
    Calls Tryz.prog 6 #[.int .i64 15, .int .i64 k, .int .i64 a, .int .i64 b] w fun e w' => e = .returned (.tuple #[.int .i64 (tru (a != b)), .int .i64 (1), .bool true]) ∧ Ext w w' := by
  go_enter Tryz.func6, Tryz.ntmps6
  go_wp2_with (first
    | (go_at_call 16; refine (refIs_any _ _ _).mono ?_; rintro e w1 ⟨rfl, rfl⟩)
    | (go_at_call 18; refine (refTruth_any _ _).mono ?_; rintro e w1 ⟨rfl, rfl⟩))
  go_ret3
  exact ⟨rfl, (by repeat first | exact Ext.refl _ | assumption | refine Ext.drew ?_ | refine Ext.drewN ?_ _ | refine Ext.extBy ?_ _ | refine Ext.alloc ?_ _ | refine Ext.setCell ?_ (by simp; try omega) _ | (refine Ext.trans ?_ (by assumption)))⟩

set_option maxRecDepth 100000 in
set_option maxHeartbeats 1000000 in
theorem refBin_16k (k a b : Int) (hk : (k == 1) = false) (h1 : isk k a = true) (h2 : isk k b = true) (ha : I64 a) (hb : I64 b) (w : World) :
    Calls Tryz.prog 6 #[.int .i64 16, .int .i64 k, .int .i64 a, .int .i64 b] w fun e w' => e = .returned (.tuple #[.int .i64 (tru (blw k a b)), .int .i64 (1), .bool true]) ∧ Ext w w' := by
  go_enter Tryz.func6, Tryz.ntmps6
  go_wp2_with (first
    | (go_at_call 16; refine (refIs_any _ _ _).mono ?_; rintro e w1 ⟨rfl, rfl⟩)
    | (go_at_call 18; refine (refTruth_any _ _).mono ?_; rintro e w1 ⟨rfl, rfl⟩)
    | (go_at_call 21; refine (refBelow_any _ _ _ (by assumption) (by assumption) _).mono ?_; rintro e w1 ⟨rfl, rfl⟩))
  go_ret3
  exact ⟨rfl, (by repeat first | exact Ext.refl _ | assumption | refine Ext.drew ?_ | refine Ext.drewN ?_ _ | refine Ext.extBy ?_ _ | refine Ext.alloc ?_ _ | refine Ext.setCell ?_ (by simp; try omega) _ | (refine Ext.trans ?_ (by assumption)))⟩

set_option maxRecDepth 100000 in
set_option maxHeartbeats 1000000 in
theorem refBin_17k (k a b : Int) (hk : (k == 1) = false) (h1 : isk k a = true) (h2 : isk k b = true) (ha : I64 a) (hb : I64 b) (w : World) :
    Calls Tryz.prog 6 #[.int .i64 17, .int .i64 k, .int .i64 a, .int .i64 b] w fun e w' => e = .returned (.tuple #[.int .i64 (tru (!(blw k b a))), .int .i64 (1), .bool true]) ∧ Ext w w' := by
  go_enter Tryz.func6, Tryz.ntmps6
  go_wp2_with (first
    | (go_at_call 16; refine (refIs_any _ _ _).mono ?_; rintro e w1 ⟨rfl, rfl⟩)
    | (go_at_call 18; refine (refTruth_any _ _).mono ?_; rintro e w1 ⟨rfl, rfl⟩)
    | (go_at_call 21; refine (refBelow_any _ _ _ (by assumption) (by assumption) _).mono ?_; rintro e w1 ⟨rfl, rfl⟩))
  go_ret3
  exact ⟨rfl, (by repeat first | exact Ext.refl _ | assumption | refine Ext.drew ?_ | refine Ext.drewN ?_ _ | refine Ext.extBy ?_ _ | refine Ext.alloc ?_ _ | refine Ext.setCell ?_ (by simp; try omega) _ | (refine Ext.trans ?_ (by assumption)))⟩

set_option maxRecDepth 100000 in
set_option maxHeartbeats 1000000 in
theorem refBin_18k (k a b : Int) (hk : (k == 1) = false) (h1 : isk k a = true) (h2 : isk k b = true) (ha : I64 a) (hb : I64 b) (w : World) :
    Calls Tryz.prog 6 #[.int .i64 18, .int .i64 k, .int .i64 a, .int .i64 b] w fun e w' => e = .returned (.tuple #[.int .i64 (tru (blw k b a)), .int .i64 (1), .bool true]) ∧ Ext w w' := by
  go_enter Tryz.func6, Tryz.ntmps6
  go_wp2_with (first
    | (go_at_call 16; refine (refIs_any _ _ _).mono ?_; rintro e w1 ⟨rfl, rfl⟩)
    | (go_at_call 18; refine (refTruth_any _ _).mono ?_; rintro e w1 ⟨rfl, rfl⟩)
    | (go_at_call 21; refine (refBelow_any _ _ _ (by assumption) (by assumption) _).mono ?_; rintro e w1 ⟨rfl, rfl⟩))
  go_ret3
  exact ⟨rfl, (by repeat first | exact Ext.refl _ | assumption | refine Ext.drew ?_ | refine Ext.drewN ?_ _ | refine Ext.extBy ?_ _ | refine Ext.alloc ?_ _ | refine Ext.setCell ?_ (by simp; try omega) _ | (refine Ext.trans ?_ (by assumption)))⟩

set_option maxRecDepth 100000 in
set_option maxHeartbeats 1000000 in
theorem refBin_19k (k a b : Int) (hk : (k == 1) = false) (h1 : isk k a = true) (h2 : isk k b = true) (ha : I64 a) (hb : I64 b) (w : World) :
    Calls Tryz.prog 6 #[.int .i64 19, .int .i64 k, .int .i64 a, .int .i64 b] w fun e w' => e = .returned (.tuple #[.int .i64 (tru (!(blw k a b))), .int .i64 (1), .bool true]) ∧ Ext w w' := by
  go_enter Tryz.func6, Tryz.ntmps6
  go_wp2_with (first
    | (go_at_call 16; refine (refIs_any _ _ _).mono ?_; rintro e w1 ⟨rfl, rfl⟩)
    | (go_at_call 18; refine (refTruth_any _ _).mono ?_; rintro e w1 ⟨rfl, rfl⟩)
    | (go_at_call 21; refine (refBelow_any _ _ _ (by assumption) (by assumption) _).mono ?_; rintro e w1 ⟨rfl, rfl⟩))
  go_ret3
  exact ⟨rfl, (by repeat first | exact Ext.refl _ | assumption | refine Ext.drew ?_ | refine Ext.drewN ?_ _ | refine Ext.extBy ?_ _ | refine Ext.alloc ?_ _ | refine Ext.setCell ?_ (by simp; try omega) _ | (refine Ext.trans ?_ (by assumption)))⟩

set_option maxRecDepth 100000 in
set_option maxHeartbeats 1000000 in
theorem refBin_3k (k a b : Int) (hk : (k == 1) = false) (h1 : isk k a = true) (h2 : isk k b = true) (w : World) :
    Calls Tryz.prog 6 #[.int .i64 3, .int .i64 k, .int .i64 a, .int .i64 b] w fun e w' => e = .returned (.tuple #[.int .i64 (wkr k (wrap64 (a + b))), .int .i64 (k), .bool true]) ∧ Ext w w' := by
  go_enter Tryz.func6, Tryz.ntmps6
  go_wp2_with (first
    | (go_at_call 16; refine (refIs_any _ _ _).mono ?_; rintro e w1 ⟨rfl, rfl⟩)
    | (go_at_call 5; refine (refWrap_any _ _ _).mono ?_; rintro e w1 ⟨rfl, rfl⟩))
  go_ret3
  exact ⟨rfl, (by repeat first | exact Ext.refl _ | assumption | refine Ext.drew ?_ | refine Ext.drewN ?_ _ | refine Ext.extBy ?_ _ | refine Ext.alloc ?_ _ | refine Ext.setCell ?_ (by simp; try omega) _ | (refine Ext.trans ?_ (by assumption)))⟩

set_option maxRecDepth 100000 in
set_option maxHeartbeats 1000000 in
theorem refBin_4k (k a b : Int) (hk : (k == 1) = false) (h1 : isk k a = true) (h2 : isk k b = true) (w : World) :
    Calls Tryz.prog 6 #[.int .i64 4, .int .i64 k, .int .i64 a, .int .i64 b] w fun e w' => e = .returned (.tuple #[.int .i64 (wkr k (wrap64 (a - b))), .int .i64 (k), .bool true]) ∧ Ext w w' := by
  go_enter Tryz.func6, Tryz.ntmps6
  go_wp2_with (first
    | (go_at_call 16; refine (refIs_any _ _ _).mono ?_; rintro e w1 ⟨rfl, rfl⟩)
    | (go_at_call 5; refine (refWrap_any _ _ _).mono ?_; rintro e w1 ⟨rfl, rfl⟩))
  go_ret3
  exact ⟨rfl, (by repeat first | exact Ext.refl _ | assumption | refine Ext.drew ?_ | refine Ext.drewN ?_ _ | refine Ext.extBy ?_ _ | refine Ext.alloc ?_ _ | refine Ext.setCell ?_ (by simp; try omega) _ | (refine Ext.trans ?_ (by assumption)))⟩

set_option maxRecDepth 100000 in
set_option maxHeartbeats 1000000 in
theorem refBin_5k (k a b : Int) (hk : (k == 1) = false) (h1 : isk k a = true) (h2 : isk k b = true) (w : World) :
    Calls Tryz.prog 6 #[.int .i64 5, .int .i64 k, .int .i64 a, .int .i64 b] w fun e w' => e = .returned (.tuple #[.int .i64 (wkr k (wrap64 (a * b))), .int .i64 (k), .bool true]) ∧ Ext w w' := by
  go_enter Tryz.func6, Tryz.ntmps6
  go_wp2_with (first
    | (go_at_call 16; refine (refIs_any _ _ _).mono ?_; rintro e w1 ⟨rfl, rfl⟩)
    | (go_at_call 5; refine (refWrap_any _ _ _).mono ?_; rintro e w1 ⟨rfl, rfl⟩))
  go_ret3
  exact ⟨rfl, (by repeat first | exact Ext.refl _ | assumption | refine Ext.drew ?_ | refine Ext.drewN ?_ _ | refine Ext.extBy ?_ _ | refine Ext.alloc ?_ _ | refine Ext.setCell ?_ (by simp; try omega) _ | (refine Ext.trans ?_ (by assumption)))⟩

set_option maxRecDepth 100000 in
set_option maxHeartbeats 1000000 in
theorem refBin_6k (k a b : Int) (hk : (k == 1) = false) (h1 : isk k a = true) (h2 : isk k b = true) (hb : I64 b) (w : World) :
    Calls Tryz.prog 6 #[.int .i64 6, .int .i64 k, .int .i64 a, .int .i64 b] w fun e w' => e = .returned (.tuple #[.int .i64 (wkr k (divv k a b)), .int .i64 k, .bool true]) ∧ Ext w w' := by
  have hn : k ≠ 1 := by simpa using hk
  by_cases h0 : b = 0
  · subst h0
    have HV := Lib.hid (show divv k a 0 = 0 from rfl)
    go_enter Tryz.func6, Tryz.ntmps6
    go_wp2_with (first | (go_at_call 16; refine (refIs_any _ _ _).mono ?_; rintro e w1 ⟨rfl, rfl⟩) | (go_at_call 5; refine (refWrap_any _ _ _).mono ?_; rintro e w1 ⟨rfl, rfl⟩))
    go_ret3
    exact ⟨by rw [HV.out]; rfl, (by repeat first | exact Ext.refl _ | assumption | refine Ext.drew ?_ | refine Ext.drewN ?_ _ | refine Ext.extBy ?_ _ | refine Ext.alloc ?_ _ | refine Ext.setCell ?_ (by simp; try omega) _ | (refine Ext.trans ?_ (by assumption)))⟩
  have b0 : (b == 0) = false := by simpa using h0
  by_cases h9 : k = 9
  · subst h9
    have hbz : b % 18446744073709551616 ≠ 0 := by unfold I64 at hb; omega
    have e : divv 9 a b = wrap64 (a % 18446744073709551616 / (b % 18446744073709551616)) := by
      unfold divv; rw [if_neg h0, if_pos rfl]; exact law_div9 a b hbz
    have HV := Lib.hid e
    have HD := Lib.hid (fun (w : World) => refDivide_any a b hb h0 w)
    clear e hbz
    go_enter Tryz.func6, Tryz.ntmps6
    go_wp2_with (first | (go_at_call 16; refine (refIs_any _ _ _).mono ?_; rintro e w1 ⟨rfl, rfl⟩) | (go_at_call 5; refine (refWrap_any _ _ _).mono ?_; rintro e w1 ⟨rfl, rfl⟩) | (go_at_call 19; refine (HD.out _).mono ?_; rintro e w1 ⟨rfl, rfl⟩))
    go_ret3
    exact ⟨by rw [HV.out]; rfl, (by repeat first | exact Ext.refl _ | assumption | refine Ext.drew ?_ | refine Ext.drewN ?_ _ | refine Ext.extBy ?_ _ | refine Ext.alloc ?_ _ | refine Ext.setCell ?_ (by simp; try omega) _ | (refine Ext.trans ?_ (by assumption)))⟩
  have b9 : (k == 9) = false := by simpa using h9
  by_cases hm : b = -1
  · subst hm
    have HV := Lib.hid (show divv k a (-1) = wrap64 (-a) from by unfold divv; rw [if_neg h0, if_neg h9, if_pos rfl])
    go_enter Tryz.func6, Tryz.ntmps6
    go_wp2_with (first | (go_at_call 16; refine (refIs_any _ _ _).mono ?_; rintro e w1 ⟨rfl, rfl⟩) | (go_at_call 5; refine (refWrap_any _ _ _).mono ?_; rintro e w1 ⟨rfl, rfl⟩))
    go_ret3
    exact ⟨by rw [HV.out]; rfl, (by repeat first | exact Ext.refl _ | assumption | refine Ext.drew ?_ | refine Ext.drewN ?_ _ | refine Ext.extBy ?_ _ | refine Ext.alloc ?_ _ | refine Ext.setCell ?_ (by simp; try omega) _ | (refine Ext.trans ?_ (by assumption)))⟩
  · have bm : (b == -1) = false := by simpa using hm
    have HV := Lib.hid (show divv k a b = wrap64 (a.tdiv b) from by unfold divv; rw [if_neg h0, if_neg h9, if_neg hm])
    go_enter Tryz.func6, Tryz.ntmps6
    go_wp2_with (first | (go_at_call 16; refine (refIs_any _ _ _).mono ?_; rintro e w1 ⟨rfl, rfl⟩) | (go_at_call 5; refine (refWrap_any _ _ _).mono ?_; rintro e w1 ⟨rfl, rfl⟩))
    go_ret3
    exact ⟨by rw [HV.out]; rfl, (by repeat first | exact Ext.refl _ | assumption | refine Ext.drew ?_ | refine Ext.drewN ?_ _ | refine Ext.extBy ?_ _ | refine Ext.alloc ?_ _ | refine Ext.setCell ?_ (by simp; try omega) _ | (refine Ext.trans ?_ (by assumption)))⟩

set_option maxRecDepth 100000 in
set_option maxHeartbeats 1000000 in
theorem refBin_7k (k a b : Int) (hk : (k == 1) = false) (h1 : isk k a = true) (h2 : isk k b = true) (hb : I64 b) (w : World) :
    Calls Tryz.prog 6 #[.int .i64 7, .int .i64 k, .int .i64 a, .int .i64 b] w fun e w' => e = .returned (.tuple #[.int .i64 (wkr k (modv k a b)), .int .i64 k, .bool true]) ∧ Ext w w' := by
  have hn : k ≠ 1 := by simpa using hk
  by_cases h0 : b = 0
  · subst h0
    have HV := Lib.hid (show modv k a 0 = 0 from rfl)
    go_enter Tryz.func6, Tryz.ntmps6
    go_wp2_with (first | (go_at_call 16; refine (refIs_any _ _ _).mono ?_; rintro e w1 ⟨rfl, rfl⟩) | (go_at_call 5; refine (refWrap_any _ _ _).mono ?_; rintro e w1 ⟨rfl, rfl⟩))
    go_ret3
    exact ⟨by rw [HV.out]; rfl, (by repeat first | exact Ext.refl _ | assumption | refine Ext.drew ?_ | refine Ext.drewN ?_ _ | refine Ext.extBy ?_ _ | refine Ext.alloc ?_ _ | refine Ext.setCell ?_ (by simp; try omega) _ | (refine Ext.trans ?_ (by assumption)))⟩
  have b0 : (b == 0) = false := by simpa using h0
  by_cases h9 : k = 9
  · subst h9
    have hbz : b % 18446744073709551616 ≠ 0 := by unfold I64 at hb; omega
    have e : modv 9 a b = wrap64 (a % 18446744073709551616 % (b % 18446744073709551616)) := by
      unfold modv; rw [if_neg h0, if_pos rfl]; exact law_mod9 a b
    have HV := Lib.hid e
    have HD := Lib.hid (fun (w : World) => refDivide_any a b hb h0 w)
    clear e hbz
    go_enter Tryz.func6, Tryz.ntmps6
    go_wp2_with (first | (go_at_call 16; refine (refIs_any _ _ _).mono ?_; rintro e w1 ⟨rfl, rfl⟩) | (go_at_call 5; refine (refWrap_any _ _ _).mono ?_; rintro e w1 ⟨rfl, rfl⟩) | (go_at_call 19; refine (HD.out _).mono ?_; rintro e w1 ⟨rfl, rfl⟩))
    go_ret3
    exact ⟨by rw [HV.out]; rfl, (by repeat first | exact Ext.refl _ | assumption | refine Ext.drew ?_ | refine Ext.drewN ?_ _ | refine Ext.extBy ?_ _ | refine Ext.alloc ?_ _ | refine Ext.setCell ?_ (by simp; try omega) _ | (refine Ext.trans ?_ (by assumption)))⟩
  have b9 : (k == 9) = false := by simpa using h9
  by_cases hm : b = -1
  · subst hm
    have HV := Lib.hid (show modv k a (-1) = 0 from by unfold modv; rw [if_neg h0, if_neg h9, if_pos rfl])
    go_enter Tryz.func6, Tryz.ntmps6
    go_wp2_with (first | (go_at_call 16; refine (refIs_any _ _ _).mono ?_; rintro e w1 ⟨rfl, rfl⟩) | (go_at_call 5; refine (refWrap_any _ _ _).mono ?_; rintro e w1 ⟨rfl, rfl⟩))
    go_ret3
    exact ⟨by rw [HV.out]; rfl, (by repeat first | exact Ext.refl _ | assumption | refine Ext.drew ?_ | refine Ext.drewN ?_ _ | refine Ext.extBy ?_ _ | refine Ext.alloc ?_ _ | refine Ext.setCell ?_ (by simp; try omega) _ | (refine Ext.trans ?_ (by assumption)))⟩
  · have bm : (b == -1) = false := by simpa using hm
    have HV := Lib.hid (show modv k a b = a.tmod b from by unfold modv; rw [if_neg h0, if_neg h9, if_neg hm])
    go_enter Tryz.func6, Tryz.ntmps6
    go_wp2_with (first | (go_at_call 16; refine (refIs_any _ _ _).mono ?_; rintro e w1 ⟨rfl, rfl⟩) | (go_at_call 5; refine (refWrap_any _ _ _).mono ?_; rintro e w1 ⟨rfl, rfl⟩))
    go_ret3
    exact ⟨by rw [HV.out]; rfl, (by repeat first | exact Ext.refl _ | assumption | refine Ext.drew ?_ | refine Ext.drewN ?_ _ | refine Ext.extBy ?_ _ | refine Ext.alloc ?_ _ | refine Ext.setCell ?_ (by simp; try omega) _ | (refine Ext.trans ?_ (by assumption)))⟩

set_option maxRecDepth 100000 in
set_option maxHeartbeats 1000000 in
theorem refBin_12k (k a b : Int) (hk : (k == 1) = false) (h1 : isk k a = true) (h2 : isk k b = true) (w : World) :
    Calls Tryz.prog 6 #[.int .i64 12, .int .i64 k, .int .i64 a, .int .i64 b] w fun e w' => e = .returned (.tuple #[.int .i64 (wkr k (shlv k a k b)), .int .i64 (k), .bool true]) ∧ Ext w w' := by
  have hpos := isk_wid h1
  go_enter Tryz.func6, Tryz.ntmps6
  go_wp2_with (first
    | (go_at_call 16; refine (refIs_any _ _ _).mono ?_; rintro e w1 ⟨rfl, rfl⟩)
    | (go_at_call 20; refine (refMoved_shl _ _ _ hpos _).mono ?_; rintro e w1 ⟨rfl, hx⟩; obtain ⟨t1, rfl⟩ := hx.tok))
  go_ret3
  exact ⟨by rw [← law_shl]; rfl, (by repeat first | exact Ext.refl _ | assumption | refine Ext.drew ?_ | refine Ext.drewN ?_ _ | refine Ext.extBy ?_ _ | refine Ext.alloc ?_ _ | refine Ext.setCell ?_ (by simp; try omega) _ | (refine Ext.trans ?_ (by assumption)))⟩

set_option maxRecDepth 100000 in
set_option maxHeartbeats 1000000 in
theorem refBin_13k (k a b : Int) (hk : (k == 1) = false) (h1 : isk k a = true) (h2 : isk k b = true) (ha : I64 a) (w : World) :
    Calls Tryz.prog 6 #[.int .i64 13, .int .i64 k, .int .i64 a, .int .i64 b] w fun e w' => e = .returned (.tuple #[.int .i64 (wkr k (shrv k a k b)), .int .i64 k, .bool true]) ∧ Ext w w' := by
  have hpos := isk_wid h1
  cases hs : sgn k
  · have HV := Lib.hid (law_shr_u k a b hs)
    go_enter Tryz.func6, Tryz.ntmps6
    go_wp2_with (first | (go_at_call 16; refine (refIs_any _ _ _).mono ?_; rintro e w1 ⟨rfl, rfl⟩) | (go_at_call 20; refine (refMoved_shr _ _ _ hpos hs _).mono ?_; rintro e w1 ⟨rfl, hx⟩; obtain ⟨t1, rfl⟩ := hx.tok))
    go_ret3
    exact ⟨by rw [← HV.out]; rfl, (by repeat first | exact Ext.refl _ | assumption | refine Ext.drew ?_ | refine Ext.drewN ?_ _ | refine Ext.extBy ?_ _ | refine Ext.alloc ?_ _ | refine Ext.setCell ?_ (by simp; try omega) _ | (refine Ext.trans ?_ (by assumption)))⟩
  by_cases hn : a < 0
  · have e := law_shr_s k a b ha hs h1
    rw [if_pos hn] at e
    have HV := Lib.hid e
    clear e
    go_enter Tryz.func6, Tryz.ntmps6
    go_wp2_with (first | (go_at_call 16; refine (refIs_any _ _ _).mono ?_; rintro e w1 ⟨rfl, rfl⟩) | (go_at_call 20; refine (refMoved_sar _ _ _ hpos hs hn _).mono ?_; rintro e w1 ⟨rfl, hx⟩; obtain ⟨t1, rfl⟩ := hx.tok))
    go_ret3
    exact ⟨by rw [← HV.out]; rfl, (by repeat first | exact Ext.refl _ | assumption | refine Ext.drew ?_ | refine Ext.drewN ?_ _ | refine Ext.extBy ?_ _ | refine Ext.alloc ?_ _ | refine Ext.setCell ?_ (by simp; try omega) _ | (refine Ext.trans ?_ (by assumption)))⟩
  · have e := law_shr_s k a b ha hs h1
    rw [if_neg hn] at e
    have HV := Lib.hid e
    clear e
    have HF := Lib.hid (fun (w : World) => refMoved_spr k a b hpos hs hn w)
    go_enter Tryz.func6, Tryz.ntmps6
    go_wp2_with (first | (go_at_call 16; refine (refIs_any _ _ _).mono ?_; rintro e w1 ⟨rfl, rfl⟩) | (go_at_call 20; refine (HF.out _).mono ?_; rintro e w1 ⟨rfl, hx⟩; obtain ⟨t1, rfl⟩ := hx.tok))
    go_ret3
    exact ⟨by rw [← HV.out]; rfl, (by repeat first | exact Ext.refl _ | assumption | refine Ext.drew ?_ | refine Ext.drewN ?_ _ | refine Ext.extBy ?_ _ | refine Ext.alloc ?_ _ | refine Ext.setCell ?_ (by simp; try omega) _ | (refine Ext.trans ?_ (by assumption)))⟩


theorem refBin_any (op k a b : Int) (ha : I64 a) (hb : I64 b) (w : World) :
    Calls Tryz.prog 6 #[.int .i64 op, .int .i64 k, .int .i64 a, .int .i64 b] w fun e w' => e = .returned (.tuple #[.int .i64 (binv op k a b).1, .int .i64 (binv op k a b).2.1, .bool (binv op k a b).2.2]) ∧ Ext w w' := by
  cases h1 : isk k a
  · rw [binv_no (by simp [binOk, h1])]; exact refBin_no1 k a b op h1 w
  cases h2 : isk k b
  · rw [binv_no (by simp [binOk, h2])]; exact refBin_no2 k a b op h1 h2 w
  by_cases hk : k = 1
  · subst hk
    by_cases h : op = 8 ∨ op = 9 ∨ op = 10 ∨ op = 11 ∨ op = 14 ∨ op = 15
    · rcases h with rfl | rfl | rfl | rfl | rfl | rfl
      · rw [binv_yes (by first | (simp [binOk, h1, h2, fits_b, opOf, f31]; done) | (simp [binOk, h1, h2, fits_b, opOf, f11]; done))]; exact refBin_8b a b h1 h2 w
      · rw [binv_yes (by first | (simp [binOk, h1, h2, fits_b, opOf, f31]; done) | (simp [binOk, h1, h2, fits_b, opOf, f11]; done))]; exact refBin_9b a b h1 h2 w
      · rw [binv_yes (by first | (simp [binOk, h1, h2, fits_b, opOf, f31]; done) | (simp [binOk, h1, h2, fits_b, opOf, f11]; done))]; exact refBin_10b a b h1 h2 w
      · rw [binv_yes (by first | (simp [binOk, h1, h2, fits_b, opOf]; done) | (simp [binOk, h1, h2, fits_b, opOf, f11]; done))]; exact refBin_11b a b h1 h2 w
      · rw [binv_yes (by first | (simp [binOk, h1, h2, fits_b, opOf, f31]; done) | (simp [binOk, h1, h2, fits_b, opOf, f11]; done))]; exact refBin_14b a b h1 h2 w
      · rw [binv_yes (by first | (simp [binOk, h1, h2, fits_b, opOf, f31]; done) | (simp [binOk, h1, h2, fits_b, opOf, f11]; done))]; exact refBin_15b a b h1 h2 w
    · have hno : binOk op 1 a b = false := by
        by_cases h0 : op < 0
        · simp [binOk, Int.not_le.2 h0]
        by_cases h20 : 20 ≤ op
        · simp [binOk, opOf_big op.toNat (by omega), fits0]
        have h5 : op = 0 ∨ op = 1 ∨ op = 2 ∨ op = 3 ∨ op = 4 ∨ op = 5 ∨ op = 6 ∨ op = 7 ∨ op = 12 ∨ op = 13 ∨ op = 16 ∨ op = 17 ∨ op = 18 ∨ op = 19 := by omega
        rcases h5 with rfl | rfl | rfl | rfl | rfl | rfl | rfl | rfl | rfl | rfl | rfl | rfl | rfl | rfl <;> simp [binOk, fits_b, opOf, f21, f01]
      rw [binv_no hno]
      simp only [not_or] at h
      exact refBin_noB a b op h1 h2 (by simpa using h.1) (by simpa using h.2.1) (by simpa using h.2.2.1) (by simpa using h.2.2.2.1) (by simpa using h.2.2.2.2.1) (by simpa using h.2.2.2.2.2) w
  · have hk' : (k == 1) = false := by simpa using hk
    by_cases h : op = 3 ∨ op = 4 ∨ op = 5 ∨ op = 6 ∨ op = 7 ∨ op = 8 ∨ op = 9 ∨ op = 10 ∨ op = 12 ∨ op = 13 ∨ op = 14 ∨ op = 15 ∨ op = 16 ∨ op = 17 ∨ op = 18 ∨ op = 19
    · rcases h with rfl | rfl | rfl | rfl | rfl | rfl | rfl | rfl | rfl | rfl | rfl | rfl | rfl | rfl | rfl | rfl
      · rw [binv_yes (by first | (simp [binOk, h1, h2, fits_k hk', opOf, f22]; done) | (simp [binOk, h1, h2, fits_k hk', opOf, f32]; done))]; exact refBin_3k k a b hk' h1 h2 w
      · rw [binv_yes (by first | (simp [binOk, h1, h2, fits_k hk', opOf, f22]; done) | (simp [binOk, h1, h2, fits_k hk', opOf, f32]; done))]; exact refBin_4k k a b hk' h1 h2 w
      · rw [binv_yes (by first | (simp [binOk, h1, h2, fits_k hk', opOf, f22]; done) | (simp [binOk, h1, h2, fits_k hk', opOf, f32]; done))]; exact refBin_5k k a b hk' h1 h2 w
      · rw [binv_yes (by first | (simp [binOk, h1, h2, fits_k hk', opOf, f22]; done) | (simp [binOk, h1, h2, fits_k hk', opOf, f32]; done))]; exact refBin_6k k a b hk' h1 h2 hb w
      · rw [binv_yes (by first | (simp [binOk, h1, h2, fits_k hk', opOf, f22]; done) | (simp [binOk, h1, h2, fits_k hk', opOf, f32]; done))]; exact refBin_7k k a b hk' h1 h2 hb w
      · rw [binv_yes (by first | (simp [binOk, h1, h2, fits_k hk', opOf]; done) | (simp [binOk, h1, h2, fits_k hk', opOf, f32]; done))]; exact refBin_8k k a b hk' h1 h2 w
      · rw [binv_yes (by first | (simp [binOk, h1, h2, fits_k hk', opOf]; done) | (simp [binOk, h1, h2, fits_k hk', opOf, f32]; done))]; exact refBin_9k k a b hk' h1 h2 w
      · rw [binv_yes (by first | (simp [binOk, h1, h2, fits_k hk', opOf]; done) | (simp [binOk, h1, h2, fits_k hk', opOf, f32]; done))]; exact refBin_10k k a b hk' h1 h2 w
      · rw [binv_yes (by first | (simp [binOk, h1, h2, fits_k hk', opOf, f22]; done) | (simp [binOk, h1, h2, fits_k hk', opOf, f32]; done))]; exact refBin_12k k a b hk' h1 h2 w
      · rw [binv_yes (by first | (simp [binOk, h1, h2, fits_k hk', opOf, f22]; done) | (simp [binOk, h1, h2, fits_k hk', opOf, f32]; done))]; exact refBin_13k k a b hk' h1 h2 ha w
      · rw [binv_yes (by first | (simp [binOk, h1, h2, fits_k hk', opOf]; done) | (simp [binOk, h1, h2, fits_k hk', opOf, f32]; done))]; exact refBin_14k k a b hk' h1 h2 w
      · rw [binv_yes (by first | (simp [binOk, h1, h2, fits_k hk', opOf]; done) | (simp [binOk, h1, h2, fits_k hk', opOf, f32]; done))]; exact refBin_15k k a b hk' h1 h2 w
      · rw [binv_yes (by first | (simp [binOk, h1, h2, fits_k hk', opOf, f22]; done) | (simp [binOk, h1, h2, fits_k hk', opOf, f32]; done))]; exact refBin_16k k a b hk' h1 h2 ha hb w
      · rw [binv_yes (by first | (simp [binOk, h1, h2, fits_k hk', opOf, f22]; done) | (simp [binOk, h1, h2, fits_k hk', opOf, f32]; done))]; exact refBin_17k k a b hk' h1 h2 ha hb w
      · rw [binv_yes (by first | (simp [binOk, h1, h2, fits_k hk', opOf, f22]; done) | (simp [binOk, h1, h2, fits_k hk', opOf, f32]; done))]; exact refBin_18k k a b hk' h1 h2 ha hb w
      · rw [binv_yes (by first | (simp [binOk, h1, h2, fits_k hk', opOf, f22]; done) | (simp [binOk, h1, h2, fits_k hk', opOf, f32]; done))]; exact refBin_19k k a b hk' h1 h2 ha hb w
    · have hno : binOk op k a b = false := by
        by_cases h0 : op < 0
        · simp [binOk, Int.not_le.2 h0]
        by_cases h20 : 20 ≤ op
        · simp [binOk, opOf_big op.toNat (by omega), fits0]
        have h5 : op = 0 ∨ op = 1 ∨ op = 2 ∨ op = 11 := by omega
        rcases h5 with rfl | rfl | rfl | rfl <;> simp [binOk, fits_k hk', opOf, f12, f02]
      rw [binv_no hno]
      simp only [not_or] at h
      exact refBin_noK k a b op hk' h1 h2 (by simp; omega) (by simp; omega) (by simp; omega) (by simp; omega) (by simp; omega) (by simp; omega) (by simp; omega) (by simp; omega) (by simp; omega) (by simp; omega) (by simp; omega) (by simp; omega) (by simp; omega) (by simp; omega) (by simp; omega) (by simp; omega) w
end Go.Proofs.YtdjnekcpeaadhaaGreat

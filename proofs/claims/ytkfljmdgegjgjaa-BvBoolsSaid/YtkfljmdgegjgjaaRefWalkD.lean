/-
  What the reference's operations bit by bit do.
  No condition but that the kind has bits.
-/
import Derived.Test.YtkfljmdgegjgjaaRefWalkC
namespace Go.Proofs.Ytkfljmdgegjgjaa
open Go.RowKit


/-- The round of 'bitwise', for one operation. -/
def BwInv (B g cap g2 cap2 m : Nat) (f : Int → Int → Int) (X Y : List Int) (w wr : World) (j : Nat) : Prop :=
  wr.ownsRow B 3 1 (.slice (some ⟨g, 0, none⟩) m cap) m ((mix2 f X Y j).map (.int .i64)) ∧ wr.ownsRow B 3 1 (.slice (some ⟨g2, 0, none⟩) m cap2) m (Y.map (.int .i64)) ∧ Below B w wr ∧ g < wr.heap.size ∧ g2 < wr.heap.size

theorem BwInv.read {B g cap g2 cap2 m : Nat} {f : Int → Int → Int} {X Y : List Int} {w wr : World} {j : Nat} {x y : Int} (h : BwInv B g cap g2 cap2 m f X Y w wr j) (hj : j < m) (hl : X.length = Y.length) (hx : X[j]? = some x) (hy : Y[j]? = some y) :
    wr.cell? ⟨g, j, none⟩ = some (.int .i64 x) ∧ wr.cell? ⟨g2, j, none⟩ = some (.int .i64 y) ∧ wr.frozen? ⟨g, j, none⟩ = false := by
  obtain ⟨h1, h2, _⟩ := h
  refine ⟨?_, ?_, h1.frozenAt j⟩
  · rw [h1.cellAt j (by omega), List.getElem?_map, mix2_at f X Y j x hl hx]; rfl
  · rw [h2.cellAt j (by omega), List.getElem?_map, hy]; rfl

theorem BwInv.write {B g cap g2 cap2 m : Nat} {f : Int → Int → Int} {X Y : List Int} {w wr : World} {j : Nat} {x y : Int} (h : BwInv B g cap g2 cap2 m f X Y w wr j) (hg : B ≤ g) (hne : g ≠ g2) (hl : X.length = Y.length) (hx : X[j]? = some x) (hy : Y[j]? = some y) (w' : World) (he : Ext wr w') :
    BwInv B g cap g2 cap2 m f X Y w (w'.setCell ⟨g, j, none⟩ (.int .i64 (f x y))) (j + 1) := by
  obtain ⟨h1, h2, h3, h4, h5⟩ := h
  have h1' := ownsRow_ext h1 he
  have h2' := ownsRow_ext h2 he
  obtain ⟨a1, a2⟩ := h1'.stored j (.int .i64 (f x y))
  rw [← List.map_set, mix2_set f X Y j x y hl hx hy] at a1
  refine ⟨a1, h2'.kept a2 (.inr (by simp [Value.ownBlock]; omega)), ?_, ?_, ?_⟩
  · exact (Below.trans h3 (Below.mono he (Nat.le_trans (Nat.le_of_lt (Nat.lt_of_le_of_lt hg h4)) (Nat.le_refl _)))).setCell hg _
  · simp [World.setCell]; exact Nat.lt_of_lt_of_le h4 he.size
  · simp [World.setCell]; exact Nat.lt_of_lt_of_le h5 he.size

theorem BwInv.skip {B g cap g2 cap2 m : Nat} {f : Int → Int → Int} {X Y : List Int} {w wr : World} {j : Nat} {x y : Int} (h : BwInv B g cap g2 cap2 m f X Y w wr j) (hl : X.length = Y.length) (hx : X[j]? = some x) (hy : Y[j]? = some y) (hf : f x y = x) :
    BwInv B g cap g2 cap2 m f X Y w wr (j + 1) := by
  obtain ⟨h1, h2⟩ := h
  refine ⟨?_, h2⟩
  rw [← mix2_set f X Y j x y hl hx hy, hf]
  have := mix2_at f X Y j x hl hx
  obtain ⟨hj, he⟩ := List.getElem?_eq_some_iff.1 this
  rw [← he, List.set_getElem_self]
  exact h1

set_option maxHeartbeats 2000000 in
theorem refBitwise_and (k a b : Int) (hpos : 0 < wid k) (w : World) :
    Calls Try.prog 38 #[.int .i64 8, .int .i64 k, .int .i64 a, .int .i64 b] w fun e w' => e = .returned (.int .i64 (wkr k (fromS (List.zipWith (bitOp 8) (bitsL (wid k) a) (bitsL (wid k) b)) (wid k)))) ∧ Ext w w' := by
  have hm64 := wid_le k
  obtain ⟨X, hX⟩ : ∃ X, X = bitsL (wid k) a := ⟨_, rfl⟩
  obtain ⟨Y, hY⟩ : ∃ Y, Y = bitsL (wid k) b := ⟨_, rfl⟩
  have hbX : ∀ (j : Nat) (x : Int), X[j]? = some x → 0 ≤ x ∧ x ≤ 1 := fun j x h => bitsL_bit (wid k) a j x (hX ▸ h)
  have hbY : ∀ (j : Nat) (x : Int), Y[j]? = some x → 0 ≤ x ∧ x ≤ 1 := fun j x h => bitsL_bit (wid k) b j x (hY ▸ h)
  have hlX : X.length = wid k := by rw [hX]; exact bitsL_length _ _
  have hlY : Y.length = wid k := by rw [hY]; exact bitsL_length _ _
  have hA := fun (w : World) => refBits_any k a w
  have hB := fun (w : World) => refBits_any k b w
  rw [← hX] at hA ⊢
  rw [← hY] at hB ⊢
  clear hX hY
  obtain ⟨m, hm⟩ : ∃ m, m = wid k := ⟨_, rfl⟩
  rw [← hm] at hpos hm64 hlX hlY hA hB ⊢
  have HM := Lib.hid hm
  have HX := Lib.hid hlX
  have HY := Lib.hid hlY
  have HA := Lib.hid hA
  have HBB := Lib.hid hB
  have HbX := Lib.hid hbX
  have HbY := Lib.hid hbY
  clear hm hlX hlY hA hB hbX hbY
  go_enter Try.func38, Try.ntmps38
  go_wp2_with fail
  refine (HA.out _).mono ?_
  rintro e w1 ⟨v1, rfl, hown1, hx1⟩
  obtain ⟨g, cap, rfl, hg, hcap, hgs⟩ := ownsRow_some hown1 hpos
  go_wp2_with fail
  refine (HBB.out _).mono ?_
  rintro e w2 ⟨v2, rfl, hown2, hx2⟩
  obtain ⟨g2, cap2, rfl, hg2, hcap2, hgs2⟩ := ownsRow_some hown2 hpos
  have hinv0 : BwInv w.heap.size g cap g2 cap2 m (bitOp 8) X Y w w2 0 := ⟨by rw [mix2_zero]; exact ownsRow_ext hown1 hx2, ownsRow_base hown2 hx1.size, hx1.trans hx2, Nat.lt_of_lt_of_le hgs hx2.size, hgs2⟩
  have hne : g ≠ g2 := by omega
  clear hown1 hown2 hx1 hx2 hgs hgs2 hg2
  go_wp2_with fail
  go_loopw [11] (fun i wr => ∃ j : Nat, j ≤ m ∧ i = .int .i64 j ∧ BwInv w.heap.size g cap g2 cap2 m (bitOp 8) X Y w wr j) (fun i _ => m - (intOf i).toNat)
  case atStart => exact ⟨0, Nat.zero_le _, rfl, hinv0⟩
  case round =>
    clear hinv0
    obtain ⟨j, hj, rfl, hinv⟩ := hrel
    by_cases hlt : j < m
    · obtain ⟨x, hx⟩ : ∃ x, X[j]? = some x := ⟨_, List.getElem?_eq_getElem (by have := HX.out; omega)⟩
      obtain ⟨y, hy⟩ : ∃ y, Y[j]? = some y := ⟨_, List.getElem?_eq_getElem (by have := HY.out; omega)⟩
      have hbx := HbX.out j x hx
      have hby := HbY.out j y hy
      have hl : X.length = Y.length := HX.out.trans HY.out.symm
      obtain ⟨c1, c2, c3⟩ := hinv.read hlt hl hx hy
      have hgw : g < wr.heap.size := hinv.2.2.2.1
      have h1 := fun w' he => hinv.write hg hne hl hx hy w' he
      obtain ⟨x0, x1⟩ := hbx
      obtain ⟨y0, y1⟩ := hby
      clear hinv hx hy hl
      have hxy : x * y = 0 ∨ x * y = 1 := by
        rcases (show x = 0 ∨ x = 1 by omega) with rfl | rfl <;> simp <;> omega
      have p0 : 0 ≤ x * y := by omega
      have p1 : x * y ≤ 1 := by omega
      clear hxy
      have H1 := Lib.hid h1
      clear h1
      have h1 := fun w' he => H1.out w' he
      go_wp2_with fail
      (refine region_drew_tail 12 (by kernel_rfl) (by kernel_rfl) ?_; simp only [List.take_succ_cons, List.take_zero, List.drop_succ_cons, List.drop_zero]; (repeat (go_big_quiet_step (fail))); refine wpQuiet_nil ?_; rintro _ ⟨nq, rfl⟩)
      go_wp2
      go_roundw
      case rel => exact ⟨j + 1, by omega, by go_num, by have h2 := h1 _ ((Ext.refl _).drewN nq); exact h2⟩
      case measure => simp [intOf]; omega
    · obtain rfl : j = m := by omega
      obtain ⟨hown, _, hbel, _⟩ := hinv
      rw [mix2_all _ _ _ _ (by rw [HX.out]; omega) (by rw [HY.out]; omega)] at hown
      have hs := SlC.of_owns hown
      have hlen : (List.zipWith (bitOp 8) X Y).length = j := by simp [HX.out, HY.out]
      have HF := Lib.hid (refFrom_any k (List.zipWith (bitOp 8) X Y) (.slice (some ⟨g, 0, none⟩) j cap) wr (by rw [hlen]; exact hs) (by rw [hlen]; omega))
      rw [hlen, ← HM.out, Nat.min_self] at HF
      clear hs hown hlen
      go_wp2_with (first | (go_at_call 46; refine HF.out.mono ?_; rintro e w' ⟨rfl, rfl⟩))
      go_ret
      exact ⟨rfl, hbel⟩

set_option maxHeartbeats 2000000 in
theorem refBitwise_or (k a b : Int) (hpos : 0 < wid k) (w : World) :
    Calls Try.prog 38 #[.int .i64 9, .int .i64 k, .int .i64 a, .int .i64 b] w fun e w' => e = .returned (.int .i64 (wkr k (fromS (List.zipWith (bitOp 9) (bitsL (wid k) a) (bitsL (wid k) b)) (wid k)))) ∧ Ext w w' := by
  have hm64 := wid_le k
  obtain ⟨X, hX⟩ : ∃ X, X = bitsL (wid k) a := ⟨_, rfl⟩
  obtain ⟨Y, hY⟩ : ∃ Y, Y = bitsL (wid k) b := ⟨_, rfl⟩
  have hbX : ∀ (j : Nat) (x : Int), X[j]? = some x → 0 ≤ x ∧ x ≤ 1 := fun j x h => bitsL_bit (wid k) a j x (hX ▸ h)
  have hbY : ∀ (j : Nat) (x : Int), Y[j]? = some x → 0 ≤ x ∧ x ≤ 1 := fun j x h => bitsL_bit (wid k) b j x (hY ▸ h)
  have hlX : X.length = wid k := by rw [hX]; exact bitsL_length _ _
  have hlY : Y.length = wid k := by rw [hY]; exact bitsL_length _ _
  have hA := fun (w : World) => refBits_any k a w
  have hB := fun (w : World) => refBits_any k b w
  rw [← hX] at hA ⊢
  rw [← hY] at hB ⊢
  clear hX hY
  obtain ⟨m, hm⟩ : ∃ m, m = wid k := ⟨_, rfl⟩
  rw [← hm] at hpos hm64 hlX hlY hA hB ⊢
  have HM := Lib.hid hm
  have HX := Lib.hid hlX
  have HY := Lib.hid hlY
  have HA := Lib.hid hA
  have HBB := Lib.hid hB
  have HbX := Lib.hid hbX
  have HbY := Lib.hid hbY
  clear hm hlX hlY hA hB hbX hbY
  go_enter Try.func38, Try.ntmps38
  go_wp2_with fail
  refine (HA.out _).mono ?_
  rintro e w1 ⟨v1, rfl, hown1, hx1⟩
  obtain ⟨g, cap, rfl, hg, hcap, hgs⟩ := ownsRow_some hown1 hpos
  go_wp2_with fail
  refine (HBB.out _).mono ?_
  rintro e w2 ⟨v2, rfl, hown2, hx2⟩
  obtain ⟨g2, cap2, rfl, hg2, hcap2, hgs2⟩ := ownsRow_some hown2 hpos
  have hinv0 : BwInv w.heap.size g cap g2 cap2 m (bitOp 9) X Y w w2 0 := ⟨by rw [mix2_zero]; exact ownsRow_ext hown1 hx2, ownsRow_base hown2 hx1.size, hx1.trans hx2, Nat.lt_of_lt_of_le hgs hx2.size, hgs2⟩
  have hne : g ≠ g2 := by omega
  clear hown1 hown2 hx1 hx2 hgs hgs2 hg2
  go_wp2_with fail
  go_loopw [11] (fun i wr => ∃ j : Nat, j ≤ m ∧ i = .int .i64 j ∧ BwInv w.heap.size g cap g2 cap2 m (bitOp 9) X Y w wr j) (fun i _ => m - (intOf i).toNat)
  case atStart => exact ⟨0, Nat.zero_le _, rfl, hinv0⟩
  case round =>
    clear hinv0
    obtain ⟨j, hj, rfl, hinv⟩ := hrel
    by_cases hlt : j < m
    · obtain ⟨x, hx⟩ : ∃ x, X[j]? = some x := ⟨_, List.getElem?_eq_getElem (by have := HX.out; omega)⟩
      obtain ⟨y, hy⟩ : ∃ y, Y[j]? = some y := ⟨_, List.getElem?_eq_getElem (by have := HY.out; omega)⟩
      have hbx := HbX.out j x hx
      have hby := HbY.out j y hy
      have hl : X.length = Y.length := HX.out.trans HY.out.symm
      obtain ⟨c1, c2, c3⟩ := hinv.read hlt hl hx hy
      have hgw : g < wr.heap.size := hinv.2.2.2.1
      have h1 := fun (e : y = 1) (w' : World) (he : Ext wr w') => (show BwInv w.heap.size g cap g2 cap2 m (bitOp 9) X Y w (w'.setCell ⟨g, j, none⟩ (.int .i64 1)) (j + 1) from by have := hinv.write hg hne hl hx hy w' he; simpa [bitOp, e] using this)
      have h2 := fun (e : ¬ y = 1) => hinv.skip hl hx hy (by simp [bitOp, e])
      have H1 := Lib.hid h1
      have H2 := Lib.hid h2
      clear h1 h2
      obtain ⟨x0, x1⟩ := hbx
      obtain ⟨y0, y1⟩ := hby
      clear hinv hx hy hl

      by_cases hy1 : y = 1
      · subst hy1
        go_wp2_with fail
        go_roundw
        case rel => exact ⟨j + 1, by omega, by go_num, H1.out rfl _ (Ext.refl _)⟩
        case measure => simp [intOf]; omega
      · have hyb : (y == 1) = false := by simpa using hy1
        go_wp2_with fail
        go_roundw
        case rel => exact ⟨j + 1, by omega, by go_num, H2.out hy1⟩
        case measure => simp [intOf]; omega
    · obtain rfl : j = m := by omega
      obtain ⟨hown, _, hbel, _⟩ := hinv
      rw [mix2_all _ _ _ _ (by rw [HX.out]; omega) (by rw [HY.out]; omega)] at hown
      have hs := SlC.of_owns hown
      have hlen : (List.zipWith (bitOp 9) X Y).length = j := by simp [HX.out, HY.out]
      have HF := Lib.hid (refFrom_any k (List.zipWith (bitOp 9) X Y) (.slice (some ⟨g, 0, none⟩) j cap) wr (by rw [hlen]; exact hs) (by rw [hlen]; omega))
      rw [hlen, ← HM.out, Nat.min_self] at HF
      clear hs hown hlen
      go_wp2_with (first | (go_at_call 46; refine HF.out.mono ?_; rintro e w' ⟨rfl, rfl⟩))
      go_ret
      exact ⟨rfl, hbel⟩

set_option maxHeartbeats 2000000 in
theorem refBitwise_xor (k a b : Int) (hpos : 0 < wid k) (w : World) :
    Calls Try.prog 38 #[.int .i64 10, .int .i64 k, .int .i64 a, .int .i64 b] w fun e w' => e = .returned (.int .i64 (wkr k (fromS (List.zipWith (bitOp 10) (bitsL (wid k) a) (bitsL (wid k) b)) (wid k)))) ∧ Ext w w' := by
  have hm64 := wid_le k
  obtain ⟨X, hX⟩ : ∃ X, X = bitsL (wid k) a := ⟨_, rfl⟩
  obtain ⟨Y, hY⟩ : ∃ Y, Y = bitsL (wid k) b := ⟨_, rfl⟩
  have hbX : ∀ (j : Nat) (x : Int), X[j]? = some x → 0 ≤ x ∧ x ≤ 1 := fun j x h => bitsL_bit (wid k) a j x (hX ▸ h)
  have hbY : ∀ (j : Nat) (x : Int), Y[j]? = some x → 0 ≤ x ∧ x ≤ 1 := fun j x h => bitsL_bit (wid k) b j x (hY ▸ h)
  have hlX : X.length = wid k := by rw [hX]; exact bitsL_length _ _
  have hlY : Y.length = wid k := by rw [hY]; exact bitsL_length _ _
  have hA := fun (w : World) => refBits_any k a w
  have hB := fun (w : World) => refBits_any k b w
  rw [← hX] at hA ⊢
  rw [← hY] at hB ⊢
  clear hX hY
  obtain ⟨m, hm⟩ : ∃ m, m = wid k := ⟨_, rfl⟩
  rw [← hm] at hpos hm64 hlX hlY hA hB ⊢
  have HM := Lib.hid hm
  have HX := Lib.hid hlX
  have HY := Lib.hid hlY
  have HA := Lib.hid hA
  have HBB := Lib.hid hB
  have HbX := Lib.hid hbX
  have HbY := Lib.hid hbY
  clear hm hlX hlY hA hB hbX hbY
  go_enter Try.func38, Try.ntmps38
  go_wp2_with fail
  refine (HA.out _).mono ?_
  rintro e w1 ⟨v1, rfl, hown1, hx1⟩
  obtain ⟨g, cap, rfl, hg, hcap, hgs⟩ := ownsRow_some hown1 hpos
  go_wp2_with fail
  refine (HBB.out _).mono ?_
  rintro e w2 ⟨v2, rfl, hown2, hx2⟩
  obtain ⟨g2, cap2, rfl, hg2, hcap2, hgs2⟩ := ownsRow_some hown2 hpos
  have hinv0 : BwInv w.heap.size g cap g2 cap2 m (bitOp 10) X Y w w2 0 := ⟨by rw [mix2_zero]; exact ownsRow_ext hown1 hx2, ownsRow_base hown2 hx1.size, hx1.trans hx2, Nat.lt_of_lt_of_le hgs hx2.size, hgs2⟩
  have hne : g ≠ g2 := by omega
  clear hown1 hown2 hx1 hx2 hgs hgs2 hg2
  go_wp2_with fail
  go_loopw [11] (fun i wr => ∃ j : Nat, j ≤ m ∧ i = .int .i64 j ∧ BwInv w.heap.size g cap g2 cap2 m (bitOp 10) X Y w wr j) (fun i _ => m - (intOf i).toNat)
  case atStart => exact ⟨0, Nat.zero_le _, rfl, hinv0⟩
  case round =>
    clear hinv0
    obtain ⟨j, hj, rfl, hinv⟩ := hrel
    by_cases hlt : j < m
    · obtain ⟨x, hx⟩ : ∃ x, X[j]? = some x := ⟨_, List.getElem?_eq_getElem (by have := HX.out; omega)⟩
      obtain ⟨y, hy⟩ : ∃ y, Y[j]? = some y := ⟨_, List.getElem?_eq_getElem (by have := HY.out; omega)⟩
      have hbx := HbX.out j x hx
      have hby := HbY.out j y hy
      have hl : X.length = Y.length := HX.out.trans HY.out.symm
      obtain ⟨c1, c2, c3⟩ := hinv.read hlt hl hx hy
      have hgw : g < wr.heap.size := hinv.2.2.2.1
      have h1 := fun w' he => hinv.write hg hne hl hx hy w' he
      obtain ⟨x0, x1⟩ := hbx
      obtain ⟨y0, y1⟩ := hby
      clear hinv hx hy hl

      go_wp2_with fail
      (refine region_drew_tail 13 (by kernel_rfl) (by kernel_rfl) ?_; simp only [List.take_succ_cons, List.take_zero, List.drop_succ_cons, List.drop_zero]; (repeat (go_big_quiet_step (fail))); refine wpQuiet_nil ?_; rintro _ ⟨nq, rfl⟩)
      go_wp2
      go_roundw
      case rel => exact ⟨j + 1, by omega, by go_num, by have h2 := h1 _ ((Ext.refl _).drewN nq); exact h2⟩
      case measure => simp [intOf]; omega
    · obtain rfl : j = m := by omega
      obtain ⟨hown, _, hbel, _⟩ := hinv
      rw [mix2_all _ _ _ _ (by rw [HX.out]; omega) (by rw [HY.out]; omega)] at hown
      have hs := SlC.of_owns hown
      have hlen : (List.zipWith (bitOp 10) X Y).length = j := by simp [HX.out, HY.out]
      have HF := Lib.hid (refFrom_any k (List.zipWith (bitOp 10) X Y) (.slice (some ⟨g, 0, none⟩) j cap) wr (by rw [hlen]; exact hs) (by rw [hlen]; omega))
      rw [hlen, ← HM.out, Nat.min_self] at HF
      clear hs hown hlen
      go_wp2_with (first | (go_at_call 46; refine HF.out.mono ?_; rintro e w' ⟨rfl, rfl⟩))
      go_ret
      exact ⟨rfl, hbel⟩
end Go.Proofs.Ytkfljmdgegjgjaa

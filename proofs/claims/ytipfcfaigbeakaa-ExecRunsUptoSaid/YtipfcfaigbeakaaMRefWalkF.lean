/-
  What the reference's shifts do.
  No condition but that the kind has bits.
-/
import Derived.Test.YtipfcfaigbeakaaJRef
namespace Go.Proofs.Ytipfcfaigbeakaa
open Go.RowKit
set_option maxRecDepth 100000

theorem bitsL_at (m : Nat) (n : Int) (j : Nat) (hj : j < m) : (bitsL m n)[j]? = some (n / 2 ^ j % 2) := by
  simp [bitsL, hj]

/-- The first loop of 'moved': the number of the places, held at m. -/
theorem capN_yes {m : Nat} {b : Int} {j : Nat} (hj : j < m) (h : (m : Int) ≤ 2 * capN m (topN m b (j + 1)) + b / 2 ^ j % 2) : capN m (topN m b j) = m ∧ decide ((m : Int) ≤ topN m b j) = true := by
  have h1 := topN_step m b j hj
  have h2 := topN_pos m b (j + 1)
  have h3 : (m : Int) ≤ topN m b j := by unfold capN at h; split at h <;> omega
  exact ⟨by unfold capN; rw [if_pos h3], by simpa using h3⟩
theorem capN_no {m : Nat} {b : Int} {j : Nat} (hj : j < m) (h : ¬ (m : Int) ≤ 2 * capN m (topN m b (j + 1)) + b / 2 ^ j % 2) :
    capN m (topN m b j) = 2 * capN m (topN m b (j + 1)) + b / 2 ^ j % 2 ∧ decide ((m : Int) ≤ topN m b j) = decide ((m : Int) ≤ topN m b (j + 1)) := by
  have h1 := topN_step m b j hj
  have h2 := topN_pos m b (j + 1)
  have hb : 0 ≤ b / 2 ^ j % 2 := by omega
  have h4 : ¬ (m : Int) ≤ topN m b (j + 1) := by
    intro h5; unfold capN at h; rw [if_pos h5] at h; omega
  have e : capN m (topN m b (j + 1)) = topN m b (j + 1) := by unfold capN; rw [if_neg h4]
  rw [e] at h ⊢
  have h3 : ¬ (m : Int) ≤ topN m b j := by omega
  refine ⟨by unfold capN; rw [if_neg h3]; exact h1, ?_⟩
  rw [decide_eq_false h3, decide_eq_false h4]
theorem capN_bd (m : Nat) (t : Int) (ht : 0 ≤ t) : 0 ≤ capN m t ∧ capN m t ≤ m := by unfold capN; split <;> omega

/-- The second loop of 'moved'. -/
def MvInv (B g cap h m : Nat) (X M : List Int) (w wr : World) (j : Nat) : Prop :=
  wr.ownsRow B 3 1 (.slice (some ⟨h, 0, none⟩) m m) m ((upto M m j).map (.int .i64)) ∧ wr.ownsRow B 3 1 (.slice (some ⟨g, 0, none⟩) m cap) m (X.map (.int .i64)) ∧ Below B w wr

theorem MvInv.step {B g cap h m : Nat} {X M : List Int} {w wr : World} {j : Nat} {x : Int} (hi : MvInv B g cap h m X M w wr j) (hB : B ≤ h) (hne : g ≠ h) (hl : M.length = m) (hx : M[j]? = some x) :
    MvInv B g cap h m X M w (wr.setCell ⟨h, j, none⟩ (.int .i64 x)) (j + 1) := by
  obtain ⟨h1, h2, h3⟩ := hi
  obtain ⟨a1, a2⟩ := h1.stored j (.int .i64 x)
  rw [← List.map_set, upto_set M m j x hl hx] at a1
  exact ⟨a1, h2.kept a2 (.inr (by simp [Value.ownBlock]; omega)), h3.setCell hB _⟩
theorem MvInv.step2 {B g cap h m : Nat} {X M : List Int} {w wr : World} {j : Nat} {x f : Int} (hi : MvInv B g cap h m X M w wr j) (hB : B ≤ h) (hne : g ≠ h) (hl : M.length = m) (hx : M[j]? = some x) :
    MvInv B g cap h m X M w ((wr.setCell ⟨h, j, none⟩ (.int .i64 f)).setCell ⟨h, j, none⟩ (.int .i64 x)) (j + 1) := by
  obtain ⟨h1, h2, h3⟩ := hi
  obtain ⟨b1, b2⟩ := h1.stored j (.int .i64 f)
  obtain ⟨a1, a2⟩ := b1.stored j (.int .i64 x)
  rw [List.set_set, ← List.map_set, upto_set M m j x hl hx] at a1
  exact ⟨a1, (h2.kept b2 (.inr (by simp [Value.ownBlock]; omega))).kept a2 (.inr (by simp [Value.ownBlock]; omega)), (h3.setCell hB _).setCell hB _⟩
theorem MvInv.cells {B g cap h m : Nat} {X M : List Int} {w wr : World} {j : Nat} (hi : MvInv B g cap h m X M w wr j) (hj : j < m) (hl : M.length = m) :
    (∃ u, wr.cell? ⟨h, j, none⟩ = some u) ∧ wr.frozen? ⟨h, j, none⟩ = false ∧ ∀ (i : Nat) x, X[i]? = some x → wr.cell? ⟨g, i, none⟩ = some (.int .i64 x) := by
  obtain ⟨h1, h2, h3⟩ := hi
  refine ⟨?_, h1.frozenAt j, fun i x hx => ?_⟩
  · rw [h1.cellAt j (by omega)]
    have : j < ((upto M m j).map (Value.int .i64)).length := by rw [List.length_map, upto_len M m j hl (by omega)]; exact hj
    exact ⟨_, List.getElem?_eq_getElem this⟩
  · have hlen := h2.1
    have hi' : i < X.length := (List.getElem?_eq_some_iff.1 hx).1
    rw [h2.cellAt i (by simp at hlen; omega), List.getElem?_map, hx]; rfl


set_option maxHeartbeats 4000000 in
theorem refMoved_shl (k a b : Int) (hpos : 0 < wid k) (w : World) :
    Calls Try.prog 94 #[.int .i64 12, .int .i64 k, .int .i64 a, .int .i64 b] w fun e w' => e = .returned (.int .i64 (wkr k (fromS (movedL 12 (wid k) (bitsL (wid k) a) (b % 2 ^ wid k) 0) (wid k)))) ∧ Ext w w' := by
  have hm64 := wid_le k
  obtain ⟨X, hX⟩ : ∃ X, X = bitsL (wid k) a := ⟨_, rfl⟩
  obtain ⟨Y, hY⟩ : ∃ Y, Y = bitsL (wid k) b := ⟨_, rfl⟩
  have hYj : ∀ j : Nat, j < wid k → Y[j]? = some (b / 2 ^ j % 2) := fun j hj => by rw [hY]; exact bitsL_at _ _ _ hj
  have hlX : X.length = wid k := by rw [hX]; exact bitsL_length _ _
  have hA := fun (w : World) => refBits_any k a w
  have hB := fun (w : World) => refBits_any k b w
  rw [← hX] at hA ⊢
  rw [← hY] at hB
  clear hX hY
  obtain ⟨m, hm⟩ : ∃ m, m = wid k := ⟨_, rfl⟩
  rw [← hm] at hpos hm64 hlX hYj hA hB ⊢
  obtain ⟨M, hM⟩ : ∃ M, M = movedL 12 m X (b % 2 ^ m) 0 := ⟨_, rfl⟩
  have hlM : M.length = m := by rw [hM]; simp [movedL]
  have hMj : ∀ j : Nat, j < m → M[j]? = some (movAt 12 m X (b % 2 ^ m) 0 j) := fun j hj => by rw [hM]; simp [movedL, hj]
  rw [← hM]
  have hU : topN m b 0 = b % 2 ^ m := by simp [topN]
  have HU := Lib.hid hU
  have HM := Lib.hid hm
  have HX := Lib.hid hlX
  have HMJ := Lib.hid hMj
  have HLM := Lib.hid hlM
  have HYJ := Lib.hid hYj
  have HA := Lib.hid hA
  have HBB := Lib.hid hB
  clear hm hlX hYj hA hB hU hMj hlM hM
  go_enter Try.func94, Try.ntmps94
  go_wp2_with fail
  refine (HA.out _).mono ?_
  rintro e w1 ⟨v1, rfl, hown1, hx1⟩
  obtain ⟨g, cap, rfl, hg, hcap, hgs⟩ := ownsRow_some hown1 hpos
  go_wp2_with (first | (go_at_call 103; refine (refSigned_any _ _).mono ?_; rintro e w' ⟨rfl, rfl⟩))
  refine (HBB.out _).mono ?_
  rintro e w2 ⟨v2, rfl, hown2, hx2⟩
  obtain ⟨g2, cap2, rfl, hg2, hcap2, hgs2⟩ := ownsRow_some hown2 hpos
  have hcells : ∀ j : Nat, j < m → w2.cell? ⟨g2, j, none⟩ = some (.int .i64 (b / 2 ^ j % 2)) := fun j hj => by
    rw [hown2.cellAt j (by omega), List.getElem?_map, HYJ.out j hj]; rfl
  have HC := Lib.hid hcells
  have hown := ownsRow_ext hown1 hx2
  have hx := hx1.trans hx2
  have hgs' : g < w2.heap.size := Nat.lt_of_lt_of_le hgs hx2.size
  have HO := Lib.hid (And.intro hown (And.intro hx hgs'))
  clear hown1 hown2 hx1 hx2 hgs hcells hown hx hgs' hgs2 hg2
  go_wp2_with fail
  go_loop [13, 14, 15] (fun far n i => ∃ j : Nat, j ≤ m ∧ i = .int .i64 ((j : Int) - 1) ∧ n = .int .i64 (capN m (topN m b j)) ∧ far = .bool (decide ((m : Int) ≤ topN m b j))) (fun _ _ i => (intOf i + 1).toNat)
  case atStart => exact ⟨m, Nat.le_refl _, rfl, by rw [topN_start]; simp [capN]; omega, by rw [topN_start]; simp; omega⟩
  case round =>
    obtain ⟨j, hj, rfl, rfl, rfl⟩ := hrel
    by_cases hlt : 0 < j
    · obtain ⟨i, rfl⟩ : ∃ i, j = i + 1 := ⟨j - 1, by omega⟩
      have e : ((i + 1 : Nat) : Int) - 1 = (i : Int) := by omega
      rw [e]
      have him : i < m := by omega
      clear e hlt
      have hcell := HC.out i him
      have hbit : 0 ≤ b / 2 ^ i % 2 ∧ b / 2 ^ i % 2 ≤ 1 := by omega
      have hy := Lib.hid (@capN_yes m b i him)
      have hn := Lib.hid (@capN_no m b i him)
      have hbd := capN_bd m _ (topN_pos m b (i + 1))
      generalize hN : capN m (topN m b (i + 1)) = N at *
      generalize hF : decide ((m : Int) ≤ topN m b (i + 1)) = F at *
      generalize b / 2 ^ i % 2 = y at *
      clear hN hF
      obtain ⟨y0, y1⟩ := hbit
      obtain ⟨n0, n1⟩ := hbd
      by_cases hc : (m : Int) ≤ 2 * N + y
      · have HY := Lib.hid (hy.out hc)
        go_wp2
        go_round
        case rel => exact ⟨i, by omega, rfl, by rw [HY.out.1], by rw [HY.out.2]⟩
        case measure => simp [intOf] <;> omega
      · have HY := Lib.hid (hn.out hc)
        go_wp2
        go_round
        case rel => exact ⟨i, by omega, rfl, by rw [HY.out.1], by rw [HY.out.2]⟩
        case measure => simp [intOf] <;> omega
    · obtain rfl : j = 0 := by omega
      have e : ((0 : Nat) : Int) - 1 = -1 := by omega
      rw [e, HU.out]
      have hU0 : 0 ≤ b % 2 ^ m := by have := topN_pos m b 0; rw [HU.out] at this; exact this
      obtain ⟨U, hUU⟩ : ∃ U, U = b % 2 ^ m := ⟨_, rfl⟩
      rw [← hUU] at hU0 ⊢
      have HMJ' := HMJ.out
      rw [← hUU] at HMJ'
      have HMJ2 := Lib.hid HMJ'
      clear hUU HMJ' HMJ e
      have hbase : w.heap.size ≤ w2.heap.size := HO.out.2.1.size
      have hN : capN m U = if (m : Int) ≤ U then (m : Int) else U := rfl
      by_cases hfar : (m : Int) ≤ U
      · rw [if_pos hfar] at hN; rw [decide_eq_true hfar]
        rw [hN]
        clear hN
        go_wp2_with (at_make; refine wpList_make_full _ rfl _ _ 22 rfl w.heap.size 3 _ (.int .i64 0) 1 Try.underlying22 rfl rfl rfl .i64 .i64 (m : Int) (m : Int) m rfl rfl rfl rfl (by have := (info_parts infoInt); show 8 * m ≤ _; omega) (by unfold maxLen; omega) hbase ?_; intro w3 hown3 hg3)
        have hinv0 : MvInv w.heap.size g cap w2.heap.size m X M w w3 0 := by
          refine ⟨?_, (HO.out.1).kept hg3 (.inr (by simp [Value.ownBlock])), ?_⟩
          · have e : (upto M m 0).map (Value.int .i64) = (madeCells (Value.int .i64 0).cells (m * 1)).toList := by
              simp [upto, Value.cells, toList_madeCells_one]
            rw [e]; exact hown3
          · exact (show Below w.heap.size w w2 from HO.out.2.1).grown hg3 hbase (fun k hk => by simp at hk)
        have hne : g ≠ w2.heap.size := by have := HO.out.2.2; omega
        have hne' : g ≠ w2.heap.size := hne
        have HI0 := Lib.hid hinv0
        clear hinv0 hown3 hg3
        go_loopw [17] (fun i wr => ∃ j : Nat, j ≤ m ∧ i = .int .i64 j ∧ MvInv w.heap.size g cap w2.heap.size m X M w wr j) (fun i _ => m - (intOf i).toNat)
        case atStart => exact ⟨0, Nat.zero_le _, rfl, HI0.out⟩
        case round =>
          obtain ⟨j, hj, rfl, hinv⟩ := hrel
          by_cases hlt : j < m
          · have hx := HMJ2.out j hlt
            obtain ⟨⟨u, hu⟩, hfz, hXc⟩ := hinv.cells hlt HLM.out
            have he : movAt 12 m X U 0 j = 0 := by unfold movAt; rw [if_neg (by simp only [movFrom, (show ¬ ((12 : Int) = 13) by decide), if_false]; omega)]
            rw [he] at hx
            have hst := Lib.hid (hinv.step hbase hne' HLM.out hx)
            clear hx hinv hXc
            go_wp2_with fail
            go_roundw
            case rel => exact ⟨j + 1, by omega, by go_num, hst.out⟩
            case measure => simp [intOf] <;> omega
          · obtain rfl : j = m := by omega
            have hl := HLM.out
            have hown := hinv.1
            have hbel := hinv.2.2
            rw [upto_all M j hl] at hown
            have hs := SlC.of_owns hown
            have HF := Lib.hid (refFrom_any k M (.slice (some ⟨w2.heap.size, 0, none⟩) j j) wr (by rw [hl]; exact hs) (by rw [hl]; omega))
            rw [hl, ← HM.out, Nat.min_self] at HF
            clear hs hown hl hinv
            go_wp2_with (first | (go_at_call 90; refine HF.out.mono ?_; rintro e w' ⟨rfl, rfl⟩))
            go_ret
            exact ⟨rfl, hbel⟩
      · rw [if_neg hfar] at hN; rw [decide_eq_false hfar]
        rw [hN]
        clear hN
        go_wp2_with (at_make; refine wpList_make_full _ rfl _ _ 22 rfl w.heap.size 3 _ (.int .i64 0) 1 Try.underlying22 rfl rfl rfl .i64 .i64 (m : Int) (m : Int) m rfl rfl rfl rfl (by have := (info_parts infoInt); show 8 * m ≤ _; omega) (by unfold maxLen; omega) hbase ?_; intro w3 hown3 hg3)
        have hinv0 : MvInv w.heap.size g cap w2.heap.size m X M w w3 0 := by
          refine ⟨?_, (HO.out.1).kept hg3 (.inr (by simp [Value.ownBlock])), ?_⟩
          · have e : (upto M m 0).map (Value.int .i64) = (madeCells (Value.int .i64 0).cells (m * 1)).toList := by
              simp [upto, Value.cells, toList_madeCells_one]
            rw [e]; exact hown3
          · exact (show Below w.heap.size w w2 from HO.out.2.1).grown hg3 hbase (fun k hk => by simp at hk)
        have hne : g ≠ w2.heap.size := by have := HO.out.2.2; omega
        have hne' : g ≠ w2.heap.size := hne
        have HI0 := Lib.hid hinv0
        clear hinv0 hown3 hg3
        go_loopw [17] (fun i wr => ∃ j : Nat, j ≤ m ∧ i = .int .i64 j ∧ MvInv w.heap.size g cap w2.heap.size m X M w wr j) (fun i _ => m - (intOf i).toNat)
        case atStart => exact ⟨0, Nat.zero_le _, rfl, HI0.out⟩
        case round =>
          obtain ⟨j, hj, rfl, hinv⟩ := hrel
          by_cases hlt : j < m
          · have hx := HMJ2.out j hlt
            obtain ⟨⟨u, hu⟩, hfz, hXc⟩ := hinv.cells hlt HLM.out
            by_cases h0 : 0 ≤ (j : Int) - U
            · by_cases h1 : (j : Int) - U < m
              · obtain ⟨F, hF⟩ : ∃ F : Nat, (j : Int) - U = (F : Int) := ⟨((j : Int) - U).toNat, by omega⟩
                obtain ⟨x, hxx⟩ : ∃ x, X[F]? = some x := ⟨_, List.getElem?_eq_getElem (by have := HX.out; omega)⟩
                have he : movAt 12 m X U 0 j = x := by
                  unfold movAt
                  simp only [movFrom, (show ¬ ((12 : Int) = 13) by decide), if_false]
                  rw [if_pos (by omega), hF]
                  simp [hxx]
                rw [he] at hx
                have hst := Lib.hid (hinv.step2 (f := 0) hbase hne' HLM.out hx)
                have hcx := hXc F x hxx
                have hFm : F < m := by omega
                have hU1 : U < m := by omega
                clear hx hinv hXc hxx h0 h1 he
                go_wp2_with fail
                go_roundw
                case rel => exact ⟨j + 1, by omega, by go_num, hst.out⟩
                case measure => simp [intOf] <;> omega
              · exfalso; omega
            · have he : movAt 12 m X U 0 j = 0 := by unfold movAt; rw [if_neg (by simp only [movFrom, (show ¬ ((12 : Int) = 13) by decide), if_false]; omega)]
              rw [he] at hx
              have hst := Lib.hid (hinv.step hbase hne' HLM.out hx)
              clear hx hinv hXc
              go_wp2_with fail
              go_roundw
              case rel => exact ⟨j + 1, by omega, by go_num, hst.out⟩
              case measure => simp [intOf] <;> omega
          · obtain rfl : j = m := by omega
            have hl := HLM.out
            have hown := hinv.1
            have hbel := hinv.2.2
            rw [upto_all M j hl] at hown
            have hs := SlC.of_owns hown
            have HF := Lib.hid (refFrom_any k M (.slice (some ⟨w2.heap.size, 0, none⟩) j j) wr (by rw [hl]; exact hs) (by rw [hl]; omega))
            rw [hl, ← HM.out, Nat.min_self] at HF
            clear hs hown hl hinv
            go_wp2_with (first | (go_at_call 90; refine HF.out.mono ?_; rintro e w' ⟨rfl, rfl⟩))
            go_ret
            exact ⟨rfl, hbel⟩


set_option maxHeartbeats 4000000 in
theorem refMoved_sar (k a b : Int) (hpos : 0 < wid k) (hs : sgn k = true) (ha : a < 0) (w : World) :
    Calls Try.prog 94 #[.int .i64 13, .int .i64 k, .int .i64 a, .int .i64 b] w fun e w' => e = .returned (.int .i64 (wkr k (fromS (movedL 13 (wid k) (bitsL (wid k) a) (b % 2 ^ wid k) 1) (wid k)))) ∧ Ext w w' := by
  have hm64 := wid_le k
  obtain ⟨X, hX⟩ : ∃ X, X = bitsL (wid k) a := ⟨_, rfl⟩
  obtain ⟨Y, hY⟩ : ∃ Y, Y = bitsL (wid k) b := ⟨_, rfl⟩
  have hYj : ∀ j : Nat, j < wid k → Y[j]? = some (b / 2 ^ j % 2) := fun j hj => by rw [hY]; exact bitsL_at _ _ _ hj
  have hlX : X.length = wid k := by rw [hX]; exact bitsL_length _ _
  have hA := fun (w : World) => refBits_any k a w
  have hB := fun (w : World) => refBits_any k b w
  rw [← hX] at hA ⊢
  rw [← hY] at hB
  clear hX hY
  obtain ⟨m, hm⟩ : ∃ m, m = wid k := ⟨_, rfl⟩
  rw [← hm] at hpos hm64 hlX hYj hA hB ⊢
  obtain ⟨M, hM⟩ : ∃ M, M = movedL 13 m X (b % 2 ^ m) 1 := ⟨_, rfl⟩
  have hlM : M.length = m := by rw [hM]; simp [movedL]
  have hMj : ∀ j : Nat, j < m → M[j]? = some (movAt 13 m X (b % 2 ^ m) 1 j) := fun j hj => by rw [hM]; simp [movedL, hj]
  rw [← hM]
  have hU : topN m b 0 = b % 2 ^ m := by simp [topN]
  have HU := Lib.hid hU
  have HM := Lib.hid hm
  have HX := Lib.hid hlX
  have HMJ := Lib.hid hMj
  have HLM := Lib.hid hlM
  have HYJ := Lib.hid hYj
  have HA := Lib.hid hA
  have HBB := Lib.hid hB
  clear hm hlX hYj hA hB hU hMj hlM hM
  go_enter Try.func94, Try.ntmps94
  go_wp2_with fail
  refine (HA.out _).mono ?_
  rintro e w1 ⟨v1, rfl, hown1, hx1⟩
  obtain ⟨g, cap, rfl, hg, hcap, hgs⟩ := ownsRow_some hown1 hpos
  go_wp2_with (first | (go_at_call 103; refine (refSigned_any _ _).mono ?_; rintro e w' ⟨rfl, rfl⟩))
  refine (HBB.out _).mono ?_
  rintro e w2 ⟨v2, rfl, hown2, hx2⟩
  obtain ⟨g2, cap2, rfl, hg2, hcap2, hgs2⟩ := ownsRow_some hown2 hpos
  have hcells : ∀ j : Nat, j < m → w2.cell? ⟨g2, j, none⟩ = some (.int .i64 (b / 2 ^ j % 2)) := fun j hj => by
    rw [hown2.cellAt j (by omega), List.getElem?_map, HYJ.out j hj]; rfl
  have HC := Lib.hid hcells
  have hown := ownsRow_ext hown1 hx2
  have hx := hx1.trans hx2
  have hgs' : g < w2.heap.size := Nat.lt_of_lt_of_le hgs hx2.size
  have HO := Lib.hid (And.intro hown (And.intro hx hgs'))
  clear hown1 hown2 hx1 hx2 hgs hcells hown hx hgs' hgs2 hg2
  go_wp2_with fail
  go_loop [13, 14, 15] (fun far n i => ∃ j : Nat, j ≤ m ∧ i = .int .i64 ((j : Int) - 1) ∧ n = .int .i64 (capN m (topN m b j)) ∧ far = .bool (decide ((m : Int) ≤ topN m b j))) (fun _ _ i => (intOf i + 1).toNat)
  case atStart => exact ⟨m, Nat.le_refl _, rfl, by rw [topN_start]; simp [capN]; omega, by rw [topN_start]; simp; omega⟩
  case round =>
    obtain ⟨j, hj, rfl, rfl, rfl⟩ := hrel
    by_cases hlt : 0 < j
    · obtain ⟨i, rfl⟩ : ∃ i, j = i + 1 := ⟨j - 1, by omega⟩
      have e : ((i + 1 : Nat) : Int) - 1 = (i : Int) := by omega
      rw [e]
      have him : i < m := by omega
      clear e hlt
      have hcell := HC.out i him
      have hbit : 0 ≤ b / 2 ^ i % 2 ∧ b / 2 ^ i % 2 ≤ 1 := by omega
      have hy := Lib.hid (@capN_yes m b i him)
      have hn := Lib.hid (@capN_no m b i him)
      have hbd := capN_bd m _ (topN_pos m b (i + 1))
      generalize hN : capN m (topN m b (i + 1)) = N at *
      generalize hF : decide ((m : Int) ≤ topN m b (i + 1)) = F at *
      generalize b / 2 ^ i % 2 = y at *
      clear hN hF
      obtain ⟨y0, y1⟩ := hbit
      obtain ⟨n0, n1⟩ := hbd
      by_cases hc : (m : Int) ≤ 2 * N + y
      · have HY := Lib.hid (hy.out hc)
        go_wp2
        go_round
        case rel => exact ⟨i, by omega, rfl, by rw [HY.out.1], by rw [HY.out.2]⟩
        case measure => simp [intOf] <;> omega
      · have HY := Lib.hid (hn.out hc)
        go_wp2
        go_round
        case rel => exact ⟨i, by omega, rfl, by rw [HY.out.1], by rw [HY.out.2]⟩
        case measure => simp [intOf] <;> omega
    · obtain rfl : j = 0 := by omega
      have e : ((0 : Nat) : Int) - 1 = -1 := by omega
      rw [e, HU.out]
      have hU0 : 0 ≤ b % 2 ^ m := by have := topN_pos m b 0; rw [HU.out] at this; exact this
      obtain ⟨U, hUU⟩ : ∃ U, U = b % 2 ^ m := ⟨_, rfl⟩
      rw [← hUU] at hU0 ⊢
      have HMJ' := HMJ.out
      rw [← hUU] at HMJ'
      have HMJ2 := Lib.hid HMJ'
      clear hUU HMJ' HMJ e
      have hbase : w.heap.size ≤ w2.heap.size := HO.out.2.1.size
      have hN : capN m U = if (m : Int) ≤ U then (m : Int) else U := rfl
      by_cases hfar : (m : Int) ≤ U
      · rw [if_pos hfar] at hN; rw [decide_eq_true hfar]
        rw [hN]
        clear hN
        go_wp2_with (at_make; refine wpList_make_full _ rfl _ _ 22 rfl w.heap.size 3 _ (.int .i64 0) 1 Try.underlying22 rfl rfl rfl .i64 .i64 (m : Int) (m : Int) m rfl rfl rfl rfl (by have := (info_parts infoInt); show 8 * m ≤ _; omega) (by unfold maxLen; omega) hbase ?_; intro w3 hown3 hg3)
        have hinv0 : MvInv w.heap.size g cap w2.heap.size m X M w w3 0 := by
          refine ⟨?_, (HO.out.1).kept hg3 (.inr (by simp [Value.ownBlock])), ?_⟩
          · have e : (upto M m 0).map (Value.int .i64) = (madeCells (Value.int .i64 0).cells (m * 1)).toList := by
              simp [upto, Value.cells, toList_madeCells_one]
            rw [e]; exact hown3
          · exact (show Below w.heap.size w w2 from HO.out.2.1).grown hg3 hbase (fun k hk => by simp at hk)
        have hne : g ≠ w2.heap.size := by have := HO.out.2.2; omega
        have hne' : g ≠ w2.heap.size := hne
        have HI0 := Lib.hid hinv0
        clear hinv0 hown3 hg3
        go_loopw [17] (fun i wr => ∃ j : Nat, j ≤ m ∧ i = .int .i64 j ∧ MvInv w.heap.size g cap w2.heap.size m X M w wr j) (fun i _ => m - (intOf i).toNat)
        case atStart => exact ⟨0, Nat.zero_le _, rfl, HI0.out⟩
        case round =>
          obtain ⟨j, hj, rfl, hinv⟩ := hrel
          by_cases hlt : j < m
          · have hx := HMJ2.out j hlt
            obtain ⟨⟨u, hu⟩, hfz, hXc⟩ := hinv.cells hlt HLM.out
            have he : movAt 13 m X U 1 j = 1 := by unfold movAt; rw [if_neg (by simp only [movFrom, if_true]; omega)]
            rw [he] at hx
            have hst := Lib.hid (hinv.step hbase hne' HLM.out hx)
            clear hx hinv hXc
            go_wp2_with fail
            go_roundw
            case rel => exact ⟨j + 1, by omega, by go_num, hst.out⟩
            case measure => simp [intOf] <;> omega
          · obtain rfl : j = m := by omega
            have hl := HLM.out
            have hown := hinv.1
            have hbel := hinv.2.2
            rw [upto_all M j hl] at hown
            have hs := SlC.of_owns hown
            have HF := Lib.hid (refFrom_any k M (.slice (some ⟨w2.heap.size, 0, none⟩) j j) wr (by rw [hl]; exact hs) (by rw [hl]; omega))
            rw [hl, ← HM.out, Nat.min_self] at HF
            clear hs hown hl hinv
            go_wp2_with (first | (go_at_call 90; refine HF.out.mono ?_; rintro e w' ⟨rfl, rfl⟩))
            go_ret
            exact ⟨rfl, hbel⟩
      · rw [if_neg hfar] at hN; rw [decide_eq_false hfar]
        rw [hN]
        clear hN
        go_wp2_with (at_make; refine wpList_make_full _ rfl _ _ 22 rfl w.heap.size 3 _ (.int .i64 0) 1 Try.underlying22 rfl rfl rfl .i64 .i64 (m : Int) (m : Int) m rfl rfl rfl rfl (by have := (info_parts infoInt); show 8 * m ≤ _; omega) (by unfold maxLen; omega) hbase ?_; intro w3 hown3 hg3)
        have hinv0 : MvInv w.heap.size g cap w2.heap.size m X M w w3 0 := by
          refine ⟨?_, (HO.out.1).kept hg3 (.inr (by simp [Value.ownBlock])), ?_⟩
          · have e : (upto M m 0).map (Value.int .i64) = (madeCells (Value.int .i64 0).cells (m * 1)).toList := by
              simp [upto, Value.cells, toList_madeCells_one]
            rw [e]; exact hown3
          · exact (show Below w.heap.size w w2 from HO.out.2.1).grown hg3 hbase (fun k hk => by simp at hk)
        have hne : g ≠ w2.heap.size := by have := HO.out.2.2; omega
        have hne' : g ≠ w2.heap.size := hne
        have HI0 := Lib.hid hinv0
        clear hinv0 hown3 hg3
        go_loopw [17] (fun i wr => ∃ j : Nat, j ≤ m ∧ i = .int .i64 j ∧ MvInv w.heap.size g cap w2.heap.size m X M w wr j) (fun i _ => m - (intOf i).toNat)
        case atStart => exact ⟨0, Nat.zero_le _, rfl, HI0.out⟩
        case round =>
          obtain ⟨j, hj, rfl, hinv⟩ := hrel
          by_cases hlt : j < m
          · have hx := HMJ2.out j hlt
            obtain ⟨⟨u, hu⟩, hfz, hXc⟩ := hinv.cells hlt HLM.out
            by_cases h0 : 0 ≤ (j : Int) + U
            · by_cases h1 : (j : Int) + U < m
              · obtain ⟨F, hF⟩ : ∃ F : Nat, (j : Int) + U = (F : Int) := ⟨((j : Int) + U).toNat, by omega⟩
                obtain ⟨x, hxx⟩ : ∃ x, X[F]? = some x := ⟨_, List.getElem?_eq_getElem (by have := HX.out; omega)⟩
                have he : movAt 13 m X U 1 j = x := by
                  unfold movAt
                  simp only [movFrom, if_true]
                  rw [if_pos (by omega), hF]
                  simp [hxx]
                rw [he] at hx
                have hst := Lib.hid (hinv.step2 (f := 1) hbase hne' HLM.out hx)
                have hcx := hXc F x hxx
                have hFm : F < m := by omega
                have hU1 : U < m := by omega
                clear hx hinv hXc hxx h0 h1 he
                go_wp2_with fail
                go_roundw
                case rel => exact ⟨j + 1, by omega, by go_num, hst.out⟩
                case measure => simp [intOf] <;> omega
              · have he : movAt 13 m X U 1 j = 1 := by unfold movAt; rw [if_neg (by simp only [movFrom, if_true]; omega)]
                rw [he] at hx
                have hst := Lib.hid (hinv.step hbase hne' HLM.out hx)
                clear hx hinv hXc
                go_wp2_with fail
                go_roundw
                case rel => exact ⟨j + 1, by omega, by go_num, hst.out⟩
                case measure => simp [intOf] <;> omega
            · exfalso; omega
          · obtain rfl : j = m := by omega
            have hl := HLM.out
            have hown := hinv.1
            have hbel := hinv.2.2
            rw [upto_all M j hl] at hown
            have hs := SlC.of_owns hown
            have HF := Lib.hid (refFrom_any k M (.slice (some ⟨w2.heap.size, 0, none⟩) j j) wr (by rw [hl]; exact hs) (by rw [hl]; omega))
            rw [hl, ← HM.out, Nat.min_self] at HF
            clear hs hown hl hinv
            go_wp2_with (first | (go_at_call 90; refine HF.out.mono ?_; rintro e w' ⟨rfl, rfl⟩))
            go_ret
            exact ⟨rfl, hbel⟩


set_option maxHeartbeats 4000000 in
theorem refMoved_spr (k a b : Int) (hpos : 0 < wid k) (hs : sgn k = true) (ha : ¬ a < 0) (w : World) :
    Calls Try.prog 94 #[.int .i64 13, .int .i64 k, .int .i64 a, .int .i64 b] w fun e w' => e = .returned (.int .i64 (wkr k (fromS (movedL 13 (wid k) (bitsL (wid k) a) (b % 2 ^ wid k) 0) (wid k)))) ∧ Ext w w' := by
  have hm64 := wid_le k
  obtain ⟨X, hX⟩ : ∃ X, X = bitsL (wid k) a := ⟨_, rfl⟩
  obtain ⟨Y, hY⟩ : ∃ Y, Y = bitsL (wid k) b := ⟨_, rfl⟩
  have hYj : ∀ j : Nat, j < wid k → Y[j]? = some (b / 2 ^ j % 2) := fun j hj => by rw [hY]; exact bitsL_at _ _ _ hj
  have hlX : X.length = wid k := by rw [hX]; exact bitsL_length _ _
  have hA := fun (w : World) => refBits_any k a w
  have hB := fun (w : World) => refBits_any k b w
  rw [← hX] at hA ⊢
  rw [← hY] at hB
  clear hX hY
  obtain ⟨m, hm⟩ : ∃ m, m = wid k := ⟨_, rfl⟩
  rw [← hm] at hpos hm64 hlX hYj hA hB ⊢
  obtain ⟨M, hM⟩ : ∃ M, M = movedL 13 m X (b % 2 ^ m) 0 := ⟨_, rfl⟩
  have hlM : M.length = m := by rw [hM]; simp [movedL]
  have hMj : ∀ j : Nat, j < m → M[j]? = some (movAt 13 m X (b % 2 ^ m) 0 j) := fun j hj => by rw [hM]; simp [movedL, hj]
  rw [← hM]
  have hU : topN m b 0 = b % 2 ^ m := by simp [topN]
  have HU := Lib.hid hU
  have HM := Lib.hid hm
  have HX := Lib.hid hlX
  have HMJ := Lib.hid hMj
  have HLM := Lib.hid hlM
  have HYJ := Lib.hid hYj
  have HA := Lib.hid hA
  have HBB := Lib.hid hB
  clear hm hlX hYj hA hB hU hMj hlM hM
  go_enter Try.func94, Try.ntmps94
  go_wp2_with fail
  refine (HA.out _).mono ?_
  rintro e w1 ⟨v1, rfl, hown1, hx1⟩
  obtain ⟨g, cap, rfl, hg, hcap, hgs⟩ := ownsRow_some hown1 hpos
  go_wp2_with (first | (go_at_call 103; refine (refSigned_any _ _).mono ?_; rintro e w' ⟨rfl, rfl⟩))
  refine (HBB.out _).mono ?_
  rintro e w2 ⟨v2, rfl, hown2, hx2⟩
  obtain ⟨g2, cap2, rfl, hg2, hcap2, hgs2⟩ := ownsRow_some hown2 hpos
  have hcells : ∀ j : Nat, j < m → w2.cell? ⟨g2, j, none⟩ = some (.int .i64 (b / 2 ^ j % 2)) := fun j hj => by
    rw [hown2.cellAt j (by omega), List.getElem?_map, HYJ.out j hj]; rfl
  have HC := Lib.hid hcells
  have hown := ownsRow_ext hown1 hx2
  have hx := hx1.trans hx2
  have hgs' : g < w2.heap.size := Nat.lt_of_lt_of_le hgs hx2.size
  have HO := Lib.hid (And.intro hown (And.intro hx hgs'))
  clear hown1 hown2 hx1 hx2 hgs hcells hown hx hgs' hgs2 hg2
  go_wp2_with fail
  go_loop [13, 14, 15] (fun far n i => ∃ j : Nat, j ≤ m ∧ i = .int .i64 ((j : Int) - 1) ∧ n = .int .i64 (capN m (topN m b j)) ∧ far = .bool (decide ((m : Int) ≤ topN m b j))) (fun _ _ i => (intOf i + 1).toNat)
  case atStart => exact ⟨m, Nat.le_refl _, rfl, by rw [topN_start]; simp [capN]; omega, by rw [topN_start]; simp; omega⟩
  case round =>
    obtain ⟨j, hj, rfl, rfl, rfl⟩ := hrel
    by_cases hlt : 0 < j
    · obtain ⟨i, rfl⟩ : ∃ i, j = i + 1 := ⟨j - 1, by omega⟩
      have e : ((i + 1 : Nat) : Int) - 1 = (i : Int) := by omega
      rw [e]
      have him : i < m := by omega
      clear e hlt
      have hcell := HC.out i him
      have hbit : 0 ≤ b / 2 ^ i % 2 ∧ b / 2 ^ i % 2 ≤ 1 := by omega
      have hy := Lib.hid (@capN_yes m b i him)
      have hn := Lib.hid (@capN_no m b i him)
      have hbd := capN_bd m _ (topN_pos m b (i + 1))
      generalize hN : capN m (topN m b (i + 1)) = N at *
      generalize hF : decide ((m : Int) ≤ topN m b (i + 1)) = F at *
      generalize b / 2 ^ i % 2 = y at *
      clear hN hF
      obtain ⟨y0, y1⟩ := hbit
      obtain ⟨n0, n1⟩ := hbd
      by_cases hc : (m : Int) ≤ 2 * N + y
      · have HY := Lib.hid (hy.out hc)
        go_wp2
        go_round
        case rel => exact ⟨i, by omega, rfl, by rw [HY.out.1], by rw [HY.out.2]⟩
        case measure => simp [intOf] <;> omega
      · have HY := Lib.hid (hn.out hc)
        go_wp2
        go_round
        case rel => exact ⟨i, by omega, rfl, by rw [HY.out.1], by rw [HY.out.2]⟩
        case measure => simp [intOf] <;> omega
    · obtain rfl : j = 0 := by omega
      have e : ((0 : Nat) : Int) - 1 = -1 := by omega
      rw [e, HU.out]
      have hU0 : 0 ≤ b % 2 ^ m := by have := topN_pos m b 0; rw [HU.out] at this; exact this
      obtain ⟨U, hUU⟩ : ∃ U, U = b % 2 ^ m := ⟨_, rfl⟩
      rw [← hUU] at hU0 ⊢
      have HMJ' := HMJ.out
      rw [← hUU] at HMJ'
      have HMJ2 := Lib.hid HMJ'
      clear hUU HMJ' HMJ e
      have hbase : w.heap.size ≤ w2.heap.size := HO.out.2.1.size
      have hN : capN m U = if (m : Int) ≤ U then (m : Int) else U := rfl
      by_cases hfar : (m : Int) ≤ U
      · rw [if_pos hfar] at hN; rw [decide_eq_true hfar]
        rw [hN]
        clear hN
        go_wp2_with (at_make; refine wpList_make_full _ rfl _ _ 22 rfl w.heap.size 3 _ (.int .i64 0) 1 Try.underlying22 rfl rfl rfl .i64 .i64 (m : Int) (m : Int) m rfl rfl rfl rfl (by have := (info_parts infoInt); show 8 * m ≤ _; omega) (by unfold maxLen; omega) hbase ?_; intro w3 hown3 hg3)
        have hinv0 : MvInv w.heap.size g cap w2.heap.size m X M w w3 0 := by
          refine ⟨?_, (HO.out.1).kept hg3 (.inr (by simp [Value.ownBlock])), ?_⟩
          · have e : (upto M m 0).map (Value.int .i64) = (madeCells (Value.int .i64 0).cells (m * 1)).toList := by
              simp [upto, Value.cells, toList_madeCells_one]
            rw [e]; exact hown3
          · exact (show Below w.heap.size w w2 from HO.out.2.1).grown hg3 hbase (fun k hk => by simp at hk)
        have hne : g ≠ w2.heap.size := by have := HO.out.2.2; omega
        have hne' : g ≠ w2.heap.size := hne
        have HI0 := Lib.hid hinv0
        clear hinv0 hown3 hg3
        go_loopw [17] (fun i wr => ∃ j : Nat, j ≤ m ∧ i = .int .i64 j ∧ MvInv w.heap.size g cap w2.heap.size m X M w wr j) (fun i _ => m - (intOf i).toNat)
        case atStart => exact ⟨0, Nat.zero_le _, rfl, HI0.out⟩
        case round =>
          obtain ⟨j, hj, rfl, hinv⟩ := hrel
          by_cases hlt : j < m
          · have hx := HMJ2.out j hlt
            obtain ⟨⟨u, hu⟩, hfz, hXc⟩ := hinv.cells hlt HLM.out
            have he : movAt 13 m X U 0 j = 0 := by unfold movAt; rw [if_neg (by simp only [movFrom, if_true]; omega)]
            rw [he] at hx
            have hst := Lib.hid (hinv.step hbase hne' HLM.out hx)
            clear hx hinv hXc
            go_wp2_with fail
            go_roundw
            case rel => exact ⟨j + 1, by omega, by go_num, hst.out⟩
            case measure => simp [intOf] <;> omega
          · obtain rfl : j = m := by omega
            have hl := HLM.out
            have hown := hinv.1
            have hbel := hinv.2.2
            rw [upto_all M j hl] at hown
            have hs := SlC.of_owns hown
            have HF := Lib.hid (refFrom_any k M (.slice (some ⟨w2.heap.size, 0, none⟩) j j) wr (by rw [hl]; exact hs) (by rw [hl]; omega))
            rw [hl, ← HM.out, Nat.min_self] at HF
            clear hs hown hl hinv
            go_wp2_with (first | (go_at_call 90; refine HF.out.mono ?_; rintro e w' ⟨rfl, rfl⟩))
            go_ret
            exact ⟨rfl, hbel⟩
      · rw [if_neg hfar] at hN; rw [decide_eq_false hfar]
        rw [hN]
        clear hN
        go_wp2_with (at_make; refine wpList_make_full _ rfl _ _ 22 rfl w.heap.size 3 _ (.int .i64 0) 1 Try.underlying22 rfl rfl rfl .i64 .i64 (m : Int) (m : Int) m rfl rfl rfl rfl (by have := (info_parts infoInt); show 8 * m ≤ _; omega) (by unfold maxLen; omega) hbase ?_; intro w3 hown3 hg3)
        have hinv0 : MvInv w.heap.size g cap w2.heap.size m X M w w3 0 := by
          refine ⟨?_, (HO.out.1).kept hg3 (.inr (by simp [Value.ownBlock])), ?_⟩
          · have e : (upto M m 0).map (Value.int .i64) = (madeCells (Value.int .i64 0).cells (m * 1)).toList := by
              simp [upto, Value.cells, toList_madeCells_one]
            rw [e]; exact hown3
          · exact (show Below w.heap.size w w2 from HO.out.2.1).grown hg3 hbase (fun k hk => by simp at hk)
        have hne : g ≠ w2.heap.size := by have := HO.out.2.2; omega
        have hne' : g ≠ w2.heap.size := hne
        have HI0 := Lib.hid hinv0
        clear hinv0 hown3 hg3
        go_loopw [17] (fun i wr => ∃ j : Nat, j ≤ m ∧ i = .int .i64 j ∧ MvInv w.heap.size g cap w2.heap.size m X M w wr j) (fun i _ => m - (intOf i).toNat)
        case atStart => exact ⟨0, Nat.zero_le _, rfl, HI0.out⟩
        case round =>
          obtain ⟨j, hj, rfl, hinv⟩ := hrel
          by_cases hlt : j < m
          · have hx := HMJ2.out j hlt
            obtain ⟨⟨u, hu⟩, hfz, hXc⟩ := hinv.cells hlt HLM.out
            by_cases h0 : 0 ≤ (j : Int) + U
            · by_cases h1 : (j : Int) + U < m
              · obtain ⟨F, hF⟩ : ∃ F : Nat, (j : Int) + U = (F : Int) := ⟨((j : Int) + U).toNat, by omega⟩
                obtain ⟨x, hxx⟩ : ∃ x, X[F]? = some x := ⟨_, List.getElem?_eq_getElem (by have := HX.out; omega)⟩
                have he : movAt 13 m X U 0 j = x := by
                  unfold movAt
                  simp only [movFrom, if_true]
                  rw [if_pos (by omega), hF]
                  simp [hxx]
                rw [he] at hx
                have hst := Lib.hid (hinv.step2 (f := 0) hbase hne' HLM.out hx)
                have hcx := hXc F x hxx
                have hFm : F < m := by omega
                have hU1 : U < m := by omega
                clear hx hinv hXc hxx h0 h1 he
                go_wp2_with fail
                go_roundw
                case rel => exact ⟨j + 1, by omega, by go_num, hst.out⟩
                case measure => simp [intOf] <;> omega
              · have he : movAt 13 m X U 0 j = 0 := by unfold movAt; rw [if_neg (by simp only [movFrom, if_true]; omega)]
                rw [he] at hx
                have hst := Lib.hid (hinv.step hbase hne' HLM.out hx)
                clear hx hinv hXc
                go_wp2_with fail
                go_roundw
                case rel => exact ⟨j + 1, by omega, by go_num, hst.out⟩
                case measure => simp [intOf] <;> omega
            · exfalso; omega
          · obtain rfl : j = m := by omega
            have hl := HLM.out
            have hown := hinv.1
            have hbel := hinv.2.2
            rw [upto_all M j hl] at hown
            have hs := SlC.of_owns hown
            have HF := Lib.hid (refFrom_any k M (.slice (some ⟨w2.heap.size, 0, none⟩) j j) wr (by rw [hl]; exact hs) (by rw [hl]; omega))
            rw [hl, ← HM.out, Nat.min_self] at HF
            clear hs hown hl hinv
            go_wp2_with (first | (go_at_call 90; refine HF.out.mono ?_; rintro e w' ⟨rfl, rfl⟩))
            go_ret
            exact ⟨rfl, hbel⟩


set_option maxHeartbeats 4000000 in
theorem refMoved_shr (k a b : Int) (hpos : 0 < wid k) (hs : sgn k = false) (w : World) :
    Calls Try.prog 94 #[.int .i64 13, .int .i64 k, .int .i64 a, .int .i64 b] w fun e w' => e = .returned (.int .i64 (wkr k (fromS (movedL 13 (wid k) (bitsL (wid k) a) (b % 2 ^ wid k) 0) (wid k)))) ∧ Ext w w' := by
  have hm64 := wid_le k
  obtain ⟨X, hX⟩ : ∃ X, X = bitsL (wid k) a := ⟨_, rfl⟩
  obtain ⟨Y, hY⟩ : ∃ Y, Y = bitsL (wid k) b := ⟨_, rfl⟩
  have hYj : ∀ j : Nat, j < wid k → Y[j]? = some (b / 2 ^ j % 2) := fun j hj => by rw [hY]; exact bitsL_at _ _ _ hj
  have hlX : X.length = wid k := by rw [hX]; exact bitsL_length _ _
  have hA := fun (w : World) => refBits_any k a w
  have hB := fun (w : World) => refBits_any k b w
  rw [← hX] at hA ⊢
  rw [← hY] at hB
  clear hX hY
  obtain ⟨m, hm⟩ : ∃ m, m = wid k := ⟨_, rfl⟩
  rw [← hm] at hpos hm64 hlX hYj hA hB ⊢
  obtain ⟨M, hM⟩ : ∃ M, M = movedL 13 m X (b % 2 ^ m) 0 := ⟨_, rfl⟩
  have hlM : M.length = m := by rw [hM]; simp [movedL]
  have hMj : ∀ j : Nat, j < m → M[j]? = some (movAt 13 m X (b % 2 ^ m) 0 j) := fun j hj => by rw [hM]; simp [movedL, hj]
  rw [← hM]
  have hU : topN m b 0 = b % 2 ^ m := by simp [topN]
  have HU := Lib.hid hU
  have HM := Lib.hid hm
  have HX := Lib.hid hlX
  have HMJ := Lib.hid hMj
  have HLM := Lib.hid hlM
  have HYJ := Lib.hid hYj
  have HA := Lib.hid hA
  have HBB := Lib.hid hB
  clear hm hlX hYj hA hB hU hMj hlM hM
  go_enter Try.func94, Try.ntmps94
  go_wp2_with fail
  refine (HA.out _).mono ?_
  rintro e w1 ⟨v1, rfl, hown1, hx1⟩
  obtain ⟨g, cap, rfl, hg, hcap, hgs⟩ := ownsRow_some hown1 hpos
  go_wp2_with (first | (go_at_call 103; refine (refSigned_any _ _).mono ?_; rintro e w' ⟨rfl, rfl⟩))
  refine (HBB.out _).mono ?_
  rintro e w2 ⟨v2, rfl, hown2, hx2⟩
  obtain ⟨g2, cap2, rfl, hg2, hcap2, hgs2⟩ := ownsRow_some hown2 hpos
  have hcells : ∀ j : Nat, j < m → w2.cell? ⟨g2, j, none⟩ = some (.int .i64 (b / 2 ^ j % 2)) := fun j hj => by
    rw [hown2.cellAt j (by omega), List.getElem?_map, HYJ.out j hj]; rfl
  have HC := Lib.hid hcells
  have hown := ownsRow_ext hown1 hx2
  have hx := hx1.trans hx2
  have hgs' : g < w2.heap.size := Nat.lt_of_lt_of_le hgs hx2.size
  have HO := Lib.hid (And.intro hown (And.intro hx hgs'))
  clear hown1 hown2 hx1 hx2 hgs hcells hown hx hgs' hgs2 hg2
  go_wp2_with fail
  go_loop [13, 14, 15] (fun far n i => ∃ j : Nat, j ≤ m ∧ i = .int .i64 ((j : Int) - 1) ∧ n = .int .i64 (capN m (topN m b j)) ∧ far = .bool (decide ((m : Int) ≤ topN m b j))) (fun _ _ i => (intOf i + 1).toNat)
  case atStart => exact ⟨m, Nat.le_refl _, rfl, by rw [topN_start]; simp [capN]; omega, by rw [topN_start]; simp; omega⟩
  case round =>
    obtain ⟨j, hj, rfl, rfl, rfl⟩ := hrel
    by_cases hlt : 0 < j
    · obtain ⟨i, rfl⟩ : ∃ i, j = i + 1 := ⟨j - 1, by omega⟩
      have e : ((i + 1 : Nat) : Int) - 1 = (i : Int) := by omega
      rw [e]
      have him : i < m := by omega
      clear e hlt
      have hcell := HC.out i him
      have hbit : 0 ≤ b / 2 ^ i % 2 ∧ b / 2 ^ i % 2 ≤ 1 := by omega
      have hy := Lib.hid (@capN_yes m b i him)
      have hn := Lib.hid (@capN_no m b i him)
      have hbd := capN_bd m _ (topN_pos m b (i + 1))
      generalize hN : capN m (topN m b (i + 1)) = N at *
      generalize hF : decide ((m : Int) ≤ topN m b (i + 1)) = F at *
      generalize b / 2 ^ i % 2 = y at *
      clear hN hF
      obtain ⟨y0, y1⟩ := hbit
      obtain ⟨n0, n1⟩ := hbd
      by_cases hc : (m : Int) ≤ 2 * N + y
      · have HY := Lib.hid (hy.out hc)
        go_wp2
        go_round
        case rel => exact ⟨i, by omega, rfl, by rw [HY.out.1], by rw [HY.out.2]⟩
        case measure => simp [intOf] <;> omega
      · have HY := Lib.hid (hn.out hc)
        go_wp2
        go_round
        case rel => exact ⟨i, by omega, rfl, by rw [HY.out.1], by rw [HY.out.2]⟩
        case measure => simp [intOf] <;> omega
    · obtain rfl : j = 0 := by omega
      have e : ((0 : Nat) : Int) - 1 = -1 := by omega
      rw [e, HU.out]
      have hU0 : 0 ≤ b % 2 ^ m := by have := topN_pos m b 0; rw [HU.out] at this; exact this
      obtain ⟨U, hUU⟩ : ∃ U, U = b % 2 ^ m := ⟨_, rfl⟩
      rw [← hUU] at hU0 ⊢
      have HMJ' := HMJ.out
      rw [← hUU] at HMJ'
      have HMJ2 := Lib.hid HMJ'
      clear hUU HMJ' HMJ e
      have hbase : w.heap.size ≤ w2.heap.size := HO.out.2.1.size
      have hN : capN m U = if (m : Int) ≤ U then (m : Int) else U := rfl
      by_cases hfar : (m : Int) ≤ U
      · rw [if_pos hfar] at hN; rw [decide_eq_true hfar]
        rw [hN]
        clear hN
        go_wp2_with (at_make; refine wpList_make_full _ rfl _ _ 22 rfl w.heap.size 3 _ (.int .i64 0) 1 Try.underlying22 rfl rfl rfl .i64 .i64 (m : Int) (m : Int) m rfl rfl rfl rfl (by have := (info_parts infoInt); show 8 * m ≤ _; omega) (by unfold maxLen; omega) hbase ?_; intro w3 hown3 hg3)
        have hinv0 : MvInv w.heap.size g cap w2.heap.size m X M w w3 0 := by
          refine ⟨?_, (HO.out.1).kept hg3 (.inr (by simp [Value.ownBlock])), ?_⟩
          · have e : (upto M m 0).map (Value.int .i64) = (madeCells (Value.int .i64 0).cells (m * 1)).toList := by
              simp [upto, Value.cells, toList_madeCells_one]
            rw [e]; exact hown3
          · exact (show Below w.heap.size w w2 from HO.out.2.1).grown hg3 hbase (fun k hk => by simp at hk)
        have hne : g ≠ w2.heap.size := by have := HO.out.2.2; omega
        have hne' : g ≠ w2.heap.size := hne
        have HI0 := Lib.hid hinv0
        clear hinv0 hown3 hg3
        go_loopw [17] (fun i wr => ∃ j : Nat, j ≤ m ∧ i = .int .i64 j ∧ MvInv w.heap.size g cap w2.heap.size m X M w wr j) (fun i _ => m - (intOf i).toNat)
        case atStart => exact ⟨0, Nat.zero_le _, rfl, HI0.out⟩
        case round =>
          obtain ⟨j, hj, rfl, hinv⟩ := hrel
          by_cases hlt : j < m
          · have hx := HMJ2.out j hlt
            obtain ⟨⟨u, hu⟩, hfz, hXc⟩ := hinv.cells hlt HLM.out
            have he : movAt 13 m X U 0 j = 0 := by unfold movAt; rw [if_neg (by simp only [movFrom, if_true]; omega)]
            rw [he] at hx
            have hst := Lib.hid (hinv.step hbase hne' HLM.out hx)
            clear hx hinv hXc
            go_wp2_with fail
            go_roundw
            case rel => exact ⟨j + 1, by omega, by go_num, hst.out⟩
            case measure => simp [intOf] <;> omega
          · obtain rfl : j = m := by omega
            have hl := HLM.out
            have hown := hinv.1
            have hbel := hinv.2.2
            rw [upto_all M j hl] at hown
            have hs := SlC.of_owns hown
            have HF := Lib.hid (refFrom_any k M (.slice (some ⟨w2.heap.size, 0, none⟩) j j) wr (by rw [hl]; exact hs) (by rw [hl]; omega))
            rw [hl, ← HM.out, Nat.min_self] at HF
            clear hs hown hl hinv
            go_wp2_with (first | (go_at_call 90; refine HF.out.mono ?_; rintro e w' ⟨rfl, rfl⟩))
            go_ret
            exact ⟨rfl, hbel⟩
      · rw [if_neg hfar] at hN; rw [decide_eq_false hfar]
        rw [hN]
        clear hN
        go_wp2_with (at_make; refine wpList_make_full _ rfl _ _ 22 rfl w.heap.size 3 _ (.int .i64 0) 1 Try.underlying22 rfl rfl rfl .i64 .i64 (m : Int) (m : Int) m rfl rfl rfl rfl (by have := (info_parts infoInt); show 8 * m ≤ _; omega) (by unfold maxLen; omega) hbase ?_; intro w3 hown3 hg3)
        have hinv0 : MvInv w.heap.size g cap w2.heap.size m X M w w3 0 := by
          refine ⟨?_, (HO.out.1).kept hg3 (.inr (by simp [Value.ownBlock])), ?_⟩
          · have e : (upto M m 0).map (Value.int .i64) = (madeCells (Value.int .i64 0).cells (m * 1)).toList := by
              simp [upto, Value.cells, toList_madeCells_one]
            rw [e]; exact hown3
          · exact (show Below w.heap.size w w2 from HO.out.2.1).grown hg3 hbase (fun k hk => by simp at hk)
        have hne : g ≠ w2.heap.size := by have := HO.out.2.2; omega
        have hne' : g ≠ w2.heap.size := hne
        have HI0 := Lib.hid hinv0
        clear hinv0 hown3 hg3
        go_loopw [17] (fun i wr => ∃ j : Nat, j ≤ m ∧ i = .int .i64 j ∧ MvInv w.heap.size g cap w2.heap.size m X M w wr j) (fun i _ => m - (intOf i).toNat)
        case atStart => exact ⟨0, Nat.zero_le _, rfl, HI0.out⟩
        case round =>
          obtain ⟨j, hj, rfl, hinv⟩ := hrel
          by_cases hlt : j < m
          · have hx := HMJ2.out j hlt
            obtain ⟨⟨u, hu⟩, hfz, hXc⟩ := hinv.cells hlt HLM.out
            by_cases h0 : 0 ≤ (j : Int) + U
            · by_cases h1 : (j : Int) + U < m
              · obtain ⟨F, hF⟩ : ∃ F : Nat, (j : Int) + U = (F : Int) := ⟨((j : Int) + U).toNat, by omega⟩
                obtain ⟨x, hxx⟩ : ∃ x, X[F]? = some x := ⟨_, List.getElem?_eq_getElem (by have := HX.out; omega)⟩
                have he : movAt 13 m X U 0 j = x := by
                  unfold movAt
                  simp only [movFrom, if_true]
                  rw [if_pos (by omega), hF]
                  simp [hxx]
                rw [he] at hx
                have hst := Lib.hid (hinv.step2 (f := 0) hbase hne' HLM.out hx)
                have hcx := hXc F x hxx
                have hFm : F < m := by omega
                have hU1 : U < m := by omega
                clear hx hinv hXc hxx h0 h1 he
                go_wp2_with fail
                go_roundw
                case rel => exact ⟨j + 1, by omega, by go_num, hst.out⟩
                case measure => simp [intOf] <;> omega
              · have he : movAt 13 m X U 0 j = 0 := by unfold movAt; rw [if_neg (by simp only [movFrom, if_true]; omega)]
                rw [he] at hx
                have hst := Lib.hid (hinv.step hbase hne' HLM.out hx)
                clear hx hinv hXc
                go_wp2_with fail
                go_roundw
                case rel => exact ⟨j + 1, by omega, by go_num, hst.out⟩
                case measure => simp [intOf] <;> omega
            · exfalso; omega
          · obtain rfl : j = m := by omega
            have hl := HLM.out
            have hown := hinv.1
            have hbel := hinv.2.2
            rw [upto_all M j hl] at hown
            have hs := SlC.of_owns hown
            have HF := Lib.hid (refFrom_any k M (.slice (some ⟨w2.heap.size, 0, none⟩) j j) wr (by rw [hl]; exact hs) (by rw [hl]; omega))
            rw [hl, ← HM.out, Nat.min_self] at HF
            clear hs hown hl hinv
            go_wp2_with (first | (go_at_call 90; refine HF.out.mono ?_; rintro e w' ⟨rfl, rfl⟩))
            go_ret
            exact ⟨rfl, hbel⟩

end Go.Proofs.Ytipfcfaigbeakaa

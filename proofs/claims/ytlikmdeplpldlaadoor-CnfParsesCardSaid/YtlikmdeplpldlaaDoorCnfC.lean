/-
  The walks: is a formula, is a net too much; does a model make a formula of the document hold.
  Conditions: they lie in memory.
-/
import Derived.Test.YtlikmdeplpldlaaDoorCnfB
namespace Go.Proofs.YtlikmdeplpldlaaDoor
open Go.RowKit
set_option linter.unusedSimpArgs false
set_option linter.unusedVariables false
set_option maxRecDepth 100000

/-- Are clauses too much? -/
def bigG : Nat → List (List Int) → Bool
  | k, [] => decide (6000 < k)
  | k, r :: rs => if k ≤ 6000 then bigG (k + 1 + r.length) rs else true
def bigF (x : Int) (rs : List (List Int)) : Bool := bigG 0 rs || decide (3000 < x)
theorem bigG_step {k : Nat} {rs : List (List Int)} {j : Nat} {r : List Int} (hr : rs[j]? = some r) (hk : k ≤ 6000) : bigG k (rs.drop j) = bigG (k + 1 + r.length) (rs.drop (j + 1)) := by
  obtain ⟨hl, e⟩ := List.getElem?_eq_some_iff.1 hr
  rw [List.drop_eq_getElem_cons hl, e, bigG, if_pos hk]
theorem bigG_over {k : Nat} {rs : List (List Int)} {j : Nat} (hj : j < rs.length) (hk : ¬ k ≤ 6000) : bigG k (rs.drop j) = true := by
  rw [List.drop_eq_getElem_cons hj, bigG, if_neg hk]
theorem bigG_small : ∀ (rs : List (List Int)) (k : Nat), bigG k rs = false → k + szF rs ≤ 6000
  | [], k, h => by rw [bigG] at h; simp at h; simp [szF]; omega
  | r :: rs, k, h => by
    rw [bigG] at h
    split at h
    · have := bigG_small rs _ h
      simp only [szF]
      omega
    · cases h
set_option maxHeartbeats 2000000 in
theorem big23_any (x : Int) (cv : Value) (vs : List Value) (rs : List (List Int)) (w : World) (h : RowsIn w cv vs rs) (hs : ∀ r ∈ rs, r.length ≤ 1000000000000000) :
    Calls Tryd.prog 9 #[.agg #[.int .i64 x, cv]] w fun e w' => e = .returned (.bool (bigF x rs)) ∧ Ext w w' := by
  obtain ⟨R, hR⟩ : ∃ R, R = bigF x rs := ⟨_, rfl⟩
  rw [← hR]
  have HRR : Hid (R = (bigG 0 (rs.drop 0) || decide (3000 < x))) := Lib.hid (by rw [hR, List.drop_zero]; rfl)
  obtain ⟨n, hn⟩ : ∃ n, n = rs.length := ⟨_, rfl⟩
  have HN := Lib.hid hn
  obtain ⟨a, cap, rfl, h1, h2, -⟩ := id h.top
  have hn0 : n ≤ 9223372036854775807 := by rw [hn]; exact Nat.le_trans h1 h2
  have HS := Lib.hid hs
  rw [← hn]
  have HR := Lib.hid h
  rw [← hn] at HR
  clear hR h hs hn h1 h2
  go_enter Tryd.func9, Tryd.ntmps9
  go_upto_region 1 with fail
  have hbX := BoxV.of_row (heap_alloc_last w (.cells #[.int .i64 x, .slice a n cap] 24))
  have hE : Ext w (w.alloc (.cells #[.int .i64 x, .slice a n cap] 24)) := (Ext.refl w).alloc _
  have HE := Lib.hid hE
  have HR1 := Lib.hid (HR.out.ext hE)
  generalize w.alloc (.cells #[.int .i64 x, .slice a n cap] 24) = w1 at hbX hE HE HR1 ⊢
  generalize w.heap.size = X at hbX ⊢
  have p0 := hbX.cells 0 _ rfl
  have p1 := hbX.cells 1 _ rfl
  have hXl := hbX.lt
  obtain ⟨a', cap', ea, -, -, htc⟩ := id HR1.out.top
  have HT : Hid (∀ (j : Nat) (u : Value), vs[j]? = some u → ∃ b o, a = some ⟨b, o, none⟩ ∧ w1.cell? ⟨b, o + j, none⟩ = some u) := Lib.hid (by
    simp only [Value.slice.injEq] at ea
    rw [ea.1]; exact htc)
  clear htc ea hbX hE HR
  go_wp2
  go_loopw [3, 4] (fun k i wr => ∃ j m : Nat, j ≤ n ∧ k = .int .i64 m ∧ i = .int .i64 j ∧ Ext w1 wr ∧ m ≤ 1000000000010000 ∧ Hid (R = (bigG m (rs.drop j) || decide (3000 < x)))) (fun _ i _ => n - (intOf i).toNat)
  case atStart => exact ⟨0, 0, Nat.zero_le _, rfl, rfl, Ext.refl _, by omega, HRR⟩
  case round =>
    obtain ⟨j, m, hj, rfl, rfl, hxr, hm, HK⟩ := hrel
    clear HRR
    obtain ⟨t1, rfl⟩ := hxr.tok
    clear hxr
    by_cases hlt : j < n
    · have hji : (j : Int) < (n : Int) := Int.ofNat_lt.2 hlt
      by_cases hk : m ≤ 6000
      · obtain ⟨y, r, hy, hr, hs⟩ := HR1.out.at (j := j) (by have := HN.out; omega)
        obtain ⟨b, o, rfl, g1⟩ := HT.out j y hy
        have z1 : b < w1.heap.size := World.block_lt_of_cell? w1 _ g1
        obtain ⟨ya, ycap, rfl, -⟩ := hs
        have hL0 := HS.out r (List.mem_of_getElem? hr)
        have HK2 : Hid (R = (bigG (m + 1 + r.length) (rs.drop (j + 1)) || decide (3000 < x))) := Lib.hid (by rw [HK.out, bigG_step hr hk])
        generalize r.length = L at g1 hL0 HK2
        have hki : (m : Int) ≤ 6000 := by omega
        clear hy hr
        go_wp2
        go_roundw
        case rel => exact ⟨j + 1, m + 1 + L, by omega, by go_num, by go_num, (by repeat first | exact Ext.refl _ | assumption | refine Ext.drew ?_ | refine Ext.drewN ?_ _ | refine Ext.extBy ?_ _ | refine Ext.alloc ?_ _ | refine Ext.setCell ?_ (by simp; try omega) _ | (refine Ext.trans ?_ (by assumption))), by omega, HK2⟩
        case measure => simp [intOf]; omega
      · have HF : Hid (R = true) := Lib.hid (by rw [HK.out, bigG_over (by have := HN.out; omega) hk]; rfl)
        have hki : ¬ (m : Int) ≤ 6000 := by omega
        have hki2 : 6000 < (m : Int) := by omega
        go_wp2
        go_ret
        exact ⟨by rw [HF.out]; rfl, HE.out.trans (by repeat first | exact Ext.refl _ | assumption | refine Ext.drew ?_ | refine Ext.drewN ?_ _ | refine Ext.extBy ?_ _ | refine Ext.alloc ?_ _ | refine Ext.setCell ?_ (by simp; try omega) _ | (refine Ext.trans ?_ (by assumption)))⟩
    · have hji : ¬ (j : Int) < (n : Int) := fun e => hlt (Int.ofNat_lt.1 e)
      have HF : Hid (R = (decide (6000 < m) || decide (3000 < x))) := Lib.hid (by rw [HK.out, List.drop_of_length_le (by have := HN.out; omega)]; rfl)
      by_cases hk : 6000 < m
      · have hki2 : 6000 < (m : Int) := by omega
        have HF2 : Hid (R = true) := Lib.hid (by rw [HF.out]; simp [hk])
        go_wp2
        go_ret
        exact ⟨by rw [HF2.out]; rfl, HE.out.trans (by repeat first | exact Ext.refl _ | assumption | refine Ext.drew ?_ | refine Ext.drewN ?_ _ | refine Ext.extBy ?_ _ | refine Ext.alloc ?_ _ | refine Ext.setCell ?_ (by simp; try omega) _ | (refine Ext.trans ?_ (by assumption)))⟩
      · have hki2 : ¬ 6000 < (m : Int) := by omega
        by_cases h3 : 3000 < x
        · have HF2 : Hid (R = true) := Lib.hid (by rw [HF.out]; simp [h3])
          go_wp2
          go_ret
          exact ⟨by rw [HF2.out]; rfl, HE.out.trans (by repeat first | exact Ext.refl _ | assumption | refine Ext.drew ?_ | refine Ext.drewN ?_ _ | refine Ext.extBy ?_ _ | refine Ext.alloc ?_ _ | refine Ext.setCell ?_ (by simp; try omega) _ | (refine Ext.trans ?_ (by assumption)))⟩
        · have HF2 : Hid (R = false) := Lib.hid (by rw [HF.out]; simp [h3]; omega)
          go_wp2
          go_ret
          exact ⟨by rw [HF2.out]; rfl, HE.out.trans (by repeat first | exact Ext.refl _ | assumption | refine Ext.drew ?_ | refine Ext.drewN ?_ _ | refine Ext.extBy ?_ _ | refine Ext.alloc ?_ _ | refine Ext.setCell ?_ (by simp; try omega) _ | (refine Ext.trans ?_ (by assumption)))⟩
theorem clV_step {m : List Bool} {r : List Int} {k : Nat} {y : Int} (h : r[k]? = some y) : clV m (r.take (k + 1)) = (clV m (r.take k) || litV m y) := by
  rw [List.take_add_one, h, Option.toList_some]
  simp [clV]
theorem frmV_step {m : List Bool} {r : List Int} {l : List (List Int)} {j : Nat} (h : l[j]? = some r) : frmV m (l.drop j) = (clV m r && frmV m (l.drop (j + 1))) := by
  obtain ⟨hl, e⟩ := List.getElem?_eq_some_iff.1 h
  rw [List.drop_eq_getElem_cons hl, e]
  simp [frmV]
set_option maxHeartbeats 4000000 in
theorem holdsR_any (x : Int) (cv mv : Value) (vs : List Value) (rs : List (List Int)) (m : List Bool) (w : World) (hx : x ≤ 200000) (hx2 : -9223372036854775808 ≤ x) (h : RowsIn w cv vs rs) (hs : szF rs ≤ 200000) (hm : SlC w mv m.length (bools m)) (hml : m.length ≤ 1000000) :
    Calls Tryd.prog 14 #[.agg #[.int .i64 x, cv], mv] w fun e w' => e = .returned (.bool (holdsF x rs m)) ∧ Ext w w' := by
  obtain ⟨R, hR⟩ : ∃ R, R = holdsF x rs m := ⟨_, rfl⟩
  rw [← hR]
  have HRR := Lib.hid hR
  have hlen := szF_len rs
  obtain ⟨n, hn⟩ : ∃ n, n = rs.length := ⟨_, rfl⟩
  have HN := Lib.hid hn
  obtain ⟨ch, hch⟩ : ∃ ch, ch = chkF x rs := ⟨_, rfl⟩
  have HCF : Hid (∀ w', Ext w w' → Calls Tryd.prog 12 #[.agg #[.int .i64 x, cv]] w' fun e w1 => e = .returned (.int .i64 ch) ∧ Ext w' w1) := Lib.hid fun w' hx' => by rw [hch]; exact checkFR_any x cv vs rs w' hx hx2 (h.ext hx') hs
  have HCH := Lib.hid hch
  obtain ⟨a, cap, rfl, -, -, -⟩ := id h.top
  obtain ⟨ma, mcap, rfl, -, -, hmc⟩ := id hm
  have HMC := Lib.hid hmc
  obtain ⟨M, hM⟩ : ∃ M, M = m.length := ⟨_, rfl⟩
  have HML := Lib.hid hM
  have hn2 : n ≤ 200000 := by omega
  have HS := Lib.hid hs
  rw [← hn] at HCF ⊢
  rw [← hM] at hml ⊢
  have HR := Lib.hid h
  rw [← hn] at HR
  clear hR h hlen hs hn hch hm hmc hM
  go_enter Tryd.func14, Tryd.ntmps14
  go_upto_region 1 with fail
  have hbX := BoxV.of_row (heap_alloc_last w (.cells #[.int .i64 x, .slice a n cap] 24))
  have hE : Ext w (w.alloc (.cells #[.int .i64 x, .slice a n cap] 24)) := (Ext.refl w).alloc _
  have HE := Lib.hid hE
  have HR1 := Lib.hid (HR.out.ext hE)
  have HCF1 : Hid (∀ w', Ext (w.alloc (.cells #[.int .i64 x, .slice a n cap] 24)) w' → Calls Tryd.prog 12 #[.agg #[.int .i64 x, .slice a n cap]] w' fun e w1 => e = .returned (.int .i64 ch) ∧ Ext w' w1) := Lib.hid fun w' hx' => HCF.out w' (hE.trans hx')
  have HMC1 : Hid (∀ (j : Nat) (u : Value), (bools m)[j]? = some u → ∃ b o, ma = some ⟨b, o, none⟩ ∧ (w.alloc (.cells #[.int .i64 x, .slice a n cap] 24)).cell? ⟨b, o + j, none⟩ = some u) := Lib.hid fun j u hu => by obtain ⟨b, o, e1, e2⟩ := HMC.out j u hu; exact ⟨b, o, e1, hE.cell e2⟩
  generalize w.alloc (.cells #[.int .i64 x, .slice a n cap] 24) = w1 at hbX hE HE HR1 HCF1 HMC1 ⊢
  generalize w.heap.size = X at hbX ⊢
  have p0 := hbX.cells 0 _ rfl
  have p1 := hbX.cells 1 _ rfl
  have hXl := hbX.lt
  obtain ⟨a', cap', ea, -, -, htc⟩ := id HR1.out.top
  have HT : Hid (∀ (j : Nat) (u : Value), vs[j]? = some u → ∃ b o, a = some ⟨b, o, none⟩ ∧ w1.cell? ⟨b, o + j, none⟩ = some u) := Lib.hid (by
    simp only [Value.slice.injEq] at ea
    rw [ea.1]; exact htc)
  clear htc ea hbX hE HR HCF HMC
  by_cases hc0 : ch = 0
  · subst hc0
    by_cases hlm : (M : Int) = x + 1
    · have hx0 : 0 ≤ x := by
        have h0 := HCH.out
        unfold chkF at h0
        by_cases hneg : x < 0
        · rw [if_pos hneg] at h0; cases h0
        · omega
      have HK0 : Hid (R = frmV m (rs.drop 0)) := Lib.hid (by
        rw [HRR.out, List.drop_zero]
        unfold holdsF
        rw [← HCH.out, ← HML.out, decide_eq_true hlm]
        simp)
      have HOK : Hid (frmOk x rs = true) := Lib.hid (by
        have := HCH.out
        unfold chkF at this
        rw [if_neg (by omega)] at this
        by_cases hh : frmOk x rs = true
        · exact hh
        · rw [if_neg hh] at this; cases this)
      go_upto_region 3 with (go_at_call 12; refine (HCF1.out _ (by repeat first | exact Ext.refl _ | assumption | refine Ext.drew ?_ | refine Ext.drewN ?_ _ | refine Ext.extBy ?_ _ | refine Ext.alloc ?_ _ | refine Ext.setCell ?_ (by simp; try omega) _ | (refine Ext.trans ?_ (by assumption)))).mono ?_; rintro e w4 ⟨rfl, hx4⟩; (first | (with_reducible obtain ⟨t4, rfl⟩ := Ext.tok2 hx4) | (obtain ⟨t4, rfl⟩ := Ext.tok hx4)))
      have hE4 : Ext w1 (w1.extBy t4) := (by repeat first | exact Ext.refl _ | assumption | refine Ext.drew ?_ | refine Ext.drewN ?_ _ | refine Ext.extBy ?_ _ | refine Ext.alloc ?_ _ | refine Ext.setCell ?_ (by simp; try omega) _ | (refine Ext.trans ?_ (by assumption)))
      go_wp2
      go_loopw [5] (fun i wr => ∃ j : Nat, j ≤ n ∧ i = .int .i64 j ∧ Ext w1 wr ∧ Hid (R = frmV m (rs.drop j))) (fun i _ => n - (intOf i).toNat)
      case atStart => exact ⟨0, Nat.zero_le _, rfl, hE4, HK0⟩
      case round =>
        obtain ⟨j, hj, rfl, hxr, HK⟩ := hrel
        obtain ⟨t1, rfl⟩ := hxr.tok
        clear hxr HK0 hE4
        by_cases hlt : j < n
        · obtain ⟨y, r, hy, hr, hs⟩ := HR1.out.at (j := j) (by have := HN.out; omega)
          obtain ⟨b, o, rfl, g1⟩ := HT.out j y hy
          have z1 : b < w1.heap.size := World.block_lt_of_cell? w1 _ g1
          have hmem := List.mem_of_getElem? hr
          have HRO : Hid (clOk x r = true) := Lib.hid (List.all_eq_true.1 HOK.out r hmem)
          obtain ⟨ya, ycap, rfl, -, -, hyc⟩ := hs
          have HYC := Lib.hid hyc
          obtain ⟨L, hL⟩ : ∃ L, L = r.length := ⟨_, rfl⟩
          have hLb : L ≤ 200000 := by have := szF_mem hmem; have := HS.out; omega
          have HST := Lib.hid (frmV_step (m := m) hr)
          have HLL := Lib.hid hL
          rw [← hL] at g1
          have hji : (j : Int) < (n : Int) := Int.ofNat_lt.2 hlt
          have HC0 : Hid (false = clV m (r.take 0)) := Lib.hid rfl
          clear hy hr hL hyc hmem
          go_wp2
          go_loopw [6, 7] (fun s i wr => ∃ (k : Nat) (c : Bool), k ≤ L ∧ s = .bool c ∧ i = .int .i64 k ∧ Ext w1 wr ∧ Hid (c = clV m (r.take k))) (fun _ i _ => L - (intOf i).toNat)
          case atStart => exact ⟨0, false, Nat.zero_le _, rfl, rfl, (by repeat first | exact Ext.refl _ | assumption | refine Ext.drew ?_ | refine Ext.drewN ?_ _ | refine Ext.extBy ?_ _ | refine Ext.alloc ?_ _ | refine Ext.setCell ?_ (by simp; try omega) _ | (refine Ext.trans ?_ (by assumption))), HC0⟩
          case round =>
            obtain ⟨k, c, hk, rfl, rfl, hxr, HC⟩ := hrel
            obtain ⟨t2, rfl⟩ := hxr.tok
            clear hxr HC0
            by_cases hkt : k < L
            · obtain ⟨y, hy⟩ : ∃ y, r[k]? = some y := ⟨_, List.getElem?_eq_getElem (by have := HLL.out; omega)⟩
              obtain ⟨b2, o2, rfl, g2⟩ := HYC.out k (.int .i64 y) (by simp [hy])
              have z2 : b2 < w1.heap.size := World.block_lt_of_cell? w1 _ g2
              have hok : litOk x y = true := List.all_eq_true.1 HRO.out y (List.mem_of_getElem? hy)
              have HCS := Lib.hid (clV_step (m := m) hy)
              have hki : (k : Int) < (L : Int) := Int.ofNat_lt.2 hkt
              unfold litOk at hok
              simp only [Bool.and_eq_true, bne_iff_ne, ne_eq, decide_eq_true_eq] at hok
              clear hy
              rcases Int.lt_or_gt_of_ne hok.1.1 with hneg | hpos
              · obtain ⟨q, rfl⟩ : ∃ q : Nat, y = -(q : Int) := ⟨(-y).toNat, by omega⟩
                have hqM : q < M := by omega
                obtain ⟨v0, hv0⟩ : ∃ v0, m[q]? = some v0 := ⟨_, List.getElem?_eq_getElem (by have := HML.out; omega)⟩
                obtain ⟨mb, mo, rfl, g3⟩ := HMC1.out q (.bool v0) (bools_at m q v0 hv0)
                have z3 : mb < w1.heap.size := World.block_lt_of_cell? w1 _ g3
                have HCV : Hid ((c || !v0) = clV m (r.take (k + 1))) := Lib.hid (by
                  rw [HCS.out, HC.out]
                  congr 1
                  unfold litV
                  rw [if_pos hneg, show (- -(q : Int)).toNat = q by omega]
                  simp [List.getD, hv0])
                have hqi : (q : Int) < (M : Int) := Int.ofNat_lt.2 hqM
                have hpos' : ¬ 0 < -(q : Int) := by omega
                clear hok hv0
                cases v0
                · go_wp2
                  go_roundw
                  case rel => exact ⟨k + 1, _, by omega, rfl, by go_num, (by repeat first | exact Ext.refl _ | assumption | refine Ext.drew ?_ | refine Ext.drewN ?_ _ | refine Ext.extBy ?_ _ | refine Ext.alloc ?_ _ | refine Ext.setCell ?_ (by simp; try omega) _ | (refine Ext.trans ?_ (by assumption))), by simpa using HCV⟩
                  case measure => simp [intOf]; omega
                · go_wp2
                  go_roundw
                  case rel => exact ⟨k + 1, _, by omega, rfl, by go_num, (by repeat first | exact Ext.refl _ | assumption | refine Ext.drew ?_ | refine Ext.drewN ?_ _ | refine Ext.extBy ?_ _ | refine Ext.alloc ?_ _ | refine Ext.setCell ?_ (by simp; try omega) _ | (refine Ext.trans ?_ (by assumption))), by simpa using HCV⟩
                  case measure => simp [intOf]; omega
              · obtain ⟨q, rfl⟩ : ∃ q : Nat, y = (q : Int) := ⟨y.toNat, by omega⟩
                have hqM : q < M := by omega
                obtain ⟨v0, hv0⟩ : ∃ v0, m[q]? = some v0 := ⟨_, List.getElem?_eq_getElem (by have := HML.out; omega)⟩
                obtain ⟨mb, mo, rfl, g3⟩ := HMC1.out q (.bool v0) (bools_at m q v0 hv0)
                have z3 : mb < w1.heap.size := World.block_lt_of_cell? w1 _ g3
                have HCV : Hid ((c || v0) = clV m (r.take (k + 1))) := Lib.hid (by
                  rw [HCS.out, HC.out]
                  congr 1
                  unfold litV
                  rw [if_neg (by omega), Int.toNat_natCast]
                  simp [List.getD, hv0])
                have hqi : (q : Int) < (M : Int) := Int.ofNat_lt.2 hqM
                have hneg' : ¬ (q : Int) < 0 := by omega
                clear hok hv0
                cases v0
                · go_wp2
                  go_roundw
                  case rel => exact ⟨k + 1, _, by omega, rfl, by go_num, (by repeat first | exact Ext.refl _ | assumption | refine Ext.drew ?_ | refine Ext.drewN ?_ _ | refine Ext.extBy ?_ _ | refine Ext.alloc ?_ _ | refine Ext.setCell ?_ (by simp; try omega) _ | (refine Ext.trans ?_ (by assumption))), by simpa using HCV⟩
                  case measure => simp [intOf]; omega
                · go_wp2
                  go_roundw
                  case rel => exact ⟨k + 1, _, by omega, rfl, by go_num, (by repeat first | exact Ext.refl _ | assumption | refine Ext.drew ?_ | refine Ext.drewN ?_ _ | refine Ext.extBy ?_ _ | refine Ext.alloc ?_ _ | refine Ext.setCell ?_ (by simp; try omega) _ | (refine Ext.trans ?_ (by assumption))), by simpa using HCV⟩
                  case measure => simp [intOf]; omega
            · have hki : ¬ (k : Int) < (L : Int) := fun e => hkt (Int.ofNat_lt.1 e)
              have HCA : Hid (c = clV m r) := Lib.hid (by rw [HC.out, List.take_of_length_le (by have := HLL.out; omega)])
              cases c
              · have HF : Hid (R = false) := Lib.hid (by rw [HK.out, HST.out, ← HCA.out]; rfl)
                go_wp2
                go_ret
                exact ⟨by rw [HF.out]; rfl, HE.out.trans (by repeat first | exact Ext.refl _ | assumption | refine Ext.drew ?_ | refine Ext.drewN ?_ _ | refine Ext.extBy ?_ _ | refine Ext.alloc ?_ _ | refine Ext.setCell ?_ (by simp; try omega) _ | (refine Ext.trans ?_ (by assumption)))⟩
              · have HF : Hid (R = frmV m (rs.drop (j + 1))) := Lib.hid (by rw [HK.out, HST.out, ← HCA.out]; rfl)
                go_wp2
                go_roundw
                case rel => exact ⟨j + 1, by omega, by go_num, (by repeat first | exact Ext.refl _ | assumption | refine Ext.drew ?_ | refine Ext.drewN ?_ _ | refine Ext.extBy ?_ _ | refine Ext.alloc ?_ _ | refine Ext.setCell ?_ (by simp; try omega) _ | (refine Ext.trans ?_ (by assumption))), HF⟩
                case measure => simp [intOf]; omega
        · have hji : ¬ (j : Int) < (n : Int) := fun e => hlt (Int.ofNat_lt.1 e)
          have HF : Hid (R = true) := Lib.hid (by rw [HK.out, List.drop_of_length_le (by have := HN.out; omega)]; rfl)
          go_wp2
          go_ret
          exact ⟨by rw [HF.out]; rfl, HE.out.trans (by repeat first | exact Ext.refl _ | assumption | refine Ext.drew ?_ | refine Ext.drewN ?_ _ | refine Ext.extBy ?_ _ | refine Ext.alloc ?_ _ | refine Ext.setCell ?_ (by simp; try omega) _ | (refine Ext.trans ?_ (by assumption)))⟩
    · have HF : Hid (R = false) := Lib.hid (by
        rw [HRR.out]
        unfold holdsF
        rw [← HML.out, decide_eq_false hlm]
        simp)
      have hlb : ((M : Int) != x + 1) = true := by simpa using hlm
      go_wp2_with (go_at_call 12; refine (HCF1.out _ (by repeat first | exact Ext.refl _ | assumption | refine Ext.drew ?_ | refine Ext.drewN ?_ _ | refine Ext.extBy ?_ _ | refine Ext.alloc ?_ _ | refine Ext.setCell ?_ (by simp; try omega) _ | (refine Ext.trans ?_ (by assumption)))).mono ?_; rintro e w4 ⟨rfl, hx4⟩; (first | (with_reducible obtain ⟨t4, rfl⟩ := Ext.tok2 hx4) | (obtain ⟨t4, rfl⟩ := Ext.tok hx4)))
      go_ret
      exact ⟨by rw [HF.out]; rfl, HE.out.trans (by repeat first | exact Ext.refl _ | assumption | refine Ext.drew ?_ | refine Ext.drewN ?_ _ | refine Ext.extBy ?_ _ | refine Ext.alloc ?_ _ | refine Ext.setCell ?_ (by simp; try omega) _ | (refine Ext.trans ?_ (by assumption)))⟩
  · have HF : Hid (R = false) := Lib.hid (by
      rw [HRR.out]
      unfold holdsF
      rw [← HCH.out]
      simp [hc0])
    have hcb : (ch != 0) = true := by simpa using hc0
    go_wp2_with (go_at_call 12; refine (HCF1.out _ (by repeat first | exact Ext.refl _ | assumption | refine Ext.drew ?_ | refine Ext.drewN ?_ _ | refine Ext.extBy ?_ _ | refine Ext.alloc ?_ _ | refine Ext.setCell ?_ (by simp; try omega) _ | (refine Ext.trans ?_ (by assumption)))).mono ?_; rintro e w4 ⟨rfl, hx4⟩; (first | (with_reducible obtain ⟨t4, rfl⟩ := Ext.tok2 hx4) | (obtain ⟨t4, rfl⟩ := Ext.tok hx4)))
    go_ret
    exact ⟨by rw [HF.out]; rfl, HE.out.trans (by repeat first | exact Ext.refl _ | assumption | refine Ext.drew ?_ | refine Ext.drewN ?_ _ | refine Ext.extBy ?_ _ | refine Ext.alloc ?_ _ | refine Ext.setCell ?_ (by simp; try omega) _ | (refine Ext.trans ?_ (by assumption)))⟩
end Go.Proofs.YtlikmdeplpldlaaDoor

/-
  What the reference's operations on one value do.
  No condition but that numbers fit 64 bits.
-/
import Derived.Test.YtkfljmdgegjgjaaRefWalkB
import Derived.Test.YtkfljmdgegjgjaaBvLaw
namespace Go.Proofs.Ytkfljmdgegjgjaa
open Go.RowKit

def runv (op k a : Int) : Int × Bool :=
  if isk k a = false then (0, false) else if op = 1 then (wkr k (fromS ((bitsL (wid k) a).map (fun x => 1 - x)) (wid k)), true)
  else if op = 2 ∧ k ≠ 1 then (wkr k (wrap64 (-a)), true) else (0, false)

set_option maxHeartbeats 1000000 in
theorem refUn_not (k a : Int) (hi : isk k a = true) (w : World) :
    Calls Try.prog 30 #[.int .i64 1, .int .i64 k, .int .i64 a] w fun e w' => e = .returned (.tuple #[.int .i64 (wkr k (fromS ((bitsL (wid k) a).map (fun x => 1 - x)) (wid k))), .bool true]) ∧ Ext w w' := by
  have hpos : 0 < wid k := by
    have h : decide (0 < width k) = true := by simp only [isk, Bool.and_eq_true] at hi; exact hi.1
    have := width_wid k
    simp at h; omega
  have hm64 := wid_le k
  obtain ⟨L, hL⟩ : ∃ L, L = bitsL (wid k) a := ⟨_, rfl⟩
  have hbit : ∀ (j : Nat) (x : Int), L[j]? = some x → 0 ≤ x ∧ x ≤ 1 := fun j x h => bitsL_bit (wid k) a j x (hL ▸ h)
  have hlen : L.length = wid k := by rw [hL]; exact bitsL_length _ _
  have hbits := fun (w : World) => refBits_any k a w
  rw [← hL] at hbits ⊢
  clear hL
  obtain ⟨m, hm⟩ : ∃ m, m = wid k := ⟨_, rfl⟩
  rw [← hm] at hpos hm64 hlen hbits ⊢
  have HM := Lib.hid hm
  clear hm
  have HL := Lib.hid hlen
  have HBT := Lib.hid hbits
  clear hlen hbits
  obtain ⟨B, hB⟩ : ∃ B, B = w.heap.size := ⟨_, rfl⟩
  have HB := Lib.hid hB
  clear hB
  go_enter Try.func30, Try.ntmps30
  go_wp2_with (first | (go_at_call 26; refine (refIs_any _ _ _).mono ?_; rintro e w' ⟨rfl, rfl⟩) | (go_at_call 45; refine (HBT.out _).mono ?_; rintro e w1 ⟨v, rfl, hown, hx⟩))
  obtain ⟨g, cap, rfl, hg, hcap, hgs⟩ := ownsRow_some hown hpos
  have hb : Below w.heap.size w w1 := hx
  rw [← HB.out] at hown hg hb
  clear hx
  go_loopw [9] (fun i wr => ∃ j : Nat, j ≤ m ∧ i = .int .i64 j ∧ wr.ownsRow B 3 1 (.slice (some ⟨g, 0, none⟩) m cap) m ((mix (fun x => 1 - x) L j).map (.int .i64)) ∧ Below B w wr) (fun i _ => m - (intOf i).toNat)
  case atStart => exact ⟨0, Nat.zero_le _, rfl, by rw [mix_zero]; exact hown, hb⟩
  case round =>
    clear hown hb
    obtain ⟨j, hj, rfl, hown, hb⟩ := hrel
    by_cases hlt : j < m
    · obtain ⟨x, hx⟩ : ∃ x, L[j]? = some x := ⟨_, List.getElem?_eq_getElem (by have := HL.out; omega)⟩
      have hbx := hbit j x hx
      have hmx := mix_at (fun x => 1 - x) L j x hx
      have hcell : wr.cell? ⟨g, j, none⟩ = some (.int .i64 x) := by rw [hown.cellAt j (by omega)]; simp [hmx]
      have hfr := hown.frozenAt j
      obtain ⟨hown', hgr⟩ := hown.stored j (.int .i64 (1 - x))
      have R := Lib.hid (And.intro hown' (And.intro hgr (Lib.hid (mix_set (fun x => 1 - x) L j x hx))))
      have hx0 : 0 ≤ x := hbx.1
      have hx1 : x ≤ 1 := hbx.2
      clear hown hown' hgr hmx hx hbit hbx
      go_wp2
      go_roundw
      case rel => exact ⟨j + 1, by omega, by go_num, by have h1 := R.out.1; rw [← List.map_set, R.out.2.2.out] at h1; exact h1, hb.setCell hg _⟩
      case measure => simp [intOf]; omega
    · obtain rfl : j = m := by omega
      rw [mix_all _ _ _ (by rw [HL.out]; omega)] at hown
      have hs := SlC.of_owns hown
      have hlen : (L.map (fun x => 1 - x)).length = j := by simp [HL.out]
      have HF := Lib.hid (refFrom_any k (L.map (fun x => 1 - x)) (.slice (some ⟨g, 0, none⟩) j cap) wr (by rw [hlen]; exact hs) (by rw [hlen]; omega))
      rw [hlen, ← HM.out, Nat.min_self] at HF
      clear hs hown hlen
      go_wp2_with (first | (go_at_call 46; refine HF.out.mono ?_; rintro e w' ⟨rfl, rfl⟩))
      go_ret2
      exact ⟨rfl, by unfold Ext; rw [← HB.out]; exact hb⟩

theorem refUn_any (op k a : Int) (w : World) :
    Calls Try.prog 30 #[.int .i64 op, .int .i64 k, .int .i64 a] w fun e w' => e = .returned (.tuple #[.int .i64 (runv op k a).1, .bool (runv op k a).2]) ∧ Ext w w' := by
  cases hi : isk k a
  · have hv : runv op k a = (0, false) := by simp [runv, hi]
    rw [hv]
    go_enter Try.func30, Try.ntmps30
    go_wp2_with (first | (go_at_call 26; refine (refIs_any _ _ _).mono ?_; rintro e w' ⟨rfl, rfl⟩))
    go_ret2
    exact ⟨rfl, Ext.refl _⟩
  by_cases h1 : op = 1
  · subst h1
    have hv : runv 1 k a = (wkr k (fromS ((bitsL (wid k) a).map (fun x => 1 - x)) (wid k)), true) := by simp [runv, hi]
    rw [hv]
    exact refUn_not k a hi w
  have b1 : (op == 1) = false := by simpa using h1
  have hv : runv op k a = if op = 2 ∧ k ≠ 1 then (wkr k (wrap64 (-a)), true) else (0, false) := by simp [runv, hi, h1]
  have HV := Lib.hid hv
  clear hv h1
  go_enter Try.func30, Try.ntmps30
  go_wp2_with (first | (go_at_call 26; refine (refIs_any _ _ _).mono ?_; rintro e w' ⟨rfl, rfl⟩) | (go_at_call 17; refine (refWrap_any _ _ _).mono ?_; rintro e w' ⟨rfl, rfl⟩))
  all_goals go_ret2
  all_goals rw [HV.out]
  all_goals refine ⟨?_, Ext.refl _⟩
  all_goals simp_all
end Go.Proofs.Ytkfljmdgegjgjaa

/-
  What the reference's functions of chapter 1 do that make slices.
  No condition but that numbers fit 64 bits.
-/
import Derived.Test.YtkfljmdgegjgjaaRefWalkA
namespace Go.Proofs.Ytkfljmdgegjgjaa
open Go.RowKit

theorem infoInt : (Try.prog.info? 3).map (fun i => (i.zero, i.size, i.bytes)) = some (some (.int .i64 0), 1, 8) := by kernel_rfl

set_option maxHeartbeats 1000000 in
theorem refBits_any (k n : Int) (w : World) :
    Calls Try.prog 45 #[.int .i64 k, .int .i64 n] w fun e w' => ∃ v, e = .returned v ∧ w'.ownsRow w.heap.size 3 1 v (wid k) ((bitsL (wid k) n).map (.int .i64)) ∧ Ext w w' := by
  obtain ⟨m, hm⟩ : ∃ m, m = wid k := ⟨_, rfl⟩
  have hw : width k = (m : Int) := by rw [hm]; exact width_wid k
  have hm64 : m ≤ 64 := by rw [hm]; exact wid_le k
  rw [← hm]
  clear hm
  obtain ⟨B, hB⟩ : ∃ B, B = w.heap.size := ⟨_, rfl⟩
  have HB := Lib.hid hB
  rw [← hB]
  clear hB
  go_enter Try.func45, Try.ntmps45
  go_wp2_with (first | (go_at_call 27; refine (refWidth_any _ _).mono ?_; rintro e w' ⟨rfl, rfl⟩))
  go_loopw [5, 7] (fun v i wr => ∃ j : Nat, j ≤ m ∧ i = .int .i64 j ∧ wr.ownsRow B 3 1 v j ((bitsL j n).map (.int .i64)) ∧ Below B w wr) (fun _ i _ => m - (intOf i).toNat)
  case atStart => exact ⟨0, Nat.zero_le _, rfl, World.ownsRow_nil _ _ _ _, Below.refl _ _⟩
  case round =>
    obtain ⟨j, hj, rfl, hown, hbel⟩ := hrel
    by_cases hlt : j < m
    · go_wp2_with (first | (go_at_call 63; refine (refBit_any _ _ (by omega) (by omega) _).mono ?_; rintro e w' ⟨rfl, rfl⟩) | (at_builtin; go_must (refine wpList_append_lit rfl _ _ 61 3 rfl (.int .i64 0) 1 8 Try.underlying61 infoInt rfl (by decide) B _ _ _ rfl hown 1 1 _ _ rfl (by simp) rfl (by simp [Value.oneCell']) (by unfold maxLen; omega) (by omega) (by have := hbel.size; have := HB.out; omega) ?_); intro v1 w1 hown1 hg1 hb1))
      go_roundw
      case rel => exact ⟨j + 1, by omega, by go_num, by rw [bitsL_succ, List.map_append]; exact hown1, hbel.trans hb1⟩
      case measure => simp [intOf]; omega
    · obtain rfl : j = m := by omega
      go_wp2
      go_ret
      exact ⟨_, rfl, hown, by unfold Ext; rw [← HB.out]; exact hbel⟩

theorem pow_le63 (k : Nat) (h : k ≤ 63) : (2 : Int) ^ k ≤ 9223372036854775808 := by
  have h1 : (2 : Nat) ^ k ≤ 2 ^ 63 := Nat.pow_le_pow_right (by decide) h
  have h2 : ((2 ^ k : Nat) : Int) ≤ ((2 ^ 63 : Nat) : Int) := Int.ofNat_le.2 h1
  rw [Int.natCast_pow] at h2
  exact h2
theorem pow_le62 (k : Nat) (h : k ≤ 62) : (2 : Int) ^ k ≤ 4611686018427387904 := by
  have h1 : (2 : Nat) ^ k ≤ 2 ^ 62 := Nat.pow_le_pow_right (by decide) h
  have h2 : ((2 ^ k : Nat) : Int) ≤ ((2 ^ 62 : Nat) : Int) := Int.ofNat_le.2 h1
  rw [Int.natCast_pow] at h2
  exact h2

set_option maxHeartbeats 1000000 in
theorem refFrom_any (k : Int) (l : List Int) (v : Value) (w : World) (hv : SlC w v l.length (l.map (.int .i64))) (hl : l.length ≤ 4294967296) :
    Calls Try.prog 46 #[.int .i64 k, v] w fun e w' => e = .returned (.int .i64 (wkr k (fromS l (min (wid k) l.length)))) ∧ w = w' := by
  obtain ⟨m, hm⟩ : ∃ m, m = wid k := ⟨_, rfl⟩
  have hw : width k = (m : Int) := by rw [hm]; exact width_wid k
  have hm64 : m ≤ 64 := by rw [hm]; exact wid_le k
  rw [← hm]
  clear hm
  obtain ⟨a, cap, rfl, hnc, hcm, hc⟩ := hv
  obtain ⟨n, hn⟩ : ∃ n, n = l.length := ⟨_, rfl⟩
  rw [← hn]
  rw [← hn] at hl hnc
  have HN := Lib.hid hn
  clear hn
  go_enter Try.func46, Try.ntmps46
  go_wp2_with (first | (go_at_call 27; refine (refWidth_any _ _).mono ?_; rintro e w' ⟨rfl, rfl⟩))
  go_loop [5, 7] (fun s i => ∃ j : Nat, j ≤ m ∧ j ≤ n ∧ i = .int .i64 j ∧ s = .int .i64 (fromS l j)) (fun _ i => m - (intOf i).toNat)
  case atStart => exact ⟨0, Nat.zero_le _, Nat.zero_le _, rfl, rfl⟩
  case round =>
    obtain ⟨j, hj, hjn, rfl, rfl⟩ := hrel
    by_cases hlt : j < m
    · by_cases hlt2 : j < n
      · have hb := fromS_bd l j (by omega)
        have hg : l[j]? = some (l[j]'(by have := HN.out; omega)) := List.getElem?_eq_getElem _
        obtain ⟨x, hx⟩ : ∃ x, x = l[j]'(by have := HN.out; omega) := ⟨_, rfl⟩
        rw [← hx] at hg
        clear hx
        obtain ⟨b, o, rfl, hcell⟩ := hc j (.int .i64 x) (by simp [hg])
        have hgd : l.getD j 0 = x := by simp [hg]
        have HS := Lib.hid (show fromS l (j + 1) = if x = 0 then fromS l j else if j = 63 then fromS l j + -9223372036854775808 else fromS l j + 2 ^ j from by rw [← hgd]; rfl)
        obtain ⟨s, hs⟩ : ∃ s, s = fromS l j := ⟨_, rfl⟩
        rw [← hs] at hb ⊢
        rw [← hs] at HS
        clear hs hgd hg hc
        by_cases hx0 : x = 0
        · subst hx0
          clear hb
          go_wp2
          go_round
          case rel => exact ⟨j + 1, by omega, by omega, by go_num, by rw [HS.out]; rfl⟩
          case measure => simp [intOf]; omega
        · have hx1 : (x == 0) = false := by simpa using hx0
          by_cases hj3 : j = 63
          · have hp := pow_le63 j (by omega)
            have hs1 : 0 ≤ s := hb.1
            have hs2 : s ≤ 9223372036854775807 := by omega
            clear hb hp
            have HS' := Lib.hid (HS.out.trans (by rw [if_neg hx0, if_pos hj3]))
            clear HS
            subst hj3
            go_wp2
            go_round
            case rel => exact ⟨64, by omega, by omega, rfl, by rw [HS'.out]⟩
            case measure => simp [intOf]; omega
          · have hp := pow_le62 j (by omega)
            have hp0 : (0 : Int) < 2 ^ j := Int.pow_pos (by decide)
            have hs1 : 0 ≤ s := hb.1
            have hs2 : s ≤ 4611686018427387903 := by omega
            clear hb
            have HS' := Lib.hid (HS.out.trans (by rw [if_neg hx0, if_neg hj3]))
            clear HS
            have hj63 : j < 63 := by omega
            go_wp2_with (first | (go_at_call 32; refine (refPower_any _ (by omega) _).mono ?_; rintro e w' ⟨rfl, rfl⟩))
            go_round
            case rel => exact ⟨j + 1, by omega, by omega, by go_num, by rw [HS'.out]⟩
            case measure => simp [intOf]; omega
      · obtain rfl : j = n := by omega
        go_wp2_with (first | (go_at_call 17; refine (refWrap_any _ _ _).mono ?_; rintro e w' ⟨rfl, rfl⟩))
        go_ret
        exact ⟨ret_int (by congr 2; omega), rfl⟩
    · obtain rfl : j = m := by omega
      go_wp2_with (first | (go_at_call 17; refine (refWrap_any _ _ _).mono ?_; rintro e w' ⟨rfl, rfl⟩))
      go_ret
      exact ⟨ret_int (by congr 2; omega), rfl⟩
end Go.Proofs.Ytkfljmdgegjgjaa

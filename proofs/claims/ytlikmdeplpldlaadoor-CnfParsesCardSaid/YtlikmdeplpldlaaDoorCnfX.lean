/-
  The reference's walk that writes a number.
  Conditions: the number fits 64 bits.
-/
import Derived.Test.YtlikmdeplpldlaaDoorCnfT
namespace Go.Proofs.YtlikmdeplpldlaaDoor
open Go.RowKit
set_option linter.unusedSimpArgs false
set_option linter.unusedVariables false
set_option maxRecDepth 100000

theorem decD_small {d : Nat} (h : d < 10) : Lib.decDigits d = [UInt8.ofNat (48 + d)] := Lib.decDigits_one h
theorem decD_step {u : Nat} (h : ¬ u < 10) : Lib.decDigits u = Lib.decDigits (u / 10) ++ [UInt8.ofNat (48 + u % 10)] := by
  conv => lhs; rw [Lib.decDigits, dif_neg h]
theorem dig_ext : ∀ d : Nat, d < 10 → (⟨#[48, 49, 50, 51, 52, 53, 54, 55, 56, 57]⟩ : ByteArray).extract d (d + 1) = ⟨#[UInt8.ofNat (48 + d)]⟩
  | 0, _ => rfl | 1, _ => rfl | 2, _ => rfl | 3, _ => rfl | 4, _ => rfl | 5, _ => rfl | 6, _ => rfl | 7, _ => rfl | 8, _ => rfl | 9, _ => rfl
  | d + 10, h => absurd h (by omega)
theorem str_app (a b : List UInt8) : (⟨a.toArray⟩ : ByteArray) ++ (⟨b.toArray⟩ : ByteArray) = ⟨(a ++ b).toArray⟩ := by
  ext1
  simp [ByteArray.data_append]
theorem numR_nat : ∀ (f u : Nat) (w : World), u < f → u < 1000000000 → Calls Tryd.prog 35 #[.int .i64 (u : Int)] w fun e w' => e = .returned (.string ⟨(Lib.decDigits u).toArray⟩) ∧ w = w'
  | 0, u, w, h, _ => absurd h (Nat.not_lt_zero _)
  | f + 1, u, w, h, hb => by
    have ih := fun (hu : 10 ≤ u) => numR_nat f (u / 10) w (by omega) (by omega)
    have hmod : (u : Int).tmod 10 = ((u % 10 : Nat) : Int) := by rw [Int.tmod_eq_emod_of_nonneg (by omega)]; omega
    have hdiv : (u : Int).tdiv 10 = ((u / 10 : Nat) : Int) := by rw [Int.tdiv_eq_ediv_of_nonneg (by omega)]; omega
    obtain ⟨d, hd⟩ : ∃ d, d = u % 10 := ⟨_, rfl⟩
    obtain ⟨q, hq⟩ : ∃ q, q = u / 10 := ⟨_, rfl⟩
    rw [← hd] at hmod
    rw [← hq] at hdiv
    have hd10 : (d : Int) < 10 := by omega
    have hn : ¬ (u : Int) < 0 := by omega
    have hq9 : (q : Int) < 1000000000 := by omega
    obtain ⟨c, hc⟩ : ∃ c : UInt8, c = UInt8.ofNat (48 + d) := ⟨_, rfl⟩
    have HCc := Lib.hid hc
    have hex := dig_ext d (by omega)
    rw [← hc] at hex
    clear hc
    have hu9 : (u : Int) < 1000000000 := by omega
    by_cases hu : 10 ≤ u
    · have hcq : Calls Tryd.prog 35 #[.int .i64 (q : Int)] w fun e w' => e = .returned (.string ⟨(Lib.decDigits q).toArray⟩) ∧ w = w' := by rw [hq]; exact ih hu
      have HI := Lib.hid (And.intro hcq (And.intro hd hq))
      have hu10 : (9 : Int) < (u : Int) := by omega
      clear ih hd hq hcq
      go_enter Tryd.func35, Tryd.ntmps35
      obtain ⟨tx, htx⟩ : ∃ t : ByteArray, t = ⟨(Lib.decDigits q).toArray⟩ := ⟨_, rfl⟩
      rw [← htx] at HI
      have HTX := Lib.hid htx
      have hts : tx.size ≤ 1000 := by
        rw [htx]
        have := Lib.itoa_length_le (q : Int) (by omega) (by omega)
        rw [Lib.itoa_nonneg] at this
        simp [ByteArray.size]; omega
      clear htx
      go_wp2_with (go_at_call 35; refine HI.out.1.mono ?_; rintro e w' ⟨rfl, rfl⟩)
      go_ret
      refine ⟨?_, rfl⟩
      rw [HTX.out, decD_step (u := u) (by omega), ← HI.out.2.1, ← HI.out.2.2, ← HCc.out, ← str_app]
      rfl
    · have hu10 : ¬ (9 : Int) < (u : Int) := by omega
      have hdu : d = u := by omega
      have HD := Lib.hid hdu
      clear ih hd hq hdu
      go_enter Tryd.func35, Tryd.ntmps35
      go_wp2
      go_ret
      refine ⟨?_, rfl⟩
      rw [decD_small (d := u) (by omega), ← HD.out, ← HCc.out]
      rfl
theorem numR_any (n : Int) (w : World) (h0 : -1000000000 < n) (h1 : n < 1000000000) : Calls Tryd.prog 35 #[.int .i64 n] w fun e w' => e = .returned (.string ⟨(Lib.itoa n).toArray⟩) ∧ w = w' := by
  by_cases hn : n < 0
  · obtain ⟨u, hu⟩ : ∃ u : Nat, -n = (u : Int) := ⟨(-n).toNat, by omega⟩
    obtain ⟨tx, htx⟩ : ∃ t : ByteArray, t = ⟨(Lib.decDigits u).toArray⟩ := ⟨_, rfl⟩
    have hc : Calls Tryd.prog 35 #[.int .i64 (-n)] w fun e w' => e = .returned (.string tx) ∧ w = w' := by rw [hu, htx]; exact numR_nat (u + 1) u w (by omega) (by omega)
    have HI := Lib.hid hc
    have hts : tx.size ≤ 1000 := by
      rw [htx]
      have := Lib.itoa_length_le (u : Int) (by omega) (by omega)
      rw [Lib.itoa_nonneg] at this
      simp [ByteArray.size]; omega
    have HTX := Lib.hid (And.intro htx (show Lib.itoa n = 45 :: Lib.decDigits u by rw [show n = -(u : Int) by omega]; exact Lib.itoa_neg u (by omega)))
    clear htx hu hc
    go_enter Tryd.func35, Tryd.ntmps35
    go_wp2_with (go_at_call 35; refine HI.out.mono ?_; rintro e w' ⟨rfl, rfl⟩)
    go_ret
    refine ⟨?_, rfl⟩
    rw [HTX.out.2, HTX.out.1, show (45 : UInt8) :: Lib.decDigits u = [45] ++ Lib.decDigits u from rfl, ← str_app]
    rfl
  · obtain ⟨u, rfl⟩ : ∃ u : Nat, n = (u : Int) := ⟨n.toNat, by omega⟩
    rw [Lib.itoa_nonneg]
    exact numR_nat (u + 1) u w (by omega) (by omega)
end Go.Proofs.YtlikmdeplpldlaaDoor

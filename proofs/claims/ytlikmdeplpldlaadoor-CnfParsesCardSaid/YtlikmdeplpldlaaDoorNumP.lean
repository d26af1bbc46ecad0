/-
  Numerals are read back; a numeral between separators is found.
  No condition.
-/
import Derived.Lib.AtoiAllCases
import Derived.Lib.ItoaMem
import Derived.Lib.IndexAny
import Derived.Lib.SlTrimSet
import Derived.Test.YtlikmdeplpldlaaDoorChecked
namespace Go.Proofs.YtlikmdeplpldlaaDoor
open Go.Lib

theorem dig_nat {d : Nat} (h : d < 10) : (UInt8.ofNat (48 + d)).toNat = 48 + d := by
  rw [UInt8.toNat_ofNat']; omega
theorem dec_digits : ∀ (u : Nat), ∀ b ∈ decDigits u, 48 ≤ b.toNat ∧ b.toNat ≤ 57
  | u, b, hb => by
    rw [decDigits] at hb
    split at hb
    · rename_i h
      rw [List.mem_singleton.1 hb, dig_nat h]; omega
    · rename_i h
      rw [List.mem_append] at hb
      rcases hb with hb | hb
      · exact dec_digits (u / 10) b hb
      · rw [List.mem_singleton.1 hb, dig_nat (Nat.mod_lt u (by omega : 10 > 0))]; have := Nat.mod_lt u (by omega : 10 > 0); omega
termination_by u => u
decreasing_by omega
theorem dec_ne (u : Nat) : decDigits u ≠ [] := by
  rw [decDigits]; split <;> simp
theorem parse_app : ∀ (l r : List UInt8) (acc m : Nat), parseUint10 acc l = .ok m → parseUint10 acc (l ++ r) = parseUint10 m r
  | [], r, acc, m, h => by simp only [parseUint10] at h; injection h with h; rw [h]; rfl
  | c :: l, r, acc, m, h => by
    rw [List.cons_append]
    simp only [parseUint10] at h ⊢
    split at h
    · rename_i h1
      rw [if_pos h1]
      split at h
      · cases h
      · rename_i h2
        rw [if_neg h2]
        split at h
        · cases h
        · rename_i h3
          rw [if_neg h3]
          exact parse_app l r _ m h
    · cases h
theorem parse_dec : ∀ (u : Nat), u < 1000000000000000000 → parseUint10 0 (decDigits u) = .ok u
  | u, hu => by
    rw [decDigits]
    split
    · rename_i h
      simp only [parseUint10, dig_nat h]
      rw [if_pos (by omega), if_neg (by omega), if_neg (by omega)]
      congr 1; omega
    · rename_i h
      rw [parse_app _ _ 0 (u / 10) (parse_dec (u / 10) (by omega))]
      simp only [parseUint10, dig_nat (Nat.mod_lt u (by omega : 10 > 0))]
      rw [if_pos (by omega), if_neg (by omega), if_neg (by omega)]
      congr 1; omega
termination_by u => u
decreasing_by omega
theorem mag_dec (u : Nat) (hu : u < 1000000000000000000) : parseMag (decDigits u) = .ok u := by
  unfold parseMag
  rw [if_neg (dec_ne u), parse_dec u hu]
theorem atoi_itoa (q : Int) (h0 : -1000000000 < q) (h1 : q < 1000000000) : atoiAll (itoa q) = .ok q := by
  by_cases hn : q < 0
  · obtain ⟨u, hu⟩ : ∃ u : Nat, q = -(u : Int) := ⟨q.natAbs, by omega⟩
    rw [hu, itoa_neg u (by omega), atoiAll_minus, mag_dec u (by omega)]
    simp only [signed]
    rw [if_neg (by omega)]
  · obtain ⟨u, hu⟩ : ∃ u : Nat, q = (u : Int) := ⟨q.natAbs, by omega⟩
    rw [hu, itoa_nonneg u]
    obtain ⟨c, r, hc⟩ : ∃ c r, decDigits u = c :: r := by
      cases h : decDigits u with
      | nil => exact absurd h (dec_ne u)
      | cons c r => exact ⟨c, r, rfl⟩
    have hd := dec_digits u c (by rw [hc]; simp)
    have hm := mag_dec u (by omega)
    rw [hc] at hm ⊢
    rw [atoiAll_plain c r (by omega) (by omega), hm]
    simp only [signless]
    rw [if_neg (by omega)]
/-- The bytes of a numeral. -/
theorem itoa_bytes (q : Int) : ∀ b ∈ itoa q, b.toNat = 45 ∨ 48 ≤ b.toNat ∧ b.toNat ≤ 57 := by
  intro b hb
  by_cases hn : q < 0
  · obtain ⟨u, hu⟩ : ∃ u : Nat, q = -(u : Int) := ⟨q.natAbs, by omega⟩
    rw [hu, itoa_neg u (by omega)] at hb
    simp at hb
    rcases hb with rfl | hb
    · exact .inl rfl
    · exact .inr (dec_digits u b hb)
  · obtain ⟨u, hu⟩ : ∃ u : Nat, q = (u : Int) := ⟨q.natAbs, by omega⟩
    rw [hu, itoa_nonneg u] at hb
    exact .inr (dec_digits u b hb)
theorem itoa_ne (q : Int) : itoa q ≠ [] := by
  unfold itoa; split
  · simp
  · exact dec_ne _
theorem dec_len : ∀ (k u : Nat), u < 10 ^ (k + 1) → (decDigits u).length ≤ k + 1
  | 0, u, h => by rw [decDigits, dif_pos (by omega)]; simp
  | k + 1, u, h => by
    rw [decDigits]
    split
    · simp
    · rw [List.length_append]
      have := dec_len k (u / 10) (by rw [Nat.pow_succ] at h; omega)
      simp only [List.length_cons, List.length_nil]; omega
theorem itoa_short (q : Int) (h0 : -10000000 < q) (h1 : q < 10000000) : (itoa q).length ≤ 8 := by
  by_cases hn : q < 0
  · obtain ⟨u, hu⟩ : ∃ u : Nat, q = -(u : Int) := ⟨q.natAbs, by omega⟩
    rw [hu, itoa_neg u (by omega)]
    have := dec_len 6 u (by omega)
    simp only [List.length_cons]; omega
  · obtain ⟨u, hu⟩ : ∃ u : Nat, q = (u : Int) := ⟨q.natAbs, by omega⟩
    rw [hu, itoa_nonneg u]
    have := dec_len 6 u (by omega)
    omega
theorem sep_not {b : UInt8} (h : b.toNat = 45 ∨ 48 ≤ b.toNat ∧ b.toNat ≤ 57) : ([32, 10] : List UInt8).contains b = false := by
  have h1 : b ≠ 32 := fun e => by subst e; revert h; decide
  have h2 : b ≠ 10 := fun e => by subst e; revert h; decide
  simp [h1, h2]
theorem trim_num (ws rest : List UInt8) (q : Int) (hw : ∀ b ∈ ws, b = 32 ∨ b = 10) : trimLeftS (ws ++ (itoa q ++ rest)) [32, 10] = itoa q ++ rest := by
  rw [trimLeftS_drop _ _ ws.length (by simp) (fun j b hj hb => ?_) (fun b hb => ?_), List.drop_left]
  · rw [List.getElem?_append_left hj] at hb
    rcases hw b (List.mem_of_getElem? hb) with rfl | rfl <;> decide
  · rw [List.getElem?_append_right (Nat.le_refl _), Nat.sub_self] at hb
    cases h : itoa q with
    | nil => exact absurd h (itoa_ne q)
    | cons c r =>
      rw [h] at hb
      simp at hb
      rw [← hb]
      exact sep_not (itoa_bytes q c (by rw [h]; simp))
theorem index_num (rest : List UInt8) (q : Int) (sep : UInt8) (hs : sep = 32 ∨ sep = 10) : indexAny (itoa q ++ sep :: rest) [32, 10] = ((itoa q).length : Int) := by
  refine indexAny_hit (x := sep) (fun j b hj hb => ?_) ?_ ?_
  · rw [List.getElem?_append_left hj] at hb
    exact sep_not (itoa_bytes q b (List.mem_of_getElem? hb))
  · rw [List.getElem?_append_right (Nat.le_refl _), Nat.sub_self]; rfl
  · rcases hs with rfl | rfl <;> decide
end Go.Proofs.YtlikmdeplpldlaaDoor

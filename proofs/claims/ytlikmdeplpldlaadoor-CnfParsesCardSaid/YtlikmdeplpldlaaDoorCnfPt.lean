/-
  The text of a formula as its parser meets it.
  No condition.
-/
import Derived.Test.YtlikmdeplpldlaaDoorCnfPs
import Derived.Test.YtlikmdeplpldlaaDoorCnfY
namespace Go.Proofs.YtlikmdeplpldlaaDoor
open Go.RowKit
set_option linter.unusedSimpArgs false
set_option linter.unusedVariables false
set_option maxRecDepth 100000

/-- What is left of a clause's text behind its first k numbers. -/
def rdB (r : List Int) (tail : List UInt8) (k : Nat) : List UInt8 := (r.drop k).flatMap litB ++ 48 :: 10 :: tail
def nxB (r : List Int) (tail : List UInt8) (k : Nat) : List UInt8 := if k < r.length then 32 :: rdB r tail (k + 1) else 10 :: tail
theorem rdB_at (r : List Int) (tail : List UInt8) (k : Nat) (hk : k ≤ r.length) : ∃ sep rest, (sep = 32 ∨ sep = 10) ∧ rdB r tail k = Lib.itoa (r.getD k 0) ++ sep :: rest ∧ nxB r tail k = sep :: rest := by
  unfold nxB rdB
  by_cases h : k < r.length
  · rw [if_pos h, List.drop_eq_getElem_cons h, List.flatMap_cons]
    refine ⟨32, _, .inl rfl, ?_, rfl⟩
    rw [Lib.getD_lt_sl r k 0 h]
    simp [litB]
  · rw [if_neg h]
    obtain rfl : k = r.length := by omega
    refine ⟨10, tail, .inr rfl, ?_, rfl⟩
    have : Lib.itoa 0 = [48] := by rw [show (0 : Int) = ((0 : Nat) : Int) from rfl, Lib.itoa_nonneg, Lib.decDigits_one (by omega)]; rfl
    simp [List.getD, this]
theorem clB_rd (r : List Int) (tail : List UInt8) : clB r ++ tail = rdB r tail 0 := by
  unfold clB rdB; simp
theorem textF_eq (x : Int) (rs : List (List Int)) : textF x rs = [112, 32, 99, 110, 102, 32] ++ (Lib.itoa x ++ 32 :: (Lib.itoa (rs.length : Int) ++ 10 :: rs.flatMap clB)) := by
  unfold textF headB; simp
theorem litsB_eight : ∀ {c : List Int}, (∀ l ∈ c, -1000000 ≤ l ∧ l ≤ 1000000) → (c.flatMap litB).length ≤ 9 * c.length
  | [], _ => by simp
  | l :: c, h => by
    have h1 := litsB_eight (c := c) fun x hx => h x (by simp [hx])
    have h2 := itoa_short l (by have := h l (by simp); omega) (by have := h l (by simp); omega)
    simp only [List.flatMap_cons, List.length_append, litB, List.length_cons, List.length_nil]
    omega
theorem clsB_eight : ∀ {rs : List (List Int)}, (∀ c ∈ rs, ∀ l ∈ c, -1000000 ≤ l ∧ l ≤ 1000000) → (rs.flatMap clB).length ≤ 9 * szF rs
  | [], _ => by simp
  | c :: rs, h => by
    have h1 := clsB_eight (rs := rs) fun x hx => h x (by simp [hx])
    have h2 := litsB_eight (h c (by simp))
    rw [List.flatMap_cons, List.length_append, szF]
    have h3 : (clB c).length = (c.flatMap litB).length + 2 := by unfold clB; simp
    omega
theorem textF_len (x : Int) (rs : List (List Int)) (h0 : -1000000 ≤ x) (h1 : x ≤ 1000000) (hs : szF rs ≤ 200000) (hl : ∀ c ∈ rs, ∀ l ∈ c, -1000000 ≤ l ∧ l ≤ 1000000) : (textF x rs).length ≤ 2000000 := by
  have h2 := headB_le (x := x) (n := rs.length) (by omega) (by omega) (by have := szF_len rs; omega)
  have h3 := clsB_eight hl
  unfold textF
  rw [List.length_append]
  omega
theorem textF_asc (x : Int) (rs : List (List Int)) : ∀ b ∈ textF x rs, b.toNat < 128 := by
  have hi : ∀ q : Int, ∀ b ∈ Lib.itoa q, b.toNat < 128 := fun q b hb => by have := itoa_bytes q b hb; omega
  have hl : ∀ q : Int, ∀ b ∈ litB q, b.toNat < 128 := fun q b hb => by
    rcases List.mem_append.1 hb with e | e
    · exact hi q b e
    · simp at e; subst e; decide
  have hc : ∀ c : List Int, ∀ b ∈ clB c, b.toNat < 128 := fun c b hb => by
    rcases List.mem_append.1 hb with e | e
    · obtain ⟨q, _, h⟩ := List.mem_flatMap.1 e
      exact hl q b h
    · simp at e; rcases e with rfl | rfl <;> decide
  intro b hb
  rw [textF_eq] at hb
  simp only [List.mem_append, List.mem_cons] at hb
  rcases hb with e | e | e | e | e | e
  · simp at e; rcases e with rfl | rfl | rfl | rfl | rfl | rfl <;> decide
  · exact hi _ b e
  · subst e; decide
  · exact hi _ b e
  · subst e; decide
  · obtain ⟨q, _, h⟩ := List.mem_flatMap.1 e
    exact hc q b h
def numsOf (bs : List UInt8) : List Int := bs.map fun b => (b.toNat : Int)
theorem bytesOf_nums (bs : List UInt8) : Lib.bytesOf (numsOf bs) = bs := by
  unfold Lib.bytesOf numsOf
  rw [List.map_map]
  conv => rhs; rw [← List.map_id bs]
  congr 1
  funext b
  simp
theorem RdAt.ints {w : World} {g o n c : Nat} {bs : List UInt8} (h : RdAt w g o n c bs) : Lib.BytesIn w (some ⟨g, o, none⟩) n (numsOf bs) := fun _ => ⟨g, o, rfl, fun i hi => by
  rw [h.cells i hi]
  unfold numsOf
  simp [List.getD, List.getElem?_map, List.getElem?_eq_getElem (show i < bs.length by rw [h.len]; exact hi)]⟩
/-- CutPrefix where the prefix stands. -/
theorem cutP (g g2 n c m d : Nat) (pre rest : List UInt8) (w : World) (h : RdAt w g 0 n c (pre ++ rest)) (h2 : RdAt w g2 0 m d pre) (hp : 0 < pre.length) (hr : 0 < rest.length) :
    Calls Tryd.prog 36 #[.slice (some ⟨g, 0, none⟩) n c, .slice (some ⟨g2, 0, none⟩) m d] w fun e w' => e = .returned (.tuple #[.slice (some ⟨g, m, none⟩) (n - m) (c - m), .bool true]) ∧ w' = w := by
  refine (Any.bytes_CutPrefix_all { Tryd.laysCP with } (some ⟨g, 0, none⟩) (some ⟨g2, 0, none⟩) n c m d (numsOf (pre ++ rest)) (numsOf pre) w (by unfold numsOf; rw [List.length_map, h.len]) (by unfold numsOf; rw [List.length_map, h2.len]) h.le h.ints h2.ints).mono ?_
  rintro e w' ⟨rfl, rfl⟩
  refine ⟨?_, rfl⟩
  have hh : Lib.hasPrefix (Lib.bytesOf (numsOf (pre ++ rest))) (Lib.bytesOf (numsOf pre)) = true := by
    rw [bytesOf_nums, bytesOf_nums]
    unfold Lib.hasPrefix
    simp
  rw [hh]
  have hlen : n = pre.length + rest.length := by rw [← h.len, List.length_append]
  have hm : m = pre.length := h2.len.symm
  have hc := h.le
  have hv : Lib.trimPrefixV (some ⟨g, 0, none⟩) n c (numsOf (pre ++ rest)) (numsOf pre) = Lib.bytesTrimPrefix g 0 n c (numsOf (pre ++ rest)) (numsOf pre) := by
    cases hp2 : pre with
    | nil => rw [hp2] at hp; simp at hp
    | cons y r => rfl
  rw [hv]
  unfold Lib.bytesTrimPrefix
  rw [if_pos hh]
  unfold Lib.sliceFrom
  have e : (numsOf pre).length = m := by unfold numsOf; rw [List.length_map, hm]
  rw [e]
  simp [show ¬ c = m by omega]
end Go.Proofs.YtlikmdeplpldlaaDoor

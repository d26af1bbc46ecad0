/-
  The values of a fixed width as plain functions on integers (no program in sight).
  No condition.
  Which operations on two values there are, and what they give.
  No condition.
  What the functions of package bv do: widths, wraps, the operations on two values.
  No condition.
  
  What bv.Un, bv.Cast, bv.Bin do.
  No condition but that numbers fit 64 bits.
-/
import Derived.WalkKit
import Derived.Test.YtmommjagndadjaaJcA
import Derived.Test.YtmommjagndadjaaRows
import Derived.Laws.EntriesVeiled
import Derived.Deep.WholeRow
namespace Go.Proofs.Ytmommjagndadjaa
open Go.RowKit
set_option linter.unusedSimpArgs false
set_option linter.unusedVariables false
set_option maxRecDepth 100000

def width (k : Int) : Int := if k = 1 then 1 else if k = 2 ∨ k = 6 then 8 else if k = 3 ∨ k = 7 then 16 else if k = 4 ∨ k = 8 then 32 else if k = 5 ∨ k = 9 then 64 else 0
/-- The value of a kind that a number's lower bits are; the 64-bit kinds take the number as it is. -/
def wkr (k n : Int) : Int :=
  if k = 1 then bits .and .i64 n 1 else if k = 2 then wrap64 (IntKind.i8.wrap n) else if k = 3 then wrap64 (IntKind.i16.wrap n) else if k = 4 then wrap64 (wrap32 n)
  else if k = 6 then n % 256 else if k = 7 then wrap64 (IntKind.u16.wrap n) else if k = 8 then n % 4294967296 else if k = 5 ∨ k = 9 then n else 0
def isk (k n : Int) : Bool := decide (0 < width k) && (wkr k n == n)
def sgn (k : Int) : Bool := decide (2 ≤ k) && decide (k ≤ 5)
theorem I64.nz {m : Int} (h : I64 m) (hz : IntKind.u64.wrap m = 0) : m = 0 := by
  have e : IntKind.u64.wrap m = m % 18446744073709551616 := by simp [IntKind.wrap, IntKind.bits, IntKind.signed]
  unfold I64 at h; omega
def tru (b : Bool) : Int := if b then 1 else 0
theorem width_cases (k : Int) : width k = 0 ∨ width k = 1 ∨ width k = 8 ∨ width k = 16 ∨ width k = 32 ∨ width k = 64 := by
  unfold width; repeat (split; · simp)
  simp
/-- A value's bits as a number without a sign. -/
def ubits (k n : Int) : Int := n % 2 ^ (width k).toNat
def shlv (k n k' m : Int) : Int := if width k ≤ ubits k' m then 0 else wrap64 (IntKind.u64.wrap (ubits k n * 2 ^ (ubits k' m).toNat))
/-- The places of a shift to the right: 64 from the width on. -/
def shrBy (k k' m : Int) : Int := if width k ≤ ubits k' m then 64 else ubits k' m
def shrv (k n k' m : Int) : Int := if sgn k then n / 2 ^ (shrBy k k' m).toNat else wrap64 (ubits k n / 2 ^ (shrBy k k' m).toNat)
def blw (k n m : Int) : Bool := if k = 9 then decide (IntKind.u64.wrap n < IntKind.u64.wrap m) else decide (n < m)
def divv (k n m : Int) : Int := if m = 0 then 0 else if k = 9 then wrap64 (IntKind.u64.wrap ((IntKind.u64.wrap n).tdiv (IntKind.u64.wrap m))) else if m = -1 then wrap64 (-n) else wrap64 (n.tdiv m)
def modv (k n m : Int) : Int := if m = 0 then 0 else if k = 9 then wrap64 ((IntKind.u64.wrap n).tmod (IntKind.u64.wrap m)) else if m = -1 then 0 else n.tmod m
theorem bits_and64 (x y : Int) : bits .and .i64 x y = IntKind.i64.wrap ((BitVec.ofInt 64 x &&& BitVec.ofInt 64 y).toNat : Int) := rfl
theorem bits_or64 (x y : Int) : bits .or .i64 x y = IntKind.i64.wrap ((BitVec.ofInt 64 x ||| BitVec.ofInt 64 y).toNat : Int) := rfl
theorem bits_xor64 (x y : Int) : bits .xor .i64 x y = IntKind.i64.wrap ((BitVec.ofInt 64 x ^^^ BitVec.ofInt 64 y).toNat : Int) := rfl
theorem bv_and_one (x : Int) : bits .and .i64 x 1 = x % 2 := by
  rw [bits_and64]
  have h : (BitVec.ofInt 64 x &&& BitVec.ofInt 64 1).toNat = (x % 2).toNat := by
    rw [BitVec.toNat_and]
    have h1 : (BitVec.ofInt 64 1).toNat = 1 := by decide
    rw [h1, Nat.and_one_is_mod, BitVec.toNat_ofInt]
    omega
  rw [h]
  have h2 : 0 ≤ x % 2 ∧ x % 2 < 2 := by omega
  simp [IntKind.wrap, IntKind.bits, IntKind.signed]
  omega
theorem wkr_1 (n : Int) : wkr 1 n = n % 2 := by simp [wkr, bv_and_one]
theorem wkr_2 (n : Int) : wkr 2 n = (n + 128) % 256 - 128 := by
  simp [wkr, wrap64, IntKind.wrap, IntKind.bits, IntKind.signed]; repeat' split
  all_goals omega
theorem wkr_3 (n : Int) : wkr 3 n = (n + 32768) % 65536 - 32768 := by
  simp [wkr, wrap64, IntKind.wrap, IntKind.bits, IntKind.signed]; repeat' split
  all_goals omega
theorem wkr_4 (n : Int) : wkr 4 n = (n + 2147483648) % 4294967296 - 2147483648 := by
  simp [wkr, wrap64, wrap32]; repeat' split
  all_goals omega
theorem wkr_6 (n : Int) : wkr 6 n = n % 256 := by simp [wkr]
theorem wkr_7 (n : Int) : wkr 7 n = n % 65536 := by
  simp [wkr, wrap64, IntKind.wrap, IntKind.bits, IntKind.signed]; try omega
theorem wkr_8 (n : Int) : wkr 8 n = n % 4294967296 := by simp [wkr]
theorem wkr_5 (n : Int) : wkr 5 n = n := by simp [wkr]
theorem wkr_9 (n : Int) : wkr 9 n = n := by simp [wkr]
theorem width_none {k : Int} (h : width k = 0) : ¬ (k = 1 ∨ k = 2 ∨ k = 3 ∨ k = 4 ∨ k = 5 ∨ k = 6 ∨ k = 7 ∨ k = 8 ∨ k = 9) := by
  rintro (rfl | rfl | rfl | rfl | rfl | rfl | rfl | rfl | rfl) <;> revert h <;> decide
theorem wkr_none {k : Int} (n : Int) (h : width k = 0) : wkr k n = 0 := by
  have := width_none h
  simp only [not_or] at this
  simp [wkr, this]
theorem kinds (k : Int) : k = 1 ∨ k = 2 ∨ k = 3 ∨ k = 4 ∨ k = 5 ∨ k = 6 ∨ k = 7 ∨ k = 8 ∨ k = 9 ∨ width k = 0 := by
  by_cases h : k = 1 ∨ k = 2 ∨ k = 3 ∨ k = 4 ∨ k = 5 ∨ k = 6 ∨ k = 7 ∨ k = 8 ∨ k = 9
  · omega
  · simp only [not_or] at h
    simp [width, h]
theorem tmod_neg {n p : Int} (hp : 0 < p) (h : n.tmod p < 0) : n.tmod p + p = n % p := by
  have := @Int.tmod_eq_emod n p
  have h2 := Int.emod_nonneg n (show p ≠ 0 by omega)
  split at this <;> omega
theorem tmod_pos {n p : Int} (hp : 0 < p) (h : 0 ≤ n.tmod p) : n.tmod p = n % p := by
  have := @Int.tmod_eq_emod n p
  have h2 := Int.emod_lt_of_pos n hp
  split at this <;> omega
theorem tmod_bd {n p : Int} (hp : 0 < p) : -p < n.tmod p ∧ n.tmod p < p := by
  have := @Int.tmod_eq_emod n p
  have h2 := Int.emod_nonneg n (show p ≠ 0 by omega)
  have h3 := Int.emod_lt_of_pos n hp
  split at this <;> omega
/-- The lower m bits of a number, the lowest first. -/
def bitsL (m : Nat) (n : Int) : List Int := (List.range m).map fun i => n / 2 ^ i % 2
theorem bitsL_length (m : Nat) (n : Int) : (bitsL m n).length = m := by simp [bitsL]
theorem bitsL_succ (m : Nat) (n : Int) : bitsL (m + 1) n = bitsL m n ++ [n / 2 ^ m % 2] := by simp [bitsL, List.range_succ]
def wid (k : Int) : Nat := (width k).toNat
theorem width_wid (k : Int) : width k = (wid k : Int) := by have := width_cases k; unfold wid; omega
theorem wid_le (k : Int) : wid k ≤ 64 := by have := width_cases k; unfold wid; omega
/-- The number that bits are (the 64th counts down), m of them. -/
def fromS (l : List Int) : Nat → Int
  | 0 => 0
  | m + 1 => if l.getD m 0 = 0 then fromS l m else if m = 63 then fromS l m + -9223372036854775808 else fromS l m + 2 ^ m
theorem fromS_bd (l : List Int) (m : Nat) (hm : m ≤ 63) : 0 ≤ fromS l m ∧ fromS l m ≤ 2 ^ m - 1 := by
  induction m with
  | zero => simp [fromS]
  | succ m ih =>
    have := ih (by omega)
    have hp : (0 : Int) < 2 ^ m := Int.pow_pos (by decide)
    unfold fromS
    rw [Int.pow_succ]
    rw [if_neg (show ¬ m = 63 by omega)]
    split <;> omega
/-- Two lists, element by element, up to j; the first one's behind. -/
def mix2 (f : Int → Int → Int) (l r : List Int) (j : Nat) : List Int := List.zipWith f (l.take j) (r.take j) ++ l.drop j
theorem mix2_zero (f : Int → Int → Int) (l r : List Int) : mix2 f l r 0 = l := by simp [mix2]
theorem mix2_all (f : Int → Int → Int) (l r : List Int) (j : Nat) (h : l.length ≤ j) (h2 : r.length ≤ j) : mix2 f l r j = List.zipWith f l r := by
  simp [mix2, List.take_of_length_le h, List.take_of_length_le h2, List.drop_of_length_le h]
theorem mix2_at (f : Int → Int → Int) (l r : List Int) (j : Nat) (x : Int) (hl : l.length = r.length) (h : l[j]? = some x) : (mix2 f l r j)[j]? = some x := by
  have hj : j < l.length := (List.getElem?_eq_some_iff.1 h).1
  have hz : (List.zipWith f (l.take j) (r.take j)).length = j := by simp; omega
  unfold mix2
  rw [List.getElem?_append_right (by omega), hz]
  simp [h]
theorem mix2_set (f : Int → Int → Int) (l r : List Int) (j : Nat) (x y : Int) (hl : l.length = r.length) (h : l[j]? = some x) (h2 : r[j]? = some y) : (mix2 f l r j).set j (f x y) = mix2 f l r (j + 1) := by
  have hj : j < l.length := (List.getElem?_eq_some_iff.1 h).1
  have hz : (List.zipWith f (l.take j) (r.take j)).length = j := by simp; omega
  obtain ⟨hx1, hx2⟩ := List.getElem?_eq_some_iff.1 h
  obtain ⟨hy1, hy2⟩ := List.getElem?_eq_some_iff.1 h2
  unfold mix2
  rw [List.set_append_right _ _ (by omega), hz, Nat.sub_self, List.take_succ_eq_append_getElem hx1, List.take_succ_eq_append_getElem hy1, List.zipWith_append (by simp; omega), hx2, hy2]
  have e : List.drop j l = l[j] :: List.drop (j + 1) l := List.drop_eq_getElem_cons hx1
  simp
  rw [e]
  rfl
/-- Where a bit of a moved value comes from. -/
def movFrom (op : Int) (i : Nat) (U : Int) : Int := if op = 13 then (i : Int) + U else (i : Int) - U
def movAt (op : Int) (m : Nat) (X : List Int) (U f0 : Int) (i : Nat) : Int := if U < m ∧ 0 ≤ movFrom op i U ∧ movFrom op i U < m then X.getD (movFrom op i U).toNat 0 else f0
def movedL (op : Int) (m : Nat) (X : List Int) (U f0 : Int) : List Int := (List.range m).map (movAt op m X U f0)
/-- The first j of a list, noughts behind, n in all. -/
def upto (l : List Int) (n j : Nat) : List Int := l.take j ++ List.replicate (n - j) 0
theorem upto_set (l : List Int) (n j : Nat) (x : Int) (hl : l.length = n) (h : l[j]? = some x) : (upto l n j).set j x = upto l n (j + 1) := by
  obtain ⟨h1, h2⟩ := List.getElem?_eq_some_iff.1 h
  have hz : (l.take j).length = j := by simp; omega
  unfold upto
  rw [List.set_append_right _ _ (by omega), hz, Nat.sub_self, List.take_succ_eq_append_getElem h1, h2]
  obtain ⟨d, hd⟩ : ∃ d, n - j = d + 1 := ⟨n - j - 1, by omega⟩
  rw [hd, show n - (j + 1) = d by omega]
  simp [List.replicate_succ]
theorem upto_all (l : List Int) (n : Nat) (hl : l.length = n) : upto l n n = l := by simp [upto, List.take_of_length_le (Nat.le_of_eq hl)]
theorem upto_len (l : List Int) (n j : Nat) (hl : l.length = n) (hj : j ≤ n) : (upto l n j).length = n := by simp [upto]; omega
/-- A count that stands still at m. -/
def capN (m : Nat) (t : Int) : Int := if (m : Int) ≤ t then m else t
/-- The number of the bits from j on. -/
def topN (m : Nat) (b : Int) (j : Nat) : Int := b % 2 ^ m / 2 ^ j
theorem topN_pos (m : Nat) (b : Int) (j : Nat) : 0 ≤ topN m b j := Int.ediv_nonneg (Int.emod_nonneg _ (Int.pow_ne_zero (by decide))) (Int.pow_nonneg (by decide))
theorem topN_start (m : Nat) (b : Int) : topN m b m = 0 := Int.ediv_eq_zero_of_lt (Int.emod_nonneg _ (Int.pow_ne_zero (by decide))) (Int.emod_lt_of_pos _ (Int.pow_pos (by decide)))
theorem mod_bit (m : Nat) (b : Int) (j : Nat) (hj : j < m) : b % 2 ^ m / 2 ^ j % 2 = b / 2 ^ j % 2 := by
  obtain ⟨d, hd⟩ := Nat.le.dest (show j + 1 ≤ m by omega)
  have hp : (2 : Int) ^ m = 2 * 2 ^ d * 2 ^ j := by
    rw [← hd, Int.pow_add, Int.pow_succ, Int.mul_comm (2 ^ j) 2, Int.mul_assoc, Int.mul_comm (2 ^ j) (2 ^ d), Int.mul_assoc]
  have hpos : (0 : Int) < 2 ^ j := Int.pow_pos (by decide)
  have hm := Int.mul_ediv_add_emod b (2 ^ m)
  have e : b = b % 2 ^ m + (2 * 2 ^ d * (b / 2 ^ m)) * 2 ^ j := by
    have h3 : (2 : Int) ^ m * (b / 2 ^ m) = (2 * 2 ^ d * (b / 2 ^ m)) * 2 ^ j := by
      generalize b / 2 ^ m = t
      rw [hp, Int.mul_assoc, Int.mul_comm (2 ^ j) t, ← Int.mul_assoc]
    omega
  have e2 : b / 2 ^ j = b % 2 ^ m / 2 ^ j + 2 * 2 ^ d * (b / 2 ^ m) := by
    conv => lhs; rw [e]
    rw [Int.add_mul_ediv_right _ _ (by omega)]
  rw [e2, Int.mul_assoc, Int.add_mul_emod_self_left]
theorem topN_step (m : Nat) (b : Int) (j : Nat) (hj : j < m) : topN m b j = 2 * topN m b (j + 1) + b / 2 ^ j % 2 := by
  have h1 : b % 2 ^ m / 2 ^ (j + 1) = b % 2 ^ m / 2 ^ j / 2 := by
    rw [Int.pow_succ, Int.ediv_ediv_of_nonneg (Int.pow_nonneg (by decide))]
  have h2 := mod_bit m b j hj
  unfold topN
  omega
/-- A list whose first j elements are mapped. -/
def mix (f : Int → Int) (l : List Int) (j : Nat) : List Int := (l.take j).map f ++ l.drop j
theorem mix_length (f : Int → Int) (l : List Int) (j : Nat) : (mix f l j).length = l.length := by simp [mix]; omega
theorem mix_zero (f : Int → Int) (l : List Int) : mix f l 0 = l := by simp [mix]
theorem mix_all (f : Int → Int) (l : List Int) (j : Nat) (h : l.length ≤ j) : mix f l j = l.map f := by simp [mix, List.take_of_length_le h, List.drop_of_length_le h]
theorem mix_at (f : Int → Int) (l : List Int) (j : Nat) (x : Int) (h : l[j]? = some x) : (mix f l j)[j]? = some x := by
  have hj : j < l.length := (List.getElem?_eq_some_iff.1 h).1
  simp [mix, List.getElem?_append, Nat.min_eq_left (Nat.le_of_lt hj), h]
theorem mix_set (f : Int → Int) (l : List Int) (j : Nat) (x : Int) (h : l[j]? = some x) : (mix f l j).set j (f x) = mix f l (j + 1) := by
  have hj : j < l.length := (List.getElem?_eq_some_iff.1 h).1
  apply List.ext_getElem?
  intro i
  rw [List.getElem?_set]
  simp only [mix, List.length_append, List.length_map, List.length_take, List.length_drop, List.getElem?_append, List.getElem?_map, List.getElem?_take, List.getElem?_drop]
  by_cases h1 : j = i
  · subst h1
    rw [if_pos rfl, if_pos (by omega), if_pos (by omega), if_pos (by omega)]
    simp [h]
  · rw [if_neg h1]
    by_cases h2 : i < j
    · rw [if_pos (by omega), if_pos (by omega), if_pos (by omega), if_pos (by omega)]
    · rw [if_neg (by omega), if_neg (by omega)]
      congr 1; omega
theorem pow_le61 (k : Nat) (h : k ≤ 61) : (2 : Int) ^ k ≤ 2305843009213693952 := by
  have h1 : (2 : Nat) ^ k ≤ 2 ^ 61 := Nat.pow_le_pow_right (by decide) h
  have h2 : ((2 ^ k : Nat) : Int) ≤ ((2 ^ 61 : Nat) : Int) := Int.ofNat_le.2 h1
  rw [Int.natCast_pow] at h2
  exact h2
theorem blw_nine {a b : Int} (ha : I64 a) (hb : I64 b) : blw 9 a b = if (decide (a < 0) == decide (b < 0)) = true then decide (a < b) else decide (b < 0) := by
  have e : ∀ n, IntKind.u64.wrap n = n % 18446744073709551616 := fun n => by simp [IntKind.wrap, IntKind.bits, IntKind.signed]
  simp only [blw, e, if_true]
  unfold I64 at ha hb
  by_cases h1 : a < 0 <;> by_cases h2 : b < 0 <;> simp [h1, h2] <;> omega
end Go.Proofs.Ytmommjagndadjaa
namespace Go.Proofs.Ytmommjagndadjaa
open Go.RowKit
set_option linter.unusedSimpArgs false
set_option linter.unusedVariables false
set_option maxRecDepth 100000
def fitsv (o k : Int) : Bool := if k = 1 then (bits .and .i64 o 1 != 0) else (bits .and .i64 o 2 != 0)
def unv (op k a : Int) : Int × Bool :=
  if isk k a = false then (0, false) else if op = 1 then (if k = 1 then (wrap64 (1 - a), true) else (wkr k (bits .xor .i64 (-1) a), true))
  else if op = 2 then (if k = 1 then (0, false) else (wkr k (wrap64 (-a)), true)) else (0, false)
def castv (f t a : Int) : Int × Bool := if isk f a = false ∨ width t = 0 then (0, false) else if t = 1 then (tru (a != 0), true) else (wkr t a, true)
def opOf (n : Nat) : Int := match n with | 3 => 2 | 4 => 2 | 5 => 2 | 6 => 2 | 7 => 2 | 8 => 3 | 9 => 3 | 10 => 3 | 11 => 1 | 12 => 2 | 13 => 2 | 14 => 3 | 15 => 3 | 16 => 2 | 17 => 2 | 18 => 2 | 19 => 2 | _ => 0
def binr (n : Nat) (k a b : Int) : Int × Int := match n with | 3 => (wkr k (wrap64 (a + b)), k) | 4 => (wkr k (wrap64 (a - b)), k) | 5 => (wkr k (wrap64 (a * b)), k) | 6 => (wkr k (divv k a b), k) | 7 => (wkr k (modv k a b), k) | 8 => (wkr k (bits .and .i64 a b), k) | 9 => (wkr k (bits .or .i64 a b), k) | 10 => (wkr k (bits .xor .i64 a b), k) | 11 => (tru (a == 0 || b != 0), 1) | 12 => (wkr k (shlv k a k b), k) | 13 => (wkr k (shrv k a k b), k) | 14 => (tru (a == b), 1) | 15 => (tru (a != b), 1) | 16 => (tru (blw k a b), 1) | 17 => (tru (!(blw k b a)), 1) | 18 => (tru (blw k b a), 1) | 19 => (tru (!(blw k a b)), 1) | _ => (0, 0)
def binOk (op k a b : Int) : Bool := isk k a && isk k b && decide (0 ≤ op) && fitsv (opOf op.toNat) k
def binv (op k a b : Int) : Int × Int × Bool := if binOk op k a b then ((binr op.toNat k a b).1, (binr op.toNat k a b).2, true) else (0, 0, false)
theorem fits0 (k : Int) : fitsv 0 k = false := by unfold fitsv; split <;> decide
theorem opOf_big (n : Nat) (h : 20 ≤ n) : opOf n = 0 := by
  unfold opOf; split <;> first | omega | rfl

end Go.Proofs.Ytmommjagndadjaa
namespace Go.Proofs.Ytmommjagndadjaa
open Go.RowKit
set_option linter.unusedSimpArgs false
set_option linter.unusedVariables false
set_option maxRecDepth 100000

theorem bvWidth_any (k : Int) (w : World) :
    Calls Try.prog 52 #[.int .i64 k] w fun e w' => e = .returned (.int .i64 (width k)) ∧ w = w' := by
  go_enter Try.func52, Try.ntmps52
  go_wp2
  all_goals go_ret
  all_goals refine ⟨?_, rfl⟩
  all_goals simp_all [width]

theorem bvWrap_any (k n : Int) (w : World) :
    Calls Try.prog 66 #[.int .i64 k, .int .i64 n] w fun e w' => e = .returned (.int .i64 (wkr k n)) ∧ w = w' := by
  go_enter Try.func66, Try.ntmps66
  go_wp2
  all_goals go_ret
  all_goals refine ⟨?_, rfl⟩
  all_goals simp_all [wkr]

theorem bvIs_any (k n : Int) (w : World) :
    Calls Try.prog 47 #[.int .i64 k, .int .i64 n] w fun e w' => e = .returned (.bool (isk k n)) ∧ w = w' := by
  go_enter Try.func47, Try.ntmps47
  go_wp2_with (first | (go_at_call 52; refine (bvWidth_any _ _).mono ?_; rintro e w' ⟨rfl, rfl⟩) | (go_at_call 66; refine (bvWrap_any _ _ _).mono ?_; rintro e w' ⟨rfl, rfl⟩))
  all_goals go_ret
  all_goals refine ⟨?_, rfl⟩
  · simp_all [isk]
  · have h : width k ≤ 0 := by assumption
    simp [isk, Int.not_lt.2 h]

theorem bvSigned_any (k : Int) (w : World) :
    Calls Try.prog 106 #[.int .i64 k] w fun e w' => e = .returned (.bool (sgn k)) ∧ w = w' := by
  go_enter Try.func106, Try.ntmps106
  go_wp2
  all_goals go_ret
  all_goals refine ⟨?_, rfl⟩
  · simp_all [sgn]
  · have h : k < 2 := by assumption
    simp [sgn, Int.not_le.2 h]

theorem bvTruth_any (b : Bool) (w : World) :
    Calls Try.prog 88 #[.bool b] w fun e w' => e = .returned (.agg #[.int .i64 1, .int .i64 (tru b)]) ∧ Ext w w' := by
  cases b
  all_goals
    go_enter Try.func88, Try.ntmps88
    go_wp2
  · exact bodyPost_ret (v := .agg #[.int .i64 1, .int .i64 0]) (by simp [results, Try.results88, go_sem]) rfl ⟨rfl, (Ext.refl _).alloc _⟩
  · exact bodyPost_ret (v := .agg #[.int .i64 1, .int .i64 1]) (by simp [results, Try.results88, go_sem]) rfl ⟨rfl, (Ext.refl _).alloc _⟩

theorem bvOf_any (k n m : Int) (w : World) :
    Calls Try.prog 80 #[.agg #[.int .i64 k, .int .i64 n], .int .i64 m] w fun e w' => e = .returned (.agg #[.int .i64 k, .int .i64 (wkr k m)]) ∧ Ext w w' := by
  go_enter Try.func80, Try.ntmps80
  go_wp2_with fail
  refine region_tail 7 (by kernel_rfl) (by kernel_rfl) ?_
  simp only [List.take_succ_cons, List.take_zero, List.drop_succ_cons, List.drop_zero]
  repeat still_step
  still_call (still_in (bvWrap_any _ _ _))
  repeat still_step
  refine wpStill_nil ?_
  go_wp2_with fail
  exact bodyPost_ret (v := .agg #[.int .i64 k, .int .i64 (wkr k m)]) (by simp [results, Try.results80, go_sem]) rfl ⟨rfl, (((Ext.refl _).alloc _).alloc _).drew⟩

theorem bvAdd_any (k n k' m : Int) (w : World) :
    Calls Try.prog 87 #[.agg #[.int .i64 k, .int .i64 n], .agg #[.int .i64 k', .int .i64 m]] w fun e w' => e = .returned (.agg #[.int .i64 k, .int .i64 (wkr k (wrap64 (n + m)))]) ∧ Ext w w' := by
  go_enter Try.func87, Try.ntmps87
  go_wp2_with (first | (go_at_call 80; refine (bvOf_any _ _ _ _).mono ?_; rintro e w1 ⟨rfl, hx⟩; obtain ⟨t, rfl⟩ := hx.tok))
  refine bodyPost_ret (v := .agg #[.int .i64 k, .int .i64 (wkr k (wrap64 (n + m)))]) (by simp [results, Try.results87, go_sem]) rfl ⟨rfl, (by repeat first | exact Ext.refl _ | assumption | refine Ext.drew ?_ | refine Ext.drewN ?_ _ | refine Ext.extBy ?_ _ | refine Ext.alloc ?_ _ | refine Ext.setCell ?_ (by simp; try omega) _ | (refine Ext.trans ?_ (by assumption)))⟩

theorem bvSub_any (k n k' m : Int) (w : World) :
    Calls Try.prog 89 #[.agg #[.int .i64 k, .int .i64 n], .agg #[.int .i64 k', .int .i64 m]] w fun e w' => e = .returned (.agg #[.int .i64 k, .int .i64 (wkr k (wrap64 (n - m)))]) ∧ Ext w w' := by
  go_enter Try.func89, Try.ntmps89
  go_wp2_with (first | (go_at_call 80; refine (bvOf_any _ _ _ _).mono ?_; rintro e w1 ⟨rfl, hx⟩; obtain ⟨t, rfl⟩ := hx.tok))
  refine bodyPost_ret (v := .agg #[.int .i64 k, .int .i64 (wkr k (wrap64 (n - m)))]) (by simp [results, Try.results89, go_sem]) rfl ⟨rfl, (by repeat first | exact Ext.refl _ | assumption | refine Ext.drew ?_ | refine Ext.drewN ?_ _ | refine Ext.extBy ?_ _ | refine Ext.alloc ?_ _ | refine Ext.setCell ?_ (by simp; try omega) _ | (refine Ext.trans ?_ (by assumption)))⟩

theorem bvMul_any (k n k' m : Int) (w : World) :
    Calls Try.prog 90 #[.agg #[.int .i64 k, .int .i64 n], .agg #[.int .i64 k', .int .i64 m]] w fun e w' => e = .returned (.agg #[.int .i64 k, .int .i64 (wkr k (wrap64 (n * m)))]) ∧ Ext w w' := by
  go_enter Try.func90, Try.ntmps90
  go_wp2_with (first | (go_at_call 80; refine (bvOf_any _ _ _ _).mono ?_; rintro e w1 ⟨rfl, hx⟩; obtain ⟨t, rfl⟩ := hx.tok))
  refine bodyPost_ret (v := .agg #[.int .i64 k, .int .i64 (wkr k (wrap64 (n * m)))]) (by simp [results, Try.results90, go_sem]) rfl ⟨rfl, (by repeat first | exact Ext.refl _ | assumption | refine Ext.drew ?_ | refine Ext.drewN ?_ _ | refine Ext.extBy ?_ _ | refine Ext.alloc ?_ _ | refine Ext.setCell ?_ (by simp; try omega) _ | (refine Ext.trans ?_ (by assumption)))⟩

theorem bvAnd_any (k n k' m : Int) (w : World) :
    Calls Try.prog 93 #[.agg #[.int .i64 k, .int .i64 n], .agg #[.int .i64 k', .int .i64 m]] w fun e w' => e = .returned (.agg #[.int .i64 k, .int .i64 (wkr k (bits .and .i64 n m))]) ∧ Ext w w' := by
  go_enter Try.func93, Try.ntmps93
  go_wp2_with (first | (go_at_call 80; refine (bvOf_any _ _ _ _).mono ?_; rintro e w1 ⟨rfl, hx⟩; obtain ⟨t, rfl⟩ := hx.tok))
  refine bodyPost_ret (v := .agg #[.int .i64 k, .int .i64 (wkr k (bits .and .i64 n m))]) (by simp [results, Try.results93, go_sem]) rfl ⟨rfl, (by repeat first | exact Ext.refl _ | assumption | refine Ext.drew ?_ | refine Ext.drewN ?_ _ | refine Ext.extBy ?_ _ | refine Ext.alloc ?_ _ | refine Ext.setCell ?_ (by simp; try omega) _ | (refine Ext.trans ?_ (by assumption)))⟩

theorem bvOr_any (k n k' m : Int) (w : World) :
    Calls Try.prog 94 #[.agg #[.int .i64 k, .int .i64 n], .agg #[.int .i64 k', .int .i64 m]] w fun e w' => e = .returned (.agg #[.int .i64 k, .int .i64 (wkr k (bits .or .i64 n m))]) ∧ Ext w w' := by
  go_enter Try.func94, Try.ntmps94
  go_wp2_with (first | (go_at_call 80; refine (bvOf_any _ _ _ _).mono ?_; rintro e w1 ⟨rfl, hx⟩; obtain ⟨t, rfl⟩ := hx.tok))
  refine bodyPost_ret (v := .agg #[.int .i64 k, .int .i64 (wkr k (bits .or .i64 n m))]) (by simp [results, Try.results94, go_sem]) rfl ⟨rfl, (by repeat first | exact Ext.refl _ | assumption | refine Ext.drew ?_ | refine Ext.drewN ?_ _ | refine Ext.extBy ?_ _ | refine Ext.alloc ?_ _ | refine Ext.setCell ?_ (by simp; try omega) _ | (refine Ext.trans ?_ (by assumption)))⟩

theorem bvXor_any (k n k' m : Int) (w : World) :
    Calls Try.prog 95 #[.agg #[.int .i64 k, .int .i64 n], .agg #[.int .i64 k', .int .i64 m]] w fun e w' => e = .returned (.agg #[.int .i64 k, .int .i64 (wkr k (bits .xor .i64 n m))]) ∧ Ext w w' := by
  go_enter Try.func95, Try.ntmps95
  go_wp2_with (first | (go_at_call 80; refine (bvOf_any _ _ _ _).mono ?_; rintro e w1 ⟨rfl, hx⟩; obtain ⟨t, rfl⟩ := hx.tok))
  refine bodyPost_ret (v := .agg #[.int .i64 k, .int .i64 (wkr k (bits .xor .i64 n m))]) (by simp [results, Try.results95, go_sem]) rfl ⟨rfl, (by repeat first | exact Ext.refl _ | assumption | refine Ext.drew ?_ | refine Ext.drewN ?_ _ | refine Ext.extBy ?_ _ | refine Ext.alloc ?_ _ | refine Ext.setCell ?_ (by simp; try omega) _ | (refine Ext.trans ?_ (by assumption)))⟩

end Go.Proofs.Ytmommjagndadjaa
namespace Go.Proofs.Ytmommjagndadjaa
open Go.RowKit
set_option linter.unusedSimpArgs false
set_option linter.unusedVariables false
set_option maxRecDepth 100000

theorem wraps_u64 (n : Int) (h₀ : 0 ≤ n) (h₁ : n < 2 ^ 64) : IntKind.u64.wrap n = n := by
  simp [IntKind.wrap, IntKind.bits, IntKind.signed]; omega

theorem ubits_mask (n : Int) (i : Nat) (hi : i ≤ 64) : bits .and .u64 (IntKind.u64.wrap n) (2 ^ i - 1) = n % 2 ^ i := by
  have e : IntKind.u64.wrap n = n % 2 ^ 64 := by simp [IntKind.wrap, IntKind.bits, IntKind.signed]
  rw [e, bits_mask .u64 64 (by decide) wraps_u64 i hi _ (by omega) (by omega), Int.emod_emod_of_dvd]
  show (2 : Int) ^ i ∣ 2 ^ 64
  obtain ⟨d, hd⟩ := Nat.le.dest hi
  exact ⟨2 ^ d, by rw [← Int.pow_add, hd]⟩

theorem bvBits_any (k n : Int) (w : World) :
    Calls Try.prog 105 #[.agg #[.int .i64 k, .int .i64 n]] w fun e w' => e = .returned (.int .u64 (ubits k n)) ∧ Ext w w' := by
  have e0 : IntKind.i64.wrap 64 = 64 := by decide
  have e1 : IntKind.i64.wrap 63 = 63 := by decide
  have e2 : IntKind.i64.wrap 56 = 56 := by decide
  have e3 : IntKind.i64.wrap 48 = 48 := by decide
  have e4 : IntKind.i64.wrap 32 = 32 := by decide
  have e5 : IntKind.i64.wrap 0 = 0 := by decide
  rcases width_cases k with hw | hw | hw | hw | hw | hw
  all_goals
    go_enter Try.func105, Try.ntmps105
    go_wp2_with fail
    refine region_still (by kernel_rfl) (by kernel_rfl) ?_
    repeat still_step
    still_call (still_in (bvWidth_any _ _))
    repeat still_step
    refine wpStill_nil ?_
    go_wp2
  all_goals go_ret
  all_goals refine ⟨?_, ((Ext.refl _).alloc _).drew⟩
  all_goals simp only [ubits, hw]
  · exact ret_int (ubits_mask n 0 (by decide))
  · exact ret_int (ubits_mask n 1 (by decide))
  · exact ret_int (ubits_mask n 8 (by decide))
  · exact ret_int (ubits_mask n 16 (by decide))
  · exact ret_int (ubits_mask n 32 (by decide))
  · exact ret_int (ubits_mask n 64 (by decide))


set_option maxHeartbeats 1000000 in
theorem bvShl_any (k n k' m : Int) (w : World) :
    Calls Try.prog 97 #[.agg #[.int .i64 k, .int .i64 n], .agg #[.int .i64 k', .int .i64 m]] w fun e w' => e = .returned (.agg #[.int .i64 k, .int .i64 (wkr k (shlv k n k' m))]) ∧ Ext w w' := by
  have h0 : 0 ≤ width k := by have := width_cases k; omega
  have h1 : width k ≤ 64 := by have := width_cases k; omega
  have h2 : 0 ≤ ubits k' m := Int.emod_nonneg _ (Int.pow_ne_zero (by decide))
  have hu : IntKind.u64.wrap (width k) = width k := wraps_u64 _ h0 (by omega)
  by_cases hc : width k ≤ ubits k' m
  · go_enter Try.func97, Try.ntmps97
    go_wp2_with fail
    ((first | (with_reducible refine region_ext2 (by kernel_rfl) (by kernel_rfl) ?_) | refine region_ext (by kernel_rfl) (by kernel_rfl) ?_); (repeat (go_big_quiet_step (first | exact in_same (bvWidth_any _ _) | exact in_ext (bvBits_any _ _ _)))); refine wpQuiet_nil ?_; rintro _ ⟨t1, rfl⟩)
    go_wp2_with (first | (go_at_call 80; refine (bvOf_any _ _ _ _).mono ?_; rintro e w1 ⟨rfl, hx⟩; (first | (with_reducible obtain ⟨t2, rfl⟩ := Ext.tok2 hx) | (obtain ⟨t2, rfl⟩ := Ext.tok hx))))
    exact bodyPost_ret (v := .agg #[.int .i64 k, .int .i64 (wkr k (shlv k n k' m))]) (by simp [results, Try.results97, go_sem, shlv, hc]) rfl ⟨rfl, (by repeat first | exact Ext.refl _ | assumption | refine Ext.drew ?_ | refine Ext.drewN ?_ _ | refine Ext.extBy ?_ _ | refine Ext.alloc ?_ _ | refine Ext.setCell ?_ (by simp; try omega) _ | (refine Ext.trans ?_ (by assumption)))⟩
  · go_enter Try.func97, Try.ntmps97
    go_wp2_with fail
    ((first | (with_reducible refine region_ext2 (by kernel_rfl) (by kernel_rfl) ?_) | refine region_ext (by kernel_rfl) (by kernel_rfl) ?_); (repeat (go_big_quiet_step (first | exact in_same (bvWidth_any _ _) | exact in_ext (bvBits_any _ _ _)))); refine wpQuiet_nil ?_; rintro _ ⟨t1, rfl⟩)
    go_wp2_with fail
    ((first | (with_reducible refine region_ext_tail2 7 (by kernel_rfl) (by kernel_rfl) ?_) | refine region_ext_tail 7 (by kernel_rfl) (by kernel_rfl) ?_); simp only [List.take_succ_cons, List.take_zero, List.drop_succ_cons, List.drop_zero]; (repeat (go_big_quiet_step (first | exact in_ext (bvBits_any _ _ _)))); refine wpQuiet_nil ?_; rintro _ ⟨t1, rfl⟩)
    go_wp2_with (first | (go_at_call 80; refine (bvOf_any _ _ _ _).mono ?_; rintro e w1 ⟨rfl, hx⟩; (first | (with_reducible obtain ⟨t2, rfl⟩ := Ext.tok2 hx) | (obtain ⟨t2, rfl⟩ := Ext.tok hx))))
    have hc2 : ¬ width k ≤ ubits k' m := by omega
    refine bodyPost_ret (v := .agg #[.int .i64 k, .int .i64 (wkr k (shlv k n k' m))]) (by simp [results, Try.results97, go_sem, shlv, hc2]) rfl ⟨rfl, (by repeat first | exact Ext.refl _ | assumption | refine Ext.drew ?_ | refine Ext.drewN ?_ _ | refine Ext.extBy ?_ _ | refine Ext.alloc ?_ _ | refine Ext.setCell ?_ (by simp; try omega) _ | (refine Ext.trans ?_ (by assumption)))⟩

set_option maxHeartbeats 1000000 in
theorem bvShr_any (k n k' m : Int) (w : World) :
    Calls Try.prog 98 #[.agg #[.int .i64 k, .int .i64 n], .agg #[.int .i64 k', .int .i64 m]] w fun e w' => e = .returned (.agg #[.int .i64 k, .int .i64 (wkr k (shrv k n k' m))]) ∧ Ext w w' := by
  have h0 : 0 ≤ width k := by have := width_cases k; omega
  have h1 : width k ≤ 64 := by have := width_cases k; omega
  have h2 : 0 ≤ ubits k' m := Int.emod_nonneg _ (Int.pow_ne_zero (by decide))
  have hu : IntKind.u64.wrap (width k) = width k := wraps_u64 _ h0 (by omega)
  have hc : 64 < ubits k' m ∨ (ubits k' m ≤ 64 ∧ width k ≤ ubits k' m) ∨ ubits k' m < width k := by omega
  cases hs : sgn k
  all_goals rcases hc with hc | hc | hc
  all_goals
    have hb : shrBy k k' m = if width k ≤ ubits k' m then 64 else ubits k' m := rfl
    first | rw [if_pos (by omega)] at hb | rw [if_neg (by omega)] at hb
    have hv : shrv k n k' m = if sgn k then n / 2 ^ (shrBy k k' m).toNat else wrap64 (ubits k n / 2 ^ (shrBy k k' m).toNat) := rfl
    rw [hb, hs] at hv
    simp at hv
    have HV := Lib.hid hv
    clear hv hb
    try (obtain ⟨hc, hc'⟩ := hc)
    go_enter Try.func98, Try.ntmps98
    go_wp2_with (first | (go_at_call 80; refine (bvOf_any _ _ _ _).mono ?_; rintro e w1 ⟨rfl, hx⟩; (first | (with_reducible obtain ⟨t2, rfl⟩ := Ext.tok2 hx) | (obtain ⟨t2, rfl⟩ := Ext.tok hx))) | (go_at_call 105; refine (bvBits_any _ _ _).mono ?_; rintro e w1 ⟨rfl, hx⟩; (first | (with_reducible obtain ⟨t1, rfl⟩ := Ext.tok2 hx) | (obtain ⟨t1, rfl⟩ := Ext.tok hx))) | (go_at_call 52; refine (bvWidth_any _ _).mono ?_; rintro e w1 ⟨rfl, rfl⟩) | (go_at_call 106; refine (bvSigned_any _ _).mono ?_; rintro e w1 ⟨rfl, rfl⟩))
    try (((first | (with_reducible refine region_ext_tail2 6 (by kernel_rfl) (by kernel_rfl) ?_) | refine region_ext_tail 6 (by kernel_rfl) (by kernel_rfl) ?_); simp only [List.take_succ_cons, List.take_zero, List.drop_succ_cons, List.drop_zero]; (repeat (go_big_quiet_step (first | exact in_ext (bvBits_any _ _ _)))); refine wpQuiet_nil ?_; rintro _ ⟨t1, rfl⟩))
    try go_wp2_with (first | (go_at_call 80; refine (bvOf_any _ _ _ _).mono ?_; rintro e w1 ⟨rfl, hx⟩; (first | (with_reducible obtain ⟨t2, rfl⟩ := Ext.tok2 hx) | (obtain ⟨t2, rfl⟩ := Ext.tok hx))))
    refine bodyPost_ret (v := .agg #[.int .i64 k, .int .i64 (wkr k (shrv k n k' m))]) (by simp [results, Try.results98, go_sem, HV.out]) rfl ⟨rfl, (by repeat first | exact Ext.refl _ | assumption | refine Ext.drew ?_ | refine Ext.drewN ?_ _ | refine Ext.extBy ?_ _ | refine Ext.alloc ?_ _ | refine Ext.setCell ?_ (by simp; try omega) _ | (refine Ext.trans ?_ (by assumption)))⟩

set_option maxHeartbeats 1000000 in
theorem bvDiv_any (k n k' m : Int) (hm : I64 m) (w : World) :
    Calls Try.prog 91 #[.agg #[.int .i64 k, .int .i64 n], .agg #[.int .i64 k', .int .i64 m]] w fun e w' => e = .returned (.agg #[.int .i64 k, .int .i64 (wkr k (divv k n m))]) ∧ Ext w w' := by
  by_cases h0 : m = 0
  · subst h0
    go_enter Try.func91, Try.ntmps91
    go_wp2_with (first | (go_at_call 80; refine (bvOf_any _ _ _ _).mono ?_; rintro e w1 ⟨rfl, hx⟩; (first | (with_reducible obtain ⟨t2, rfl⟩ := Ext.tok2 hx) | (obtain ⟨t2, rfl⟩ := Ext.tok hx))))
    refine bodyPost_ret (v := .agg #[.int .i64 k, .int .i64 (wkr k (divv k n 0))]) (by simp [results, Try.results91, go_sem, divv]) rfl ⟨rfl, (by repeat first | exact Ext.refl _ | assumption | refine Ext.drew ?_ | refine Ext.drewN ?_ _ | refine Ext.extBy ?_ _ | refine Ext.alloc ?_ _ | refine Ext.setCell ?_ (by simp; try omega) _ | (refine Ext.trans ?_ (by assumption)))⟩
  have b0 : (m == 0) = false := by simpa using h0
  by_cases h9 : k = 9
  · subst h9
    by_cases hz : IntKind.u64.wrap m = 0
    · exact absurd (hm.nz hz) h0
    have HV := Lib.hid (show divv 9 n m = wrap64 (IntKind.u64.wrap ((IntKind.u64.wrap n).tdiv (IntKind.u64.wrap m))) from by unfold divv; rw [if_neg h0, if_pos rfl])
    go_enter Try.func91, Try.ntmps91
    go_wp2_with (first | (go_at_call 80; refine (bvOf_any _ _ _ _).mono ?_; rintro e w1 ⟨rfl, hx⟩; (first | (with_reducible obtain ⟨t2, rfl⟩ := Ext.tok2 hx) | (obtain ⟨t2, rfl⟩ := Ext.tok hx))))
    ((first | (with_reducible refine region_ext_tail2 9 (by kernel_rfl) (by kernel_rfl) ?_) | refine region_ext_tail 9 (by kernel_rfl) (by kernel_rfl) ?_); simp only [List.take_succ_cons, List.take_zero, List.drop_succ_cons, List.drop_zero]; (repeat (go_big_quiet_step (fail))); refine wpQuiet_nil ?_; rintro _ ⟨t1, rfl⟩)
    go_wp2_with (first | (go_at_call 80; refine (bvOf_any _ _ _ _).mono ?_; rintro e w1 ⟨rfl, hx⟩; (first | (with_reducible obtain ⟨t2, rfl⟩ := Ext.tok2 hx) | (obtain ⟨t2, rfl⟩ := Ext.tok hx))))
    refine bodyPost_ret (v := .agg #[.int .i64 9, .int .i64 (wkr 9 (divv 9 n m))]) (by simp [results, Try.results91, go_sem, HV.out]) rfl ⟨rfl, (by repeat first | exact Ext.refl _ | assumption | refine Ext.drew ?_ | refine Ext.drewN ?_ _ | refine Ext.extBy ?_ _ | refine Ext.alloc ?_ _ | refine Ext.setCell ?_ (by simp; try omega) _ | (refine Ext.trans ?_ (by assumption)))⟩
  have b9 : (k == 9) = false := by simpa using h9
  by_cases h1 : m = -1
  · subst h1
    have HV := Lib.hid (show divv k n (-1) = wrap64 (-n) from by unfold divv; rw [if_neg h0, if_neg h9, if_pos rfl])
    go_enter Try.func91, Try.ntmps91
    go_wp2_with (first | (go_at_call 80; refine (bvOf_any _ _ _ _).mono ?_; rintro e w1 ⟨rfl, hx⟩; (first | (with_reducible obtain ⟨t2, rfl⟩ := Ext.tok2 hx) | (obtain ⟨t2, rfl⟩ := Ext.tok hx))))
    refine bodyPost_ret (v := .agg #[.int .i64 k, .int .i64 (wkr k (divv k n (-1)))]) (by simp [results, Try.results91, go_sem, HV.out]) rfl ⟨rfl, (by repeat first | exact Ext.refl _ | assumption | refine Ext.drew ?_ | refine Ext.drewN ?_ _ | refine Ext.extBy ?_ _ | refine Ext.alloc ?_ _ | refine Ext.setCell ?_ (by simp; try omega) _ | (refine Ext.trans ?_ (by assumption)))⟩
  · have b1 : (m == -1) = false := by simpa using h1
    have HV := Lib.hid (show divv k n m = wrap64 (n.tdiv m) from by unfold divv; rw [if_neg h0, if_neg h9, if_neg h1])
    go_enter Try.func91, Try.ntmps91
    go_wp2_with (first | (go_at_call 80; refine (bvOf_any _ _ _ _).mono ?_; rintro e w1 ⟨rfl, hx⟩; (first | (with_reducible obtain ⟨t2, rfl⟩ := Ext.tok2 hx) | (obtain ⟨t2, rfl⟩ := Ext.tok hx))))
    ((first | (with_reducible refine region_ext_tail2 6 (by kernel_rfl) (by kernel_rfl) ?_) | refine region_ext_tail 6 (by kernel_rfl) (by kernel_rfl) ?_); simp only [List.take_succ_cons, List.take_zero, List.drop_succ_cons, List.drop_zero]; (repeat (go_big_quiet_step (fail))); refine wpQuiet_nil ?_; rintro _ ⟨t1, rfl⟩)
    go_wp2_with (first | (go_at_call 80; refine (bvOf_any _ _ _ _).mono ?_; rintro e w1 ⟨rfl, hx⟩; (first | (with_reducible obtain ⟨t2, rfl⟩ := Ext.tok2 hx) | (obtain ⟨t2, rfl⟩ := Ext.tok hx))))
    refine bodyPost_ret (v := .agg #[.int .i64 k, .int .i64 (wkr k (divv k n m))]) (by simp [results, Try.results91, go_sem, HV.out]) rfl ⟨rfl, (by repeat first | exact Ext.refl _ | assumption | refine Ext.drew ?_ | refine Ext.drewN ?_ _ | refine Ext.extBy ?_ _ | refine Ext.alloc ?_ _ | refine Ext.setCell ?_ (by simp; try omega) _ | (refine Ext.trans ?_ (by assumption)))⟩

set_option maxHeartbeats 1000000 in
theorem bvMod_any (k n k' m : Int) (hm : I64 m) (w : World) :
    Calls Try.prog 92 #[.agg #[.int .i64 k, .int .i64 n], .agg #[.int .i64 k', .int .i64 m]] w fun e w' => e = .returned (.agg #[.int .i64 k, .int .i64 (wkr k (modv k n m))]) ∧ Ext w w' := by
  by_cases h0 : m = 0
  · subst h0
    go_enter Try.func92, Try.ntmps92
    go_wp2_with (first | (go_at_call 80; refine (bvOf_any _ _ _ _).mono ?_; rintro e w1 ⟨rfl, hx⟩; (first | (with_reducible obtain ⟨t2, rfl⟩ := Ext.tok2 hx) | (obtain ⟨t2, rfl⟩ := Ext.tok hx))))
    refine bodyPost_ret (v := .agg #[.int .i64 k, .int .i64 (wkr k (modv k n 0))]) (by simp [results, Try.results92, go_sem, modv]) rfl ⟨rfl, (by repeat first | exact Ext.refl _ | assumption | refine Ext.drew ?_ | refine Ext.drewN ?_ _ | refine Ext.extBy ?_ _ | refine Ext.alloc ?_ _ | refine Ext.setCell ?_ (by simp; try omega) _ | (refine Ext.trans ?_ (by assumption)))⟩
  have b0 : (m == 0) = false := by simpa using h0
  by_cases h9 : k = 9
  · subst h9
    by_cases hz : IntKind.u64.wrap m = 0
    · exact absurd (hm.nz hz) h0
    have HV := Lib.hid (show modv 9 n m = wrap64 ((IntKind.u64.wrap n).tmod (IntKind.u64.wrap m)) from by unfold modv; rw [if_neg h0, if_pos rfl])
    go_enter Try.func92, Try.ntmps92
    go_wp2_with (first | (go_at_call 80; refine (bvOf_any _ _ _ _).mono ?_; rintro e w1 ⟨rfl, hx⟩; (first | (with_reducible obtain ⟨t2, rfl⟩ := Ext.tok2 hx) | (obtain ⟨t2, rfl⟩ := Ext.tok hx))))
    ((first | (with_reducible refine region_ext_tail2 9 (by kernel_rfl) (by kernel_rfl) ?_) | refine region_ext_tail 9 (by kernel_rfl) (by kernel_rfl) ?_); simp only [List.take_succ_cons, List.take_zero, List.drop_succ_cons, List.drop_zero]; (repeat (go_big_quiet_step (fail))); refine wpQuiet_nil ?_; rintro _ ⟨t1, rfl⟩)
    go_wp2_with (first | (go_at_call 80; refine (bvOf_any _ _ _ _).mono ?_; rintro e w1 ⟨rfl, hx⟩; (first | (with_reducible obtain ⟨t2, rfl⟩ := Ext.tok2 hx) | (obtain ⟨t2, rfl⟩ := Ext.tok hx))))
    refine bodyPost_ret (v := .agg #[.int .i64 9, .int .i64 (wkr 9 (modv 9 n m))]) (by simp [results, Try.results92, go_sem, HV.out]) rfl ⟨rfl, (by repeat first | exact Ext.refl _ | assumption | refine Ext.drew ?_ | refine Ext.drewN ?_ _ | refine Ext.extBy ?_ _ | refine Ext.alloc ?_ _ | refine Ext.setCell ?_ (by simp; try omega) _ | (refine Ext.trans ?_ (by assumption)))⟩
  have b9 : (k == 9) = false := by simpa using h9
  by_cases h1 : m = -1
  · subst h1
    have HV := Lib.hid (show modv k n (-1) = 0 from by unfold modv; rw [if_neg h0, if_neg h9, if_pos rfl])
    go_enter Try.func92, Try.ntmps92
    go_wp2_with (first | (go_at_call 80; refine (bvOf_any _ _ _ _).mono ?_; rintro e w1 ⟨rfl, hx⟩; (first | (with_reducible obtain ⟨t2, rfl⟩ := Ext.tok2 hx) | (obtain ⟨t2, rfl⟩ := Ext.tok hx))))
    refine bodyPost_ret (v := .agg #[.int .i64 k, .int .i64 (wkr k (modv k n (-1)))]) (by simp [results, Try.results92, go_sem, HV.out]) rfl ⟨rfl, (by repeat first | exact Ext.refl _ | assumption | refine Ext.drew ?_ | refine Ext.drewN ?_ _ | refine Ext.extBy ?_ _ | refine Ext.alloc ?_ _ | refine Ext.setCell ?_ (by simp; try omega) _ | (refine Ext.trans ?_ (by assumption)))⟩
  · have b1 : (m == -1) = false := by simpa using h1
    have HV := Lib.hid (show modv k n m = n.tmod m from by unfold modv; rw [if_neg h0, if_neg h9, if_neg h1])
    go_enter Try.func92, Try.ntmps92
    go_wp2_with (first | (go_at_call 80; refine (bvOf_any _ _ _ _).mono ?_; rintro e w1 ⟨rfl, hx⟩; (first | (with_reducible obtain ⟨t2, rfl⟩ := Ext.tok2 hx) | (obtain ⟨t2, rfl⟩ := Ext.tok hx))))
    ((first | (with_reducible refine region_ext_tail2 6 (by kernel_rfl) (by kernel_rfl) ?_) | refine region_ext_tail 6 (by kernel_rfl) (by kernel_rfl) ?_); simp only [List.take_succ_cons, List.take_zero, List.drop_succ_cons, List.drop_zero]; (repeat (go_big_quiet_step (fail))); refine wpQuiet_nil ?_; rintro _ ⟨t1, rfl⟩)
    go_wp2_with (first | (go_at_call 80; refine (bvOf_any _ _ _ _).mono ?_; rintro e w1 ⟨rfl, hx⟩; (first | (with_reducible obtain ⟨t2, rfl⟩ := Ext.tok2 hx) | (obtain ⟨t2, rfl⟩ := Ext.tok hx))))
    refine bodyPost_ret (v := .agg #[.int .i64 k, .int .i64 (wkr k (modv k n m))]) (by simp [results, Try.results92, go_sem, HV.out]) rfl ⟨rfl, (by repeat first | exact Ext.refl _ | assumption | refine Ext.drew ?_ | refine Ext.drewN ?_ _ | refine Ext.extBy ?_ _ | refine Ext.alloc ?_ _ | refine Ext.setCell ?_ (by simp; try omega) _ | (refine Ext.trans ?_ (by assumption)))⟩

theorem bvBelow_any (k n k' m : Int) (w : World) :
    Calls Try.prog 107 #[.agg #[.int .i64 k, .int .i64 n], .agg #[.int .i64 k', .int .i64 m]] w fun e w' => e = .returned (.bool (blw k n m)) ∧ Ext w w' := by
  go_enter Try.func107, Try.ntmps107
  go_wp2
  all_goals go_ret
  all_goals refine ⟨?_, (((Ext.refl _).alloc _).alloc _)⟩
  all_goals simp_all [blw]

theorem bvEq_any (k n k' m : Int) (w : World) :
    Calls Try.prog 99 #[.agg #[.int .i64 k, .int .i64 n], .agg #[.int .i64 k', .int .i64 m]] w fun e w' => e = .returned (.agg #[.int .i64 1, .int .i64 (tru (n == m))]) ∧ Ext w w' := by
  go_enter Try.func99, Try.ntmps99
  go_wp2_with (first | (go_at_call 88; refine (bvTruth_any _ _).mono ?_; rintro e w1 ⟨rfl, hx⟩; (first | (with_reducible obtain ⟨t2, rfl⟩ := Ext.tok2 hx) | (obtain ⟨t2, rfl⟩ := Ext.tok hx))))
  exact bodyPost_ret (v := .agg #[.int .i64 1, .int .i64 (tru (n == m))]) (by simp [results, Try.results99, go_sem]) rfl ⟨rfl, (by repeat first | exact Ext.refl _ | assumption | refine Ext.drew ?_ | refine Ext.drewN ?_ _ | refine Ext.extBy ?_ _ | refine Ext.alloc ?_ _ | refine Ext.setCell ?_ (by simp; try omega) _ | (refine Ext.trans ?_ (by assumption)))⟩

theorem bvNe_any (k n k' m : Int) (w : World) :
    Calls Try.prog 100 #[.agg #[.int .i64 k, .int .i64 n], .agg #[.int .i64 k', .int .i64 m]] w fun e w' => e = .returned (.agg #[.int .i64 1, .int .i64 (tru (n != m))]) ∧ Ext w w' := by
  go_enter Try.func100, Try.ntmps100
  go_wp2_with (first | (go_at_call 88; refine (bvTruth_any _ _).mono ?_; rintro e w1 ⟨rfl, hx⟩; (first | (with_reducible obtain ⟨t2, rfl⟩ := Ext.tok2 hx) | (obtain ⟨t2, rfl⟩ := Ext.tok hx))))
  exact bodyPost_ret (v := .agg #[.int .i64 1, .int .i64 (tru (n != m))]) (by simp [results, Try.results100, go_sem]) rfl ⟨rfl, (by repeat first | exact Ext.refl _ | assumption | refine Ext.drew ?_ | refine Ext.drewN ?_ _ | refine Ext.extBy ?_ _ | refine Ext.alloc ?_ _ | refine Ext.setCell ?_ (by simp; try omega) _ | (refine Ext.trans ?_ (by assumption)))⟩

theorem bvLt_any (k n k' m : Int) (w : World) :
    Calls Try.prog 101 #[.agg #[.int .i64 k, .int .i64 n], .agg #[.int .i64 k', .int .i64 m]] w fun e w' => e = .returned (.agg #[.int .i64 1, .int .i64 (tru (blw k n m))]) ∧ Ext w w' := by
  go_enter Try.func101, Try.ntmps101
  go_wp2_with (first | (go_at_call 88; refine (bvTruth_any _ _).mono ?_; rintro e w1 ⟨rfl, hx⟩; (first | (with_reducible obtain ⟨t2, rfl⟩ := Ext.tok2 hx) | (obtain ⟨t2, rfl⟩ := Ext.tok hx))) | (go_at_call 107; refine (bvBelow_any _ _ _ _ _).mono ?_; rintro e w1 ⟨rfl, hx⟩; (first | (with_reducible obtain ⟨t1, rfl⟩ := Ext.tok2 hx) | (obtain ⟨t1, rfl⟩ := Ext.tok hx))))
  exact bodyPost_ret (v := .agg #[.int .i64 1, .int .i64 (tru (blw k n m))]) (by simp [results, Try.results101, go_sem]) rfl ⟨rfl, (by repeat first | exact Ext.refl _ | assumption | refine Ext.drew ?_ | refine Ext.drewN ?_ _ | refine Ext.extBy ?_ _ | refine Ext.alloc ?_ _ | refine Ext.setCell ?_ (by simp; try omega) _ | (refine Ext.trans ?_ (by assumption)))⟩

theorem bvLe_any (k n k' m : Int) (w : World) :
    Calls Try.prog 102 #[.agg #[.int .i64 k, .int .i64 n], .agg #[.int .i64 k', .int .i64 m]] w fun e w' => e = .returned (.agg #[.int .i64 1, .int .i64 (tru (!(blw k' m n)))]) ∧ Ext w w' := by
  go_enter Try.func102, Try.ntmps102
  go_wp2_with (first | (go_at_call 88; refine (bvTruth_any _ _).mono ?_; rintro e w1 ⟨rfl, hx⟩; (first | (with_reducible obtain ⟨t2, rfl⟩ := Ext.tok2 hx) | (obtain ⟨t2, rfl⟩ := Ext.tok hx))) | (go_at_call 107; refine (bvBelow_any _ _ _ _ _).mono ?_; rintro e w1 ⟨rfl, hx⟩; (first | (with_reducible obtain ⟨t1, rfl⟩ := Ext.tok2 hx) | (obtain ⟨t1, rfl⟩ := Ext.tok hx))))
  exact bodyPost_ret (v := .agg #[.int .i64 1, .int .i64 (tru (!(blw k' m n)))]) (by simp [results, Try.results102, go_sem]) rfl ⟨rfl, (by repeat first | exact Ext.refl _ | assumption | refine Ext.drew ?_ | refine Ext.drewN ?_ _ | refine Ext.extBy ?_ _ | refine Ext.alloc ?_ _ | refine Ext.setCell ?_ (by simp; try omega) _ | (refine Ext.trans ?_ (by assumption)))⟩

theorem bvGt_any (k n k' m : Int) (w : World) :
    Calls Try.prog 103 #[.agg #[.int .i64 k, .int .i64 n], .agg #[.int .i64 k', .int .i64 m]] w fun e w' => e = .returned (.agg #[.int .i64 1, .int .i64 (tru (blw k' m n))]) ∧ Ext w w' := by
  go_enter Try.func103, Try.ntmps103
  go_wp2_with (first | (go_at_call 88; refine (bvTruth_any _ _).mono ?_; rintro e w1 ⟨rfl, hx⟩; (first | (with_reducible obtain ⟨t2, rfl⟩ := Ext.tok2 hx) | (obtain ⟨t2, rfl⟩ := Ext.tok hx))) | (go_at_call 107; refine (bvBelow_any _ _ _ _ _).mono ?_; rintro e w1 ⟨rfl, hx⟩; (first | (with_reducible obtain ⟨t1, rfl⟩ := Ext.tok2 hx) | (obtain ⟨t1, rfl⟩ := Ext.tok hx))))
  exact bodyPost_ret (v := .agg #[.int .i64 1, .int .i64 (tru (blw k' m n))]) (by simp [results, Try.results103, go_sem]) rfl ⟨rfl, (by repeat first | exact Ext.refl _ | assumption | refine Ext.drew ?_ | refine Ext.drewN ?_ _ | refine Ext.extBy ?_ _ | refine Ext.alloc ?_ _ | refine Ext.setCell ?_ (by simp; try omega) _ | (refine Ext.trans ?_ (by assumption)))⟩

theorem bvGe_any (k n k' m : Int) (w : World) :
    Calls Try.prog 104 #[.agg #[.int .i64 k, .int .i64 n], .agg #[.int .i64 k', .int .i64 m]] w fun e w' => e = .returned (.agg #[.int .i64 1, .int .i64 (tru (!(blw k n m)))]) ∧ Ext w w' := by
  go_enter Try.func104, Try.ntmps104
  go_wp2_with (first | (go_at_call 88; refine (bvTruth_any _ _).mono ?_; rintro e w1 ⟨rfl, hx⟩; (first | (with_reducible obtain ⟨t2, rfl⟩ := Ext.tok2 hx) | (obtain ⟨t2, rfl⟩ := Ext.tok hx))) | (go_at_call 107; refine (bvBelow_any _ _ _ _ _).mono ?_; rintro e w1 ⟨rfl, hx⟩; (first | (with_reducible obtain ⟨t1, rfl⟩ := Ext.tok2 hx) | (obtain ⟨t1, rfl⟩ := Ext.tok hx))))
  exact bodyPost_ret (v := .agg #[.int .i64 1, .int .i64 (tru (!(blw k n m)))]) (by simp [results, Try.results104, go_sem]) rfl ⟨rfl, (by repeat first | exact Ext.refl _ | assumption | refine Ext.drew ?_ | refine Ext.drewN ?_ _ | refine Ext.extBy ?_ _ | refine Ext.alloc ?_ _ | refine Ext.setCell ?_ (by simp; try omega) _ | (refine Ext.trans ?_ (by assumption)))⟩

theorem bvImp_any (k n k' m : Int) (w : World) :
    Calls Try.prog 96 #[.agg #[.int .i64 k, .int .i64 n], .agg #[.int .i64 k', .int .i64 m]] w fun e w' => e = .returned (.agg #[.int .i64 1, .int .i64 (tru (n == 0 || m != 0))]) ∧ Ext w w' := by
  go_enter Try.func96, Try.ntmps96
  go_wp2_with (first | (go_at_call 88; refine (bvTruth_any _ _).mono ?_; rintro e w1 ⟨rfl, hx⟩; (first | (with_reducible obtain ⟨t2, rfl⟩ := Ext.tok2 hx) | (obtain ⟨t2, rfl⟩ := Ext.tok hx))))
  all_goals refine bodyPost_ret (v := .agg #[.int .i64 1, .int .i64 (tru (n == 0 || m != 0))]) (by simp [results, Try.results96, go_sem, *]) rfl ⟨rfl, (by repeat first | exact Ext.refl _ | assumption | refine Ext.drew ?_ | refine Ext.drewN ?_ _ | refine Ext.extBy ?_ _ | refine Ext.alloc ?_ _ | refine Ext.setCell ?_ (by simp; try omega) _ | (refine Ext.trans ?_ (by assumption)))⟩

end Go.Proofs.Ytmommjagndadjaa
namespace Go.Proofs.Ytmommjagndadjaa
open Go.RowKit
set_option linter.unusedSimpArgs false
set_option linter.unusedVariables false
set_option maxRecDepth 100000

@[go_sem] theorem valField0 (x y : Value) (w : World) : Sem.run Try.prog (Instr.field 135 (.agg #[x, y]) 0) w = .ok x w := by kernel_rfl
@[go_sem] theorem valField1 (x y : Value) (w : World) : Sem.run Try.prog (Instr.field 135 (.agg #[x, y]) 1) w = .ok y w := by kernel_rfl

theorem bvFits_any (o k : Int) (w : World) :
    Calls Try.prog 85 #[.int .i64 o, .int .i64 k] w fun e w' => e = .returned (.bool (fitsv o k)) ∧ w = w' := by
  go_enter Try.func85, Try.ntmps85
  go_wp2
  all_goals go_ret
  all_goals refine ⟨?_, rfl⟩
  all_goals simp_all [fitsv]

theorem bvUn_any (op k a : Int) (w : World) :
    Calls Try.prog 69 #[.int .i64 op, .int .i64 k, .int .i64 a] w fun e w' => e = .returned (.tuple #[.int .i64 (unv op k a).1, .bool (unv op k a).2]) ∧ Ext w w' := by
  have hsg : IntKind.i64.signed = true := rfl
  cases hi : isk k a
  all_goals
    go_enter Try.func69, Try.ntmps69
    go_wp2_with (first | (go_at_call 80; refine (bvOf_any _ _ _ _).mono ?_; rintro e w1 ⟨rfl, hx⟩; (first | (with_reducible obtain ⟨t2, rfl⟩ := Ext.tok2 hx) | (obtain ⟨t2, rfl⟩ := Ext.tok hx))) | (go_at_call 47; refine (bvIs_any _ _ _).mono ?_; rintro e w1 ⟨rfl, rfl⟩))
  all_goals go_ret2
  all_goals refine ⟨?_, (by repeat first | exact Ext.refl _ | assumption | refine Ext.drew ?_ | refine Ext.drewN ?_ _ | refine Ext.extBy ?_ _ | refine Ext.alloc ?_ _ | refine Ext.setCell ?_ (by simp; try omega) _ | (refine Ext.trans ?_ (by assumption)))⟩
  all_goals simp_all [unv]

theorem bvCast_any (f t a : Int) (w : World) :
    Calls Try.prog 83 #[.int .i64 f, .int .i64 t, .int .i64 a] w fun e w' => e = .returned (.tuple #[.int .i64 (castv f t a).1, .bool (castv f t a).2]) ∧ Ext w w' := by
  cases hi : isk f a
  all_goals
    go_enter Try.func83, Try.ntmps83
    go_wp2_with (first | (go_at_call 88; refine (bvTruth_any _ _).mono ?_; rintro e w1 ⟨rfl, hx⟩; (first | (with_reducible obtain ⟨t2, rfl⟩ := Ext.tok2 hx) | (obtain ⟨t2, rfl⟩ := Ext.tok hx))) | (go_at_call 47; refine (bvIs_any _ _ _).mono ?_; rintro e w1 ⟨rfl, rfl⟩) | (go_at_call 52; refine (bvWidth_any _ _).mono ?_; rintro e w1 ⟨rfl, rfl⟩) | (go_at_call 66; refine (bvWrap_any _ _ _).mono ?_; rintro e w1 ⟨rfl, rfl⟩))
  all_goals go_ret2
  all_goals refine ⟨?_, (by repeat first | exact Ext.refl _ | assumption | refine Ext.drew ?_ | refine Ext.drewN ?_ _ | refine Ext.extBy ?_ _ | refine Ext.alloc ?_ _ | refine Ext.setCell ?_ (by simp; try omega) _ | (refine Ext.trans ?_ (by assumption)))⟩
  all_goals simp_all [castv]
end Go.Proofs.Ytmommjagndadjaa

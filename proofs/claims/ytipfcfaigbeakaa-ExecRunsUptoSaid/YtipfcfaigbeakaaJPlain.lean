/-
  The values of a fixed width as plain functions on integers (no program in sight).
  No condition.
  Which operations on two values there are, and what they give.
  No condition.
  The plain rules of the machine's programs: what an instruction does to the kinds on the stack, and what is wrong with a program.
  No condition.
  Division of numbers without a sign, bit by bit: the plain law.
  No condition but that the divisor is not nought.
  One instruction of a program, in the parts in which the code looks at it.
  No condition.
  The plain bytes of a program: a number's bytes, a program's numbers.
  No condition.
-/
import Derived.WalkKit
namespace Go.Proofs.Ytipfcfaigbeakaa
open Go.RowKit
set_option maxRecDepth 100000

def width (k : Int) : Int := if k = 1 then 1 else if k = 2 ∨ k = 6 then 8 else if k = 3 ∨ k = 7 then 16 else if k = 4 ∨ k = 8 then 32 else if k = 5 ∨ k = 9 then 64 else 0
/-- The value of a kind that a number's lower bits are; the 64-bit kinds take the number as it is. -/
def wkr (k n : Int) : Int :=
  if k = 1 then bits .and .i64 n 1 else if k = 2 then wrap64 (IntKind.i8.wrap n) else if k = 3 then wrap64 (IntKind.i16.wrap n) else if k = 4 then wrap64 (wrap32 n)
  else if k = 6 then n % 256 else if k = 7 then wrap64 (IntKind.u16.wrap n) else if k = 8 then n % 4294967296 else if k = 5 ∨ k = 9 then n else 0
def isk (k n : Int) : Bool := decide (0 < width k) && (wkr k n == n)
def sgn (k : Int) : Bool := decide (2 ≤ k) && decide (k ≤ 5)
/-- A number that 64 bits hold. -/
def I64 (n : Int) : Prop := -9223372036854775808 ≤ n ∧ n < 9223372036854775808
theorem I64.nz {m : Int} (h : I64 m) (hz : IntKind.u64.wrap m = 0) : m = 0 := by
  have e : IntKind.u64.wrap m = m % 18446744073709551616 := by simp [IntKind.wrap, IntKind.bits, IntKind.signed]
  unfold I64 at h; omega
def tru (b : Bool) : Int := if b then 1 else 0
theorem width_cases (k : Int) : width k = 0 ∨ width k = 1 ∨ width k = 8 ∨ width k = 16 ∨ width k = 32 ∨ width k = 64 := by
  unfold width; repeat (split; · simp)
  simp
/-- A value's bits as a number without a sign. -/
def ubits (k n : Int) : Int := n % 2 ^ (width k).toNat
def shlv (k n k' m : Int) : Int := if width k ≤ ubits k' m then 0 else wrap64 (IntKind.u64.wrap (ubits k n * 2 ^ (ubits k' m).toNat))
/-- The places of a shift to the right: 64 from the width on. -/
def shrBy (k k' m : Int) : Int := if width k ≤ ubits k' m then 64 else ubits k' m
def shrv (k n k' m : Int) : Int := if sgn k then n / 2 ^ (shrBy k k' m).toNat else wrap64 (ubits k n / 2 ^ (shrBy k k' m).toNat)
def blw (k n m : Int) : Bool := if k = 9 then decide (IntKind.u64.wrap n < IntKind.u64.wrap m) else decide (n < m)
def divv (k n m : Int) : Int := if m = 0 then 0 else if k = 9 then wrap64 (IntKind.u64.wrap ((IntKind.u64.wrap n).tdiv (IntKind.u64.wrap m))) else if m = -1 then wrap64 (-n) else wrap64 (n.tdiv m)
def modv (k n m : Int) : Int := if m = 0 then 0 else if k = 9 then wrap64 ((IntKind.u64.wrap n).tmod (IntKind.u64.wrap m)) else if m = -1 then 0 else n.tmod m
theorem bits_and64 (x y : Int) : bits .and .i64 x y = IntKind.i64.wrap ((BitVec.ofInt 64 x &&& BitVec.ofInt 64 y).toNat : Int) := rfl
theorem bits_or64 (x y : Int) : bits .or .i64 x y = IntKind.i64.wrap ((BitVec.ofInt 64 x ||| BitVec.ofInt 64 y).toNat : Int) := rfl
theorem bits_xor64 (x y : Int) : bits .xor .i64 x y = IntKind.i64.wrap ((BitVec.ofInt 64 x ^^^ BitVec.ofInt 64 y).toNat : Int) := rfl
theorem bv_and_one (x : Int) : bits .and .i64 x 1 = x % 2 := by
  rw [bits_and64]
  have h : (BitVec.ofInt 64 x &&& BitVec.ofInt 64 1).toNat = (x % 2).toNat := by
    rw [BitVec.toNat_and]
    have h1 : (BitVec.ofInt 64 1).toNat = 1 := by decide
    rw [h1, Nat.and_one_is_mod, BitVec.toNat_ofInt]
    omega
  rw [h]
  have h2 : 0 ≤ x % 2 ∧ x % 2 < 2 := by omega
  simp [IntKind.wrap, IntKind.bits, IntKind.signed]
  omega
theorem wkr_1 (n : Int) : wkr 1 n = n % 2 := by simp [wkr, bv_and_one]
theorem wkr_2 (n : Int) : wkr 2 n = (n + 128) % 256 - 128 := by
  simp [wkr, wrap64, IntKind.wrap, IntKind.bits, IntKind.signed]; repeat' split
  all_goals omega
theorem wkr_3 (n : Int) : wkr 3 n = (n + 32768) % 65536 - 32768 := by
  simp [wkr, wrap64, IntKind.wrap, IntKind.bits, IntKind.signed]; repeat' split
  all_goals omega
theorem wkr_4 (n : Int) : wkr 4 n = (n + 2147483648) % 4294967296 - 2147483648 := by
  simp [wkr, wrap64, wrap32]; repeat' split
  all_goals omega
theorem wkr_6 (n : Int) : wkr 6 n = n % 256 := by simp [wkr]
theorem wkr_7 (n : Int) : wkr 7 n = n % 65536 := by
  simp [wkr, wrap64, IntKind.wrap, IntKind.bits, IntKind.signed]; try omega
theorem wkr_8 (n : Int) : wkr 8 n = n % 4294967296 := by simp [wkr]
theorem wkr_5 (n : Int) : wkr 5 n = n := by simp [wkr]
theorem wkr_9 (n : Int) : wkr 9 n = n := by simp [wkr]
theorem width_none {k : Int} (h : width k = 0) : ¬ (k = 1 ∨ k = 2 ∨ k = 3 ∨ k = 4 ∨ k = 5 ∨ k = 6 ∨ k = 7 ∨ k = 8 ∨ k = 9) := by
  rintro (rfl | rfl | rfl | rfl | rfl | rfl | rfl | rfl | rfl) <;> revert h <;> decide
theorem wkr_none {k : Int} (n : Int) (h : width k = 0) : wkr k n = 0 := by
  have := width_none h
  simp only [not_or] at this
  simp [wkr, this]
theorem kinds (k : Int) : k = 1 ∨ k = 2 ∨ k = 3 ∨ k = 4 ∨ k = 5 ∨ k = 6 ∨ k = 7 ∨ k = 8 ∨ k = 9 ∨ width k = 0 := by
  by_cases h : k = 1 ∨ k = 2 ∨ k = 3 ∨ k = 4 ∨ k = 5 ∨ k = 6 ∨ k = 7 ∨ k = 8 ∨ k = 9
  · omega
  · simp only [not_or] at h
    simp [width, h]
theorem tmod_neg {n p : Int} (hp : 0 < p) (h : n.tmod p < 0) : n.tmod p + p = n % p := by
  have := @Int.tmod_eq_emod n p
  have h2 := Int.emod_nonneg n (show p ≠ 0 by omega)
  split at this <;> omega
theorem tmod_pos {n p : Int} (hp : 0 < p) (h : 0 ≤ n.tmod p) : n.tmod p = n % p := by
  have := @Int.tmod_eq_emod n p
  have h2 := Int.emod_lt_of_pos n hp
  split at this <;> omega
theorem tmod_bd {n p : Int} (hp : 0 < p) : -p < n.tmod p ∧ n.tmod p < p := by
  have := @Int.tmod_eq_emod n p
  have h2 := Int.emod_nonneg n (show p ≠ 0 by omega)
  have h3 := Int.emod_lt_of_pos n hp
  split at this <;> omega
/-- The lower m bits of a number, the lowest first. -/
def bitsL (m : Nat) (n : Int) : List Int := (List.range m).map fun i => n / 2 ^ i % 2
theorem bitsL_length (m : Nat) (n : Int) : (bitsL m n).length = m := by simp [bitsL]
theorem bitsL_succ (m : Nat) (n : Int) : bitsL (m + 1) n = bitsL m n ++ [n / 2 ^ m % 2] := by simp [bitsL, List.range_succ]
def wid (k : Int) : Nat := (width k).toNat
theorem width_wid (k : Int) : width k = (wid k : Int) := by have := width_cases k; unfold wid; omega
theorem wid_le (k : Int) : wid k ≤ 64 := by have := width_cases k; unfold wid; omega
/-- The number that bits are (the 64th counts down), m of them. -/
def fromS (l : List Int) : Nat → Int
  | 0 => 0
  | m + 1 => if l.getD m 0 = 0 then fromS l m else if m = 63 then fromS l m + -9223372036854775808 else fromS l m + 2 ^ m
theorem fromS_bd (l : List Int) (m : Nat) (hm : m ≤ 63) : 0 ≤ fromS l m ∧ fromS l m ≤ 2 ^ m - 1 := by
  induction m with
  | zero => simp [fromS]
  | succ m ih =>
    have := ih (by omega)
    have hp : (0 : Int) < 2 ^ m := Int.pow_pos (by decide)
    unfold fromS
    rw [Int.pow_succ]
    rw [if_neg (show ¬ m = 63 by omega)]
    split <;> omega
/-- Two lists, element by element, up to j; the first one's behind. -/
def mix2 (f : Int → Int → Int) (l r : List Int) (j : Nat) : List Int := List.zipWith f (l.take j) (r.take j) ++ l.drop j
theorem mix2_zero (f : Int → Int → Int) (l r : List Int) : mix2 f l r 0 = l := by simp [mix2]
theorem mix2_all (f : Int → Int → Int) (l r : List Int) (j : Nat) (h : l.length ≤ j) (h2 : r.length ≤ j) : mix2 f l r j = List.zipWith f l r := by
  simp [mix2, List.take_of_length_le h, List.take_of_length_le h2, List.drop_of_length_le h]
theorem mix2_at (f : Int → Int → Int) (l r : List Int) (j : Nat) (x : Int) (hl : l.length = r.length) (h : l[j]? = some x) : (mix2 f l r j)[j]? = some x := by
  have hj : j < l.length := (List.getElem?_eq_some_iff.1 h).1
  have hz : (List.zipWith f (l.take j) (r.take j)).length = j := by simp; omega
  unfold mix2
  rw [List.getElem?_append_right (by omega), hz]
  simp [h]
theorem mix2_set (f : Int → Int → Int) (l r : List Int) (j : Nat) (x y : Int) (hl : l.length = r.length) (h : l[j]? = some x) (h2 : r[j]? = some y) : (mix2 f l r j).set j (f x y) = mix2 f l r (j + 1) := by
  have hj : j < l.length := (List.getElem?_eq_some_iff.1 h).1
  have hz : (List.zipWith f (l.take j) (r.take j)).length = j := by simp; omega
  obtain ⟨hx1, hx2⟩ := List.getElem?_eq_some_iff.1 h
  obtain ⟨hy1, hy2⟩ := List.getElem?_eq_some_iff.1 h2
  unfold mix2
  rw [List.set_append_right _ _ (by omega), hz, Nat.sub_self, List.take_succ_eq_append_getElem hx1, List.take_succ_eq_append_getElem hy1, List.zipWith_append (by simp; omega), hx2, hy2]
  have e : List.drop j l = l[j] :: List.drop (j + 1) l := List.drop_eq_getElem_cons hx1
  simp
  rw [e]
  rfl
/-- Where a bit of a moved value comes from. -/
def movFrom (op : Int) (i : Nat) (U : Int) : Int := if op = 13 then (i : Int) + U else (i : Int) - U
def movAt (op : Int) (m : Nat) (X : List Int) (U f0 : Int) (i : Nat) : Int := if U < m ∧ 0 ≤ movFrom op i U ∧ movFrom op i U < m then X.getD (movFrom op i U).toNat 0 else f0
def movedL (op : Int) (m : Nat) (X : List Int) (U f0 : Int) : List Int := (List.range m).map (movAt op m X U f0)
/-- The first j of a list, noughts behind, n in all. -/
def upto (l : List Int) (n j : Nat) : List Int := l.take j ++ List.replicate (n - j) 0
theorem upto_set (l : List Int) (n j : Nat) (x : Int) (hl : l.length = n) (h : l[j]? = some x) : (upto l n j).set j x = upto l n (j + 1) := by
  obtain ⟨h1, h2⟩ := List.getElem?_eq_some_iff.1 h
  have hz : (l.take j).length = j := by simp; omega
  unfold upto
  rw [List.set_append_right _ _ (by omega), hz, Nat.sub_self, List.take_succ_eq_append_getElem h1, h2]
  obtain ⟨d, hd⟩ : ∃ d, n - j = d + 1 := ⟨n - j - 1, by omega⟩
  rw [hd, show n - (j + 1) = d by omega]
  simp [List.replicate_succ]
theorem upto_all (l : List Int) (n : Nat) (hl : l.length = n) : upto l n n = l := by simp [upto, List.take_of_length_le (Nat.le_of_eq hl)]
theorem upto_len (l : List Int) (n j : Nat) (hl : l.length = n) (hj : j ≤ n) : (upto l n j).length = n := by simp [upto]; omega
/-- A count that stands still at m. -/
def capN (m : Nat) (t : Int) : Int := if (m : Int) ≤ t then m else t
/-- The number of the bits from j on. -/
def topN (m : Nat) (b : Int) (j : Nat) : Int := b % 2 ^ m / 2 ^ j
theorem topN_pos (m : Nat) (b : Int) (j : Nat) : 0 ≤ topN m b j := Int.ediv_nonneg (Int.emod_nonneg _ (Int.pow_ne_zero (by decide))) (Int.pow_nonneg (by decide))
theorem topN_start (m : Nat) (b : Int) : topN m b m = 0 := Int.ediv_eq_zero_of_lt (Int.emod_nonneg _ (Int.pow_ne_zero (by decide))) (Int.emod_lt_of_pos _ (Int.pow_pos (by decide)))
theorem mod_bit (m : Nat) (b : Int) (j : Nat) (hj : j < m) : b % 2 ^ m / 2 ^ j % 2 = b / 2 ^ j % 2 := by
  obtain ⟨d, hd⟩ := Nat.le.dest (show j + 1 ≤ m by omega)
  have hp : (2 : Int) ^ m = 2 * 2 ^ d * 2 ^ j := by
    rw [← hd, Int.pow_add, Int.pow_succ, Int.mul_comm (2 ^ j) 2, Int.mul_assoc, Int.mul_comm (2 ^ j) (2 ^ d), Int.mul_assoc]
  have hpos : (0 : Int) < 2 ^ j := Int.pow_pos (by decide)
  have hm := Int.mul_ediv_add_emod b (2 ^ m)
  have e : b = b % 2 ^ m + (2 * 2 ^ d * (b / 2 ^ m)) * 2 ^ j := by
    have h3 : (2 : Int) ^ m * (b / 2 ^ m) = (2 * 2 ^ d * (b / 2 ^ m)) * 2 ^ j := by
      generalize b / 2 ^ m = t
      rw [hp, Int.mul_assoc, Int.mul_comm (2 ^ j) t, ← Int.mul_assoc]
    omega
  have e2 : b / 2 ^ j = b % 2 ^ m / 2 ^ j + 2 * 2 ^ d * (b / 2 ^ m) := by
    conv => lhs; rw [e]
    rw [Int.add_mul_ediv_right _ _ (by omega)]
  rw [e2, Int.mul_assoc, Int.add_mul_emod_self_left]
theorem topN_step (m : Nat) (b : Int) (j : Nat) (hj : j < m) : topN m b j = 2 * topN m b (j + 1) + b / 2 ^ j % 2 := by
  have h1 : b % 2 ^ m / 2 ^ (j + 1) = b % 2 ^ m / 2 ^ j / 2 := by
    rw [Int.pow_succ, Int.ediv_ediv_of_nonneg (Int.pow_nonneg (by decide))]
  have h2 := mod_bit m b j hj
  unfold topN
  omega
/-- A list whose first j elements are mapped. -/
def mix (f : Int → Int) (l : List Int) (j : Nat) : List Int := (l.take j).map f ++ l.drop j
theorem mix_length (f : Int → Int) (l : List Int) (j : Nat) : (mix f l j).length = l.length := by simp [mix]; omega
theorem mix_zero (f : Int → Int) (l : List Int) : mix f l 0 = l := by simp [mix]
theorem mix_all (f : Int → Int) (l : List Int) (j : Nat) (h : l.length ≤ j) : mix f l j = l.map f := by simp [mix, List.take_of_length_le h, List.drop_of_length_le h]
theorem mix_at (f : Int → Int) (l : List Int) (j : Nat) (x : Int) (h : l[j]? = some x) : (mix f l j)[j]? = some x := by
  have hj : j < l.length := (List.getElem?_eq_some_iff.1 h).1
  simp [mix, List.getElem?_append, Nat.min_eq_left (Nat.le_of_lt hj), h]
theorem mix_set (f : Int → Int) (l : List Int) (j : Nat) (x : Int) (h : l[j]? = some x) : (mix f l j).set j (f x) = mix f l (j + 1) := by
  have hj : j < l.length := (List.getElem?_eq_some_iff.1 h).1
  apply List.ext_getElem?
  intro i
  rw [List.getElem?_set]
  simp only [mix, List.length_append, List.length_map, List.length_take, List.length_drop, List.getElem?_append, List.getElem?_map, List.getElem?_take, List.getElem?_drop]
  by_cases h1 : j = i
  · subst h1
    rw [if_pos rfl, if_pos (by omega), if_pos (by omega), if_pos (by omega)]
    simp [h]
  · rw [if_neg h1]
    by_cases h2 : i < j
    · rw [if_pos (by omega), if_pos (by omega), if_pos (by omega), if_pos (by omega)]
    · rw [if_neg (by omega), if_neg (by omega)]
      congr 1; omega
theorem pow_le61 (k : Nat) (h : k ≤ 61) : (2 : Int) ^ k ≤ 2305843009213693952 := by
  have h1 : (2 : Nat) ^ k ≤ 2 ^ 61 := Nat.pow_le_pow_right (by decide) h
  have h2 : ((2 ^ k : Nat) : Int) ≤ ((2 ^ 61 : Nat) : Int) := Int.ofNat_le.2 h1
  rw [Int.natCast_pow] at h2
  exact h2
theorem blw_nine {a b : Int} (ha : I64 a) (hb : I64 b) : blw 9 a b = if (decide (a < 0) == decide (b < 0)) = true then decide (a < b) else decide (b < 0) := by
  have e : ∀ n, IntKind.u64.wrap n = n % 18446744073709551616 := fun n => by simp [IntKind.wrap, IntKind.bits, IntKind.signed]
  simp only [blw, e, if_true]
  unfold I64 at ha hb
  by_cases h1 : a < 0 <;> by_cases h2 : b < 0 <;> simp [h1, h2] <;> omega
end Go.Proofs.Ytipfcfaigbeakaa

namespace Go.Proofs.Ytipfcfaigbeakaa
open Go.RowKit
set_option maxRecDepth 100000
def fitsv (o k : Int) : Bool := if k = 1 then (bits .and .i64 o 1 != 0) else (bits .and .i64 o 2 != 0)
def unv (op k a : Int) : Int × Bool :=
  if isk k a = false then (0, false) else if op = 1 then (if k = 1 then (wrap64 (1 - a), true) else (wkr k (bits .xor .i64 (-1) a), true))
  else if op = 2 then (if k = 1 then (0, false) else (wkr k (wrap64 (-a)), true)) else (0, false)
def castv (f t a : Int) : Int × Bool := if isk f a = false ∨ width t = 0 then (0, false) else if t = 1 then (tru (a != 0), true) else (wkr t a, true)
def opOf (n : Nat) : Int := match n with | 3 => 2 | 4 => 2 | 5 => 2 | 6 => 2 | 7 => 2 | 8 => 3 | 9 => 3 | 10 => 3 | 11 => 1 | 12 => 2 | 13 => 2 | 14 => 3 | 15 => 3 | 16 => 2 | 17 => 2 | 18 => 2 | 19 => 2 | _ => 0
def binr (n : Nat) (k a b : Int) : Int × Int := match n with | 3 => (wkr k (wrap64 (a + b)), k) | 4 => (wkr k (wrap64 (a - b)), k) | 5 => (wkr k (wrap64 (a * b)), k) | 6 => (wkr k (divv k a b), k) | 7 => (wkr k (modv k a b), k) | 8 => (wkr k (bits .and .i64 a b), k) | 9 => (wkr k (bits .or .i64 a b), k) | 10 => (wkr k (bits .xor .i64 a b), k) | 11 => (tru (a == 0 || b != 0), 1) | 12 => (wkr k (shlv k a k b), k) | 13 => (wkr k (shrv k a k b), k) | 14 => (tru (a == b), 1) | 15 => (tru (a != b), 1) | 16 => (tru (blw k a b), 1) | 17 => (tru (!(blw k b a)), 1) | 18 => (tru (blw k b a), 1) | 19 => (tru (!(blw k a b)), 1) | _ => (0, 0)
def binOk (op k a b : Int) : Bool := isk k a && isk k b && decide (0 ≤ op) && fitsv (opOf op.toNat) k
def binv (op k a b : Int) : Int × Int × Bool := if binOk op k a b then ((binr op.toNat k a b).1, (binr op.toNat k a b).2, true) else (0, 0, false)
theorem fits0 (k : Int) : fitsv 0 k = false := by unfold fitsv; split <;> decide
theorem opOf_big (n : Nat) (h : 20 ≤ n) : opOf n = 0 := by
  unfold opOf; split <;> first | omega | rfl

end Go.Proofs.Ytipfcfaigbeakaa

namespace Go.Proofs.Ytipfcfaigbeakaa

structure InsV where
  op : Int
  n : Int
  k : Int
structure CodeV where
  kinds : List Int
  ins : Int
  outs : Int
  cells : Int
  init : List Int
  stack : Int
  body : List InsV

/-- The stack behind a value of that kind taken off. -/
def popV (l : List Int) (k : Int) : Option (List Int) := if l.getLast? = some k then some l.dropLast else none
def kindAt (c : CodeV) (n : Int) : Option Int := if 0 ≤ n then c.kinds[n.toNat]? else none
def bkind (op k : Int) : Option Int := if (binv op k 0 0).2.2 then some (binv op k 0 0).2.1 else none
/-- The stack behind an instruction; none: it cannot be. -/
def stepV (c : CodeV) (q : InsV) (l : List Int) : Option (List Int) :=
  if q.op = 1 then (if isk q.k q.n = true then some (l ++ [q.k]) else none)
  else if q.op = 2 then (if q.k = 0 then (kindAt c q.n).map (fun k => l ++ [k]) else none)
  else if q.op = 3 then (if q.k = 0 ∧ c.ins ≤ q.n then (kindAt c q.n).bind (popV l) else none)
  else if q.op = 4 then (if (unv q.n q.k 0).2 = true then (popV l q.k).map (fun m => m ++ [q.k]) else none)
  else if q.op = 5 then ((popV l q.k).bind fun m => (popV m q.k).bind fun r => (bkind q.n q.k).map fun k => r ++ [k])
  else if q.op = 6 then (if 0 < width q.k then (popV l q.n).map (fun m => m ++ [q.k]) else none)
  else if q.op = 7 then (if q.k = 0 then some l else none)
  else if q.op = 8 then (if q.k = 0 then popV l 1 else none)
  else (if q.n = 0 ∧ q.k = 0 ∧ l = [] then some l else none)
/-- Where the machine goes from instruction i of n; none: nowhere. -/
def waysV (q : InsV) (i n : Nat) : Option (List Nat) :=
  if q.op = 7 then (if 0 ≤ q.n ∧ q.n < (n : Int) - i - 1 then some [i + 1 + q.n.toNat] else none)
  else if q.op = 8 then (if 0 ≤ q.n ∧ q.n < (n : Int) - i - 1 then some [i + 1, i + 1 + q.n.toNat] else none)
  else if q.op = 9 then some [] else some [i + 1]
/-- What stack is known at each instruction. -/
abbrev Known := Nat → Option (List Int)
def putV (st : Known) (w : Nat) (l : List Int) : Option Known :=
  match st w with
  | none => some (fun j => if j = w then some l else st j)
  | some m => if m = l then some st else none
def putsV (l : List Int) : List Nat → Known → Option Known
  | [], st => some st
  | w :: ws, st => (putV st w l).bind (putsV l ws)
/-- One instruction more. -/
def advV (c : CodeV) (q : InsV) (i : Nat) (st : Known) : Option Known :=
  match st i with
  | none => some st
  | some l =>
    match stepV c q l with
    | none => none
    | some m => if (m.length : Int) ≤ c.stack then (waysV q i c.body.length).bind (fun ws => putsV m ws st) else none
def runV (c : CodeV) : List InsV → Nat → Known → Option Known
  | [], _, st => some st
  | q :: qs, i, st => (advV c q i st).bind (runV c qs (i + 1))
def start : Known := fun j => if j = 0 then some [] else none
def formedV (c : CodeV) : Bool :=
  decide (0 ≤ c.ins) && decide (0 ≤ c.outs) && decide (0 ≤ c.cells) && decide (0 ≤ c.stack) && decide (c.ins + c.outs + c.cells ≤ c.kinds.length) &&
  c.kinds.all (fun k => width k != 0) && decide ((c.init.length : Int) = c.cells) &&
  (List.range c.init.length).all (fun j => isk (c.kinds.getD (c.ins.toNat + c.outs.toNat + j) 0) (c.init.getD j 0)) &&
  decide (c.body.getLast?.map (·.op) = some 9) && c.body.all (fun q => decide (1 ≤ q.op) && decide (q.op ≤ 9))
def chk (c : CodeV) : Int :=
  if 60000 < c.body.length ∨ 8000 < c.kinds.length ∨ 64 < c.stack then 2
  else if formedV c = false then 40
  else if (runV c c.body 0 start).isNone then 50 else 0
end Go.Proofs.Ytipfcfaigbeakaa

namespace Go.Proofs.Ytipfcfaigbeakaa
open Go.RowKit
set_option maxRecDepth 100000

theorem wrap64_eq (n : Int) : wrap64 n = (n + 9223372036854775808) % 18446744073709551616 - 9223372036854775808 := by
  unfold wrap64; with_reducible rfl
theorem u64_eq (n : Int) : IntKind.u64.wrap n = n % 18446744073709551616 := by simp [IntKind.wrap, IntKind.bits, IntKind.signed]
theorem wrap64_I64 (n : Int) : I64 (wrap64 n) := by rw [wrap64_eq]; unfold I64; omega
theorem wrap64_mod (n : Int) : wrap64 n % 18446744073709551616 = n % 18446744073709551616 := by rw [wrap64_eq]; omega
theorem wrap64_congr {m n : Int} (h : m % 18446744073709551616 = n % 18446744073709551616) : wrap64 m = wrap64 n := by rw [wrap64_eq, wrap64_eq]; omega
theorem wrap64_self {n : Int} (h : I64 n) : wrap64 n = n := by rw [wrap64_eq]; unfold I64 at h; omega

def DivInv (a b : Int) (i : Nat) (q r : Int) : Prop :=
  ∃ Q R : Int, q = wrap64 (Q * 2 ^ i) ∧ r = wrap64 R ∧ 0 ≤ R ∧ R < b % 18446744073709551616 ∧ Q * (b % 18446744073709551616) + R = a % 18446744073709551616 / 2 ^ i

theorem div_start (a b : Int) (hb : b % 18446744073709551616 ≠ 0) : DivInv a b 64 0 0 := by
  refine ⟨0, 0, ?_, ?_, by omega, by omega, ?_⟩
  · simp [wrap64_eq]
  · simp [wrap64_eq]
  · have : (2 : Int) ^ 64 = 18446744073709551616 := by decide
    rw [this]; omega

theorem bit_step (a : Int) (i : Nat) (hi : i < 64) : a % 18446744073709551616 / 2 ^ i = 2 * (a % 18446744073709551616 / 2 ^ (i + 1)) + a / 2 ^ i % 2 := by
  have h1 : a % 18446744073709551616 / 2 ^ (i + 1) = a % 18446744073709551616 / 2 ^ i / 2 := by
    rw [Int.pow_succ, Int.ediv_ediv_of_nonneg (Int.pow_nonneg (by decide))]
  have h2 : a % 18446744073709551616 / 2 ^ i % 2 = a / 2 ^ i % 2 := by
    obtain ⟨d, hd⟩ := Nat.le.dest (show i + 1 ≤ 64 by omega)
    have hp : (18446744073709551616 : Int) = 2 ^ i * (2 * 2 ^ d) := by
      rw [← Int.mul_assoc, ← Int.pow_succ, ← Int.pow_add, hd]; rfl
    have hpos : (0 : Int) < 2 ^ i := Int.pow_pos (by decide)
    have hm := Int.mul_ediv_add_emod a 18446744073709551616
    have e : a = a % 18446744073709551616 + (2 * 2 ^ d * (a / 18446744073709551616)) * 2 ^ i := by
      have h3 : (18446744073709551616 : Int) * (a / 18446744073709551616) = (2 * 2 ^ d * (a / 18446744073709551616)) * 2 ^ i := by
        rw [hp]; generalize a / (2 ^ i * (2 * 2 ^ d)) = t; rw [Int.mul_comm (2 ^ i) (2 * 2 ^ d), Int.mul_assoc, Int.mul_assoc, Int.mul_comm (2 ^ i) t, Int.mul_assoc]; simp [Int.mul_assoc]
      omega
    have e2 : a / 2 ^ i = a % 18446744073709551616 / 2 ^ i + 2 * 2 ^ d * (a / 18446744073709551616) := by
      conv => lhs; rw [e]
      rw [Int.add_mul_ediv_right _ _ (by omega)]
    rw [e2, Int.mul_assoc, Int.add_mul_emod_self_left]
  omega

theorem div_yes {a b : Int} {i : Nat} {q r : Int} (hi : i < 64) (h : DivInv a b (i + 1) q r) (hc : r < 0 ∨ (!blw 9 (wrap64 (wrap64 (2 * r) + a / 2 ^ i % 2)) b) = true) :
    DivInv a b i (wrap64 (q + 2 ^ i)) (wrap64 (wrap64 (wrap64 (2 * r) + a / 2 ^ i % 2) - b)) := by
  obtain ⟨Q, R, rfl, rfl, h0, h1, h2⟩ := h
  have hs := bit_step a i hi
  obtain ⟨D, hD'⟩ : ∃ D, D = b % 18446744073709551616 := ⟨_, rfl⟩
  unfold DivInv
  rw [← hD'] at h1 h2 ⊢
  have hD := hD'.symm
  clear hD'
  rw [← h2] at hs
  have hbit : 0 ≤ a / 2 ^ i % 2 ∧ a / 2 ^ i % 2 < 2 := by omega
  generalize a / 2 ^ i % 2 = t at *
  have hDb : D < 18446744073709551616 := by omega
  have m1 := wrap64_mod R
  have m2 := wrap64_mod (2 * wrap64 R)
  have m3 := wrap64_mod (wrap64 (2 * wrap64 R) + t)
  have w1 := wrap64_eq R
  have hge : D ≤ 2 * R + t := by
    rcases hc with hc | hc
    · omega
    · simp only [blw, if_true, u64_eq, Bool.not_eq_true', decide_eq_false_iff_not, hD] at hc
      omega
  refine ⟨2 * Q + 1, 2 * R + t - D, ?_, ?_, by omega, by omega, ?_⟩
  · apply wrap64_congr
    have m4 := wrap64_mod (Q * 2 ^ (i + 1))
    have e : (2 * Q + 1) * 2 ^ i = Q * 2 ^ (i + 1) + 2 ^ i := by rw [Int.pow_succ, Int.add_mul, Int.one_mul, Int.mul_comm 2 Q, Int.mul_assoc, Int.mul_comm 2 (2 ^ i)]
    rw [e]
    generalize Q * 2 ^ (i + 1) = x at *
    generalize (2 : Int) ^ i = y at *
    omega
  · apply wrap64_congr
    omega
  · rw [hs, Int.add_mul, Int.mul_assoc]; omega

theorem div_no {a b : Int} {i : Nat} {q r : Int} (hi : i < 64) (h : DivInv a b (i + 1) q r) (hc : 0 ≤ r) (hc2 : blw 9 (wrap64 (wrap64 (2 * r) + a / 2 ^ i % 2)) b = true) :
    DivInv a b i q (wrap64 (wrap64 (2 * r) + a / 2 ^ i % 2)) := by
  obtain ⟨Q, R, rfl, rfl, h0, h1, h2⟩ := h
  have hs := bit_step a i hi
  obtain ⟨D, hD'⟩ : ∃ D, D = b % 18446744073709551616 := ⟨_, rfl⟩
  unfold DivInv
  rw [← hD'] at h1 h2 ⊢
  have hD := hD'.symm
  clear hD'
  rw [← h2] at hs
  have hbit : 0 ≤ a / 2 ^ i % 2 ∧ a / 2 ^ i % 2 < 2 := by omega
  generalize a / 2 ^ i % 2 = t at *
  have hDb : D < 18446744073709551616 := by omega
  have m1 := wrap64_mod R
  have m2 := wrap64_mod (2 * wrap64 R)
  have m3 := wrap64_mod (wrap64 (2 * wrap64 R) + t)
  have w1 := wrap64_eq R
  simp only [blw, if_true, u64_eq, decide_eq_true_eq, hD] at hc2
  refine ⟨2 * Q, 2 * R + t, ?_, ?_, by omega, by omega, ?_⟩
  · congr 1
    rw [Int.pow_succ, Int.mul_comm 2 Q, Int.mul_assoc, Int.mul_comm 2 (2 ^ i)]
  · apply wrap64_congr
    omega
  · rw [hs, Int.mul_assoc]; omega

theorem div_end {a b q r : Int} (h : DivInv a b 0 q r) :
    q = wrap64 (a % 18446744073709551616 / (b % 18446744073709551616)) ∧ r = wrap64 (a % 18446744073709551616 % (b % 18446744073709551616)) := by
  obtain ⟨Q, R, rfl, rfl, h0, h1, h2⟩ := h
  generalize b % 18446744073709551616 = D at *
  rw [Int.pow_zero, Int.ediv_one] at h2
  rw [Int.pow_zero, Int.mul_one, ← h2]
  have e1 : (Q * D + R) / D = Q := by
    rw [Int.add_comm, Int.add_mul_ediv_right _ _ (by omega), Int.ediv_eq_zero_of_lt h0 h1, Int.zero_add]
  have e2 : (Q * D + R) % D = R := by
    rw [Int.add_comm, Int.add_mul_emod_self_right, Int.emod_eq_of_lt h0 h1]
  rw [e1, e2]
  exact ⟨rfl, rfl⟩
end Go.Proofs.Ytipfcfaigbeakaa

namespace Go.Proofs.Ytipfcfaigbeakaa

/-- One instruction that is reached with a stack. -/
def oneV (c : CodeV) (q : InsV) (i : Nat) (st : Known) (l : List Int) : Option Known :=
  match stepV c q l with
  | none => none
  | some m => if (m.length : Int) ≤ c.stack then (waysV q i c.body.length).bind (fun ws => putsV m ws st) else none
theorem advV_one (c : CodeV) (q : InsV) (i : Nat) (st : Known) : advV c q i st = match st i with | none => some st | some l => oneV c q i st l := by
  unfold advV oneV; cases st i <;> rfl
/-- An instruction is reached with a stack, if there is one of that number and the stack is not too high. -/
def fl (n : Nat) (sc : Int) (st : Known) (to : Nat) (l : List Int) : Option Known := if to < n ∧ (l.length : Int) ≤ sc then putV st to l else none
theorem oneV_none {c : CodeV} {q : InsV} {i : Nat} {st : Known} {l : List Int} (h : stepV c q l = none) : oneV c q i st l = none := by unfold oneV; rw [h]
theorem oneV_next {c : CodeV} {q : InsV} {i : Nat} {st : Known} {l m : List Int} (h : stepV c q l = some m) (hq : q.op ≠ 7 ∧ q.op ≠ 8 ∧ q.op ≠ 9) (hi : i + 1 < c.body.length) : oneV c q i st l = fl c.body.length c.stack st (i + 1) m := by
  have hw : waysV q i c.body.length = some [i + 1] := by unfold waysV; rw [if_neg hq.1, if_neg hq.2.1, if_neg hq.2.2]
  unfold oneV fl
  rw [h, hw]
  by_cases hm : (m.length : Int) ≤ c.stack
  · simp [hm, hi, putsV]
  · simp [hm]
theorem oneV_jump {c : CodeV} {q : InsV} {i : Nat} {st : Known} {l m : List Int} (h : stepV c q l = some m) (hq : q.op = 7) (h0 : 0 ≤ q.n) (h1 : q.n < (c.body.length : Int) - i - 1) : oneV c q i st l = fl c.body.length c.stack st (i + 1 + q.n.toNat) m := by
  have hw : waysV q i c.body.length = some [i + 1 + q.n.toNat] := by unfold waysV; rw [if_pos hq, if_pos ⟨h0, h1⟩]
  unfold oneV fl
  rw [h, hw]
  have : i + 1 + q.n.toNat < c.body.length := by omega
  by_cases hm : (m.length : Int) ≤ c.stack
  · simp [hm, this, putsV]
  · simp [hm]
theorem oneV_out {c : CodeV} {q : InsV} {i : Nat} {st : Known} {l : List Int} (hq : q.op = 7 ∨ q.op = 8) (h0 : ¬ (0 ≤ q.n ∧ q.n < (c.body.length : Int) - i - 1)) : oneV c q i st l = none := by
  have hw : waysV q i c.body.length = none := by
    unfold waysV
    rcases hq with hq | hq
    · rw [if_pos hq, if_neg h0]
    · rw [if_neg (by omega), if_pos hq, if_neg h0]
  unfold oneV
  rw [hw]
  cases stepV c q l with
  | none => rfl
  | some m => simp
theorem oneV_branch {c : CodeV} {q : InsV} {i : Nat} {st : Known} {l m : List Int} (h : stepV c q l = some m) (hq : q.op = 8) (h0 : 0 ≤ q.n) (h1 : q.n < (c.body.length : Int) - i - 1) :
    oneV c q i st l = (fl c.body.length c.stack st (i + 1) m).bind (fun st1 => fl c.body.length c.stack st1 (i + 1 + q.n.toNat) m) := by
  have hw : waysV q i c.body.length = some [i + 1, i + 1 + q.n.toNat] := by unfold waysV; rw [if_neg (by omega), if_pos hq, if_pos ⟨h0, h1⟩]
  unfold oneV fl
  rw [h, hw]
  have e1 : i + 1 < c.body.length := by omega
  have e2 : i + 1 + q.n.toNat < c.body.length := by omega
  by_cases hm : (m.length : Int) ≤ c.stack
  · simp [hm, e1, e2, putsV]
  · simp [hm]
theorem oneV_end {c : CodeV} {q : InsV} {i : Nat} {st : Known} {l m : List Int} (h : stepV c q l = some m) (hq : q.op = 9) (hm : (m.length : Int) ≤ c.stack) : oneV c q i st l = some st := by
  have hw : waysV q i c.body.length = some [] := by unfold waysV; rw [if_neg (by omega), if_neg (by omega), if_pos hq]
  unfold oneV
  rw [h, hw]
  simp [hm, putsV]

/-- The stacks that are known are no higher than the program says, and hold kinds. -/
def StOk (sc : Int) (st : Known) : Prop := ∀ j l, st j = some l → (l.length : Int) ≤ sc
theorem StOk.put {sc : Int} {st st' : Known} {to : Nat} {l : List Int} (h : StOk sc st) (hl : (l.length : Int) ≤ sc) (hp : putV st to l = some st') : StOk sc st' := by
  unfold putV at hp
  split at hp
  · obtain rfl := Option.some.inj hp
    intro j m hm
    dsimp only at hm
    split at hm
    · obtain rfl := Option.some.inj hm; exact hl
    · exact h j m hm
  · split at hp
    · obtain rfl := Option.some.inj hp; exact h
    · cases hp
theorem StOk.puts {sc : Int} {l : List Int} (hl : (l.length : Int) ≤ sc) : ∀ (ws : List Nat) {st st' : Known}, StOk sc st → putsV l ws st = some st' → StOk sc st'
  | [], _, _, h, hp => by simp only [putsV, Option.some.injEq] at hp; exact hp ▸ h
  | w :: ws, st, st', h, hp => by
    simp only [putsV] at hp
    cases h1 : putV st w l with
    | none => rw [h1] at hp; cases hp
    | some s1 => rw [h1] at hp; exact StOk.puts hl ws (h.put hl h1) hp
theorem StOk.one {c : CodeV} {q : InsV} {i : Nat} {st st' : Known} {l : List Int} (h : StOk c.stack st) (hp : oneV c q i st l = some st') : StOk c.stack st' := by
  unfold oneV at hp
  split at hp
  · cases hp
  · split at hp
    · rename_i hm
      cases hw : waysV q i c.body.length with
      | none => rw [hw] at hp; cases hp
      | some ws => rw [hw] at hp; exact StOk.puts hm ws h hp
    · cases hp
theorem StOk.start {sc : Int} (h : 0 ≤ sc) : StOk sc start := by
  intro j l hj
  unfold Go.Proofs.Ytipfcfaigbeakaa.start at hj
  split at hj
  · obtain rfl := Option.some.inj hj; simpa using h
  · cases hj
theorem popV_snoc (r : List Int) (x k : Int) : popV (r ++ [x]) k = if x = k then some r else none := by unfold popV; simp
theorem popV_nil (k : Int) : popV [] k = none := by unfold popV; simp
theorem stepV_2 (c : CodeV) (n k : Int) (l : List Int) : stepV c ⟨2, n, k⟩ l = if k = 0 then (kindAt c n).map (fun k => l ++ [k]) else none := by simp [stepV]
theorem stepV_3 (c : CodeV) (n k : Int) (l : List Int) : stepV c ⟨3, n, k⟩ l = if k = 0 ∧ c.ins ≤ n then (kindAt c n).bind (popV l) else none := by simp [stepV]
theorem kindAt_out {c : CodeV} {n : Int} (h : n < 0 ∨ (c.kinds.length : Int) ≤ n) : kindAt c n = none := by
  unfold kindAt
  split
  · rw [List.getElem?_eq_none (by omega)]
  · rfl
theorem kindAt_in {c : CodeV} {n k : Int} (h : 0 ≤ n) (hk : c.kinds[n.toNat]? = some k) : kindAt c n = some k := by
  unfold kindAt; rw [if_pos h]; exact hk
/-- What a program's parts must be. -/
structure Formed (c : CodeV) : Prop where
  ins : 0 ≤ c.ins
  outs : 0 ≤ c.outs
  cells : 0 ≤ c.cells
  stack : 0 ≤ c.stack
  sum : c.ins + c.outs + c.cells ≤ c.kinds.length
  kinds : ∀ (j : Nat) (k : Int), c.kinds[j]? = some k → width k ≠ 0
  init : (c.init.length : Int) = c.cells
  vals : ∀ (j : Nat) (k v : Int), c.kinds[c.ins.toNat + c.outs.toNat + j]? = some k → c.init[j]? = some v → isk k v = true
  last : c.body.getLast?.map (·.op) = some 9
  ops : ∀ (j : Nat) (q : InsV), c.body[j]? = some q → 1 ≤ q.op ∧ q.op ≤ 9
theorem formed_of {c : CodeV} (h : formedV c = true) : Formed c := by
  unfold formedV at h
  simp only [Bool.and_eq_true, decide_eq_true_eq, List.all_eq_true, bne_iff_ne, List.mem_range] at h
  obtain ⟨⟨⟨⟨⟨⟨⟨⟨⟨h1, h2⟩, h3⟩, h4⟩, h5⟩, h6⟩, h7⟩, h8⟩, h9⟩, h10⟩ := h
  refine ⟨h1, h2, h3, h4, h5, fun j k hj => h6 k (List.mem_of_getElem? hj), h7, fun j k v hk hv => ?_, h9, fun j q hj => h10 q (List.mem_of_getElem? hj)⟩
  have := h8 j (List.getElem?_eq_some_iff.1 hv).1
  simpa [List.getD, hk, hv] using this
theorem of_formed {c : CodeV} (h : Formed c) : formedV c = true := by
  unfold formedV
  simp only [Bool.and_eq_true, decide_eq_true_eq, List.all_eq_true, bne_iff_ne, List.mem_range]
  refine ⟨⟨⟨⟨⟨⟨⟨⟨⟨h.ins, h.outs⟩, h.cells⟩, h.stack⟩, h.sum⟩, fun k hk => ?_⟩, h.init⟩, fun j hj => ?_⟩, h.last⟩, fun q hq => ?_⟩
  · obtain ⟨j, hj⟩ := List.getElem?_of_mem hk
    exact h.kinds j k hj
  · have h1 := h.init
    have h2 := h.sum
    have h3 := h.ins
    have h4 := h.outs
    have e : c.ins.toNat + c.outs.toNat + j < c.kinds.length := by omega
    have := h.vals j _ _ (List.getElem?_eq_getElem e) (List.getElem?_eq_getElem hj)
    simpa [List.getD, List.getElem?_eq_getElem e, List.getElem?_eq_getElem hj] using this
  · obtain ⟨j, hj⟩ := List.getElem?_of_mem hq
    exact h.ops j q hj
theorem not_formed {c : CodeV} (h : ¬ Formed c) : formedV c = false := by
  cases hf : formedV c with
  | false => rfl
  | true => exact absurd (formed_of hf) h
end Go.Proofs.Ytipfcfaigbeakaa

namespace Go.Proofs.Ytipfcfaigbeakaa

/-- A number's lower seven bits at a time, the last byte below 128. -/
def digs (z : Nat) : List Int := if z < 128 then [(z : Int)] else ((z % 128 + 128 : Nat) : Int) :: digs (z / 128)
termination_by z
decreasing_by omega
/-- Signs at the low end. -/
def zig (n : Int) : Nat := if n < 0 then (-2 * n - 1).toNat else (2 * n).toNat
def numB (n : Int) : List Int := digs (zig n)
/-- The numbers of a program, in their order. -/
def codeNums (c : CodeV) : List Int := [(c.kinds.length : Int), c.ins, c.outs, c.cells, c.stack] ++ c.kinds ++ c.init ++ [(c.body.length : Int)] ++ c.body.flatMap fun q => [q.op, q.n, q.k]
def codeB (c : CodeV) : List Int := [77, 84, 82, 49] ++ (codeNums c).flatMap numB
theorem digs_small {z : Nat} (h : z < 128) : digs z = [(z : Int)] := by rw [digs, if_pos h]
theorem digs_big {z : Nat} (h : ¬ z < 128) : digs z = ((z % 128 + 128 : Nat) : Int) :: digs (z / 128) := by rw [digs, if_neg h]
theorem zig_lt {n : Int} (h : -9223372036854775808 ≤ n ∧ n < 9223372036854775808) : zig n < 18446744073709551616 := by unfold zig; split <;> omega
theorem digs_len : ∀ (k z : Nat), z < 128 ^ (k + 1) → (digs z).length ≤ k + 1
  | 0, z, h => by rw [digs_small (by omega)]; simp
  | k + 1, z, h => by
    by_cases hz : z < 128
    · rw [digs_small hz]; simp
    · rw [digs_big hz]
      have := digs_len k (z / 128) (by rw [Nat.pow_succ] at h; omega)
      simp; omega
theorem digs_len64 {z : Nat} (h : z < 18446744073709551616) : (digs z).length ≤ 10 := digs_len 9 z (by rw [show 128 ^ (9 + 1) = 1180591620717411303424 by decide]; omega)
theorem digs_pos (z : Nat) : 0 < (digs z).length := by rw [digs]; split <;> simp
theorem digs_byte : ∀ (z : Nat), ∀ x ∈ digs z, 0 ≤ x ∧ x < 256 := by
  intro z
  induction z using Nat.strongRecOn with
  | _ z ih =>
    intro x hx
    rw [digs] at hx
    split at hx
    · rw [List.mem_singleton.1 hx]; omega
    · rcases List.mem_cons.1 hx with rfl | hx
      · omega
      · exact ih (z / 128) (by omega) x hx
end Go.Proofs.Ytipfcfaigbeakaa

/-
  The plain reading of bytes as a program, and that a program's own bytes are read as it.
  No condition.
  Bits of numbers as sums: what a reader of bytes does.
  No condition.
  The plain reading of bytes, step by step, as the code does it.
  No condition.
  What the plain rules say of the programs that the laws build: a row of values on the stack, a row of jumps.
  No condition.
  What the plain rules say of the program that pushes one number, and of what is read of its bytes.
  No condition.
  What the plain rules say of a row of jumps.
  No condition.
-/
import Derived.Test.YtipfcfaigbeakaaJPlain
namespace Go.Proofs.Ytipfcfaigbeakaa

/-- A number's bits off the bytes: at most so many bytes; byte i brings seven bits. -/
def rdU : Nat → Nat → Nat → List Int → Option (Nat × List Int)
  | 0, _, _, _ => none
  | _ + 1, _, _, [] => none
  | f + 1, i, u, x :: r => if x < 128 then some ((u + (x % 128).toNat * 2 ^ (7 * i)) % 18446744073709551616, r) else rdU f (i + 1) ((u + (x % 128).toNat * 2 ^ (7 * i)) % 18446744073709551616) r
def unzig (u : Nat) : Int := if u % 2 = 0 then ((u / 2 : Nat) : Int) else -((u / 2 : Nat) : Int) - 1
def readV (b : List Int) : Option (Int × List Int) := (rdU 10 0 0 b).map fun p => (unzig p.1, p.2)
def readsV : Nat → List Int → Option (List Int × List Int)
  | 0, b => some ([], b)
  | n + 1, b => (readV b).bind fun p => (readsV n p.2).map fun q => (p.1 :: q.1, q.2)
def readQ : Nat → List Int → Option (List InsV × List Int)
  | 0, b => some ([], b)
  | n + 1, b => (readV b).bind fun o => (readV o.2).bind fun m => (readV m.2).bind fun k => (readQ n k.2).map fun q => (⟨o.1, m.1, k.1⟩ :: q.1, q.2)
/-- The program behind the head. -/
def takeV (b : List Int) : Option CodeV :=
  (readV b).bind fun k => (readV k.2).bind fun i => (readV i.2).bind fun o => (readV o.2).bind fun c => (readV c.2).bind fun s =>
  (readsV k.1.toNat s.2).bind fun ks => (readsV c.1.toNat ks.2).bind fun is => (readV is.2).bind fun n => (readQ n.1.toNat n.2).map fun q =>
  { kinds := ks.1, ins := i.1, outs := o.1, cells := c.1, init := is.1, stack := s.1, body := q.1 }
/-- What bytes are as a program; none: they are none. -/
def parseV (b : List Int) : Option CodeV :=
  if b.take 4 = [77, 84, 82, 49] then (takeV (b.drop 4)).bind fun c => if chk c = 0 ∧ codeB c = b then some c else none else none

theorem unzig_zig (n : Int) : unzig (zig n) = n := by unfold unzig zig; split <;> split <;> omega
theorem rdU_digs : ∀ (f i u z : Nat) (r : List Int), u < 2 ^ (7 * i) → u + z * 2 ^ (7 * i) < 18446744073709551616 → z < 128 ^ f → 0 < f → rdU f i u (digs z ++ r) = some (u + z * 2 ^ (7 * i), r)
  | 0, _, _, _, _, _, _, _, h => absurd h (by decide)
  | f + 1, i, u, z, r, hu, hz, hf, _ => by
    by_cases h : z < 128
    · rw [digs_small h]
      have e1 : ((z : Int) % 128).toNat = z := by omega
      simp only [List.cons_append, List.nil_append, rdU, e1]
      rw [if_pos (by omega), Nat.mod_eq_of_lt hz]
    · rw [digs_big h]
      have e1 : ((((z % 128 + 128 : Nat) : Int)) % 128).toNat = z % 128 := by omega
      simp only [List.cons_append, rdU, e1]
      rw [if_neg (by omega)]
      have hp : 2 ^ (7 * (i + 1)) = 128 * 2 ^ (7 * i) := by rw [show 7 * (i + 1) = 7 + 7 * i by omega, Nat.pow_add]
      have hsplit : z * 2 ^ (7 * i) = z % 128 * 2 ^ (7 * i) + z / 128 * (128 * 2 ^ (7 * i)) := by
        rw [← Nat.mul_assoc, ← Nat.add_mul]
        congr 1; omega
      have hle : z % 128 * 2 ^ (7 * i) ≤ 127 * 2 ^ (7 * i) := Nat.mul_le_mul_right _ (by omega)
      rw [Nat.mod_eq_of_lt (by omega)]
      have hfz : z / 128 < 128 ^ f := by rw [Nat.pow_succ] at hf; omega
      have hf0 : 0 < f := by
        rcases Nat.eq_zero_or_pos f with e | e
        · subst e; simp at hf; omega
        · exact e
      rw [rdU_digs f (i + 1) (u + z % 128 * 2 ^ (7 * i)) (z / 128) r (by rw [hp]; omega) (by rw [hp]; omega) hfz hf0, hp]
      congr 2; omega
theorem readV_numB {n : Int} (h : -9223372036854775808 ≤ n ∧ n < 9223372036854775808) (r : List Int) : readV (numB n ++ r) = some (n, r) := by
  unfold readV numB
  have hz := zig_lt h
  rw [rdU_digs 10 0 0 (zig n) r (by decide) (by simp; omega) (by rw [show 128 ^ 10 = 1180591620717411303424 by decide]; omega) (by decide)]
  simp [unzig_zig]
theorem readsV_own : ∀ (l : List Int) (r : List Int), (∀ n ∈ l, -9223372036854775808 ≤ n ∧ n < 9223372036854775808) → readsV l.length (l.flatMap numB ++ r) = some (l, r)
  | [], r, _ => rfl
  | n :: l, r, h => by
    rw [List.flatMap_cons, List.append_assoc, List.length_cons, readsV, readV_numB (h n (by simp)), Option.bind_some, readsV_own l r (fun m hm => h m (by simp [hm]))]; rfl
theorem readQ_own : ∀ (l : List InsV) (r : List Int), (∀ q ∈ l, ∀ n ∈ [q.op, q.n, q.k], -9223372036854775808 ≤ n ∧ n < 9223372036854775808) → readQ l.length ((l.flatMap fun q => [q.op, q.n, q.k]).flatMap numB ++ r) = some (l, r)
  | [], r, _ => rfl
  | q :: l, r, h => by
    have hq := h q (by simp)
    have e : ((q :: l).flatMap fun q => [q.op, q.n, q.k]).flatMap numB ++ r = numB q.op ++ (numB q.n ++ (numB q.k ++ ((l.flatMap fun q => [q.op, q.n, q.k]).flatMap numB ++ r))) := by
      rw [List.flatMap_cons, List.flatMap_append]
      simp [List.append_assoc]
    rw [e, List.length_cons, readQ, readV_numB (hq q.op (by simp)), Option.bind_some, readV_numB (hq q.n (by simp)), Option.bind_some, readV_numB (hq q.k (by simp)), Option.bind_some, readQ_own l r (fun m hm => h m (by simp [hm]))]; rfl
theorem takeV_own (c : CodeV) (hi : (c.init.length : Int) = c.cells) (hk : c.kinds.length < 9223372036854775808) (hb : c.body.length < 9223372036854775808)
    (h1 : -9223372036854775808 ≤ c.ins ∧ c.ins < 9223372036854775808) (h2 : -9223372036854775808 ≤ c.outs ∧ c.outs < 9223372036854775808) (h3 : -9223372036854775808 ≤ c.cells ∧ c.cells < 9223372036854775808) (h4 : -9223372036854775808 ≤ c.stack ∧ c.stack < 9223372036854775808)
    (h5 : ∀ n ∈ c.kinds, -9223372036854775808 ≤ n ∧ n < 9223372036854775808) (h6 : ∀ n ∈ c.init, -9223372036854775808 ≤ n ∧ n < 9223372036854775808) (h7 : ∀ q ∈ c.body, ∀ n ∈ [q.op, q.n, q.k], -9223372036854775808 ≤ n ∧ n < 9223372036854775808) :
    takeV ((codeNums c).flatMap numB) = some c := by
  have e : (codeNums c).flatMap numB = numB c.kinds.length ++ (numB c.ins ++ (numB c.outs ++ (numB c.cells ++ (numB c.stack ++ (c.kinds.flatMap numB ++ (c.init.flatMap numB ++ (numB c.body.length ++ ((c.body.flatMap fun q => [q.op, q.n, q.k]).flatMap numB ++ [])))))))) := by
    unfold codeNums
    simp only [List.flatMap_append, List.flatMap_cons, List.flatMap_nil, List.append_assoc, List.append_nil]
  have ek : ((c.kinds.length : Int)).toNat = c.kinds.length := by omega
  have ec : c.cells.toNat = c.init.length := by omega
  have eb : ((c.body.length : Int)).toNat = c.body.length := by omega
  unfold takeV
  rw [e, readV_numB (by omega), Option.bind_some, readV_numB h1, Option.bind_some, readV_numB h2, Option.bind_some, readV_numB h3, Option.bind_some, readV_numB h4, Option.bind_some, ek, readsV_own _ _ h5, Option.bind_some, ec, readsV_own _ _ h6, Option.bind_some, readV_numB (by omega), Option.bind_some, eb, readQ_own _ _ h7]
  rfl
end Go.Proofs.Ytipfcfaigbeakaa

namespace Go.Proofs.Ytipfcfaigbeakaa
open Go.RowKit
set_option maxRecDepth 100000

theorem u64w7 (n : Int) : IntKind.u64.wrap n = n % 18446744073709551616 := by simp [IntKind.wrap, IntKind.bits, IntKind.signed]
theorem bits_orU (x y : Int) : bits .or .u64 x y = IntKind.u64.wrap ((BitVec.ofInt 64 x ||| BitVec.ofInt 64 y).toNat : Int) := rfl
theorem and127_all : ∀ x : Fin 256, bits .and .u8 (x.val : Int) 127 = ((x.val % 128 : Nat) : Int) := by decide +kernel
theorem and127 {x : Int} (h : 0 ≤ x ∧ x < 256) : bits .and .u8 x 127 = x % 128 := by
  have := and127_all ⟨x.toNat, by omega⟩
  simp only at this
  rw [show ((x.toNat : Nat) : Int) = x by omega] at this
  rw [this]; omega
theorem ofInt_nat {k : Nat} (h : k < 18446744073709551616) : (BitVec.ofInt 64 (k : Int)).toNat = k := by
  rw [BitVec.toNat_ofInt]; omega
/-- A number below 2^p, and a multiple of 2^p: their or is their sum. -/
theorem or_sum {p u m : Nat} (hu : u < 2 ^ p) (hs : u + m * 2 ^ p < 18446744073709551616) : bits .or .u64 (u : Int) ((m * 2 ^ p : Nat) : Int) = ((u + m * 2 ^ p : Nat) : Int) := by
  have hu2 : u < 18446744073709551616 := by omega
  have hm2 : m * 2 ^ p < 18446744073709551616 := by omega
  rw [bits_orU, BitVec.toNat_or, ofInt_nat hu2, ofInt_nat hm2, u64w7]
  have : u ||| m * 2 ^ p = u + m * 2 ^ p := by
    rw [Nat.or_comm, Nat.mul_comm m, Nat.add_comm]
    exact (Nat.two_pow_add_eq_or_of_lt hu m).symm
  rw [this]; omega
theorem or_cut {p u m : Nat} (hp : p ≤ 63) (hu : u < 2 ^ p) : bits .or .u64 (u : Int) (((m * 2 ^ p) % 18446744073709551616 : Nat) : Int) = ((u + m * 2 ^ p) % 18446744073709551616 : Nat) := by
  have h64 : (18446744073709551616 : Nat) = 2 ^ (64 - p) * 2 ^ p := by rw [← Nat.pow_add, show 64 - p + p = 64 by omega]
  have e1 : (m * 2 ^ p) % 18446744073709551616 = (m % 2 ^ (64 - p)) * 2 ^ p := by rw [h64, Nat.mul_mod_mul_right]
  have hlt : m % 2 ^ (64 - p) < 2 ^ (64 - p) := Nat.mod_lt _ (Nat.two_pow_pos _)
  have hb : u + m % 2 ^ (64 - p) * 2 ^ p < 18446744073709551616 := by
    have h1 : (m % 2 ^ (64 - p) + 1) * 2 ^ p ≤ 2 ^ (64 - p) * 2 ^ p := Nat.mul_le_mul_right _ hlt
    rw [Nat.add_mul, Nat.one_mul, ← h64] at h1
    omega
  rw [e1, or_sum hu hb]
  congr 1
  rw [Nat.add_mod, e1, Nat.mod_eq_of_lt (a := u) (by omega), Nat.mod_eq_of_lt hb]
theorem bits_xorI (x y : Int) : bits .xor .i64 x y = IntKind.i64.wrap ((BitVec.ofInt 64 x ^^^ BitVec.ofInt 64 y).toNat : Int) := rfl
theorem xor_zero {x : Int} (h : 0 ≤ x ∧ x < 9223372036854775808) : bits .xor .i64 x 0 = x := by
  have e1 : BitVec.ofInt 64 0 = 0#64 := rfl
  rw [bits_xorI, e1, BitVec.xor_zero, BitVec.toNat_ofInt]
  simp [IntKind.wrap, IntKind.bits, IntKind.signed]
  omega
theorem xor_ones {x : Int} (h : 0 ≤ x ∧ x < 9223372036854775808) : bits .xor .i64 x (-1) = -x - 1 := by
  have e1 : BitVec.ofInt 64 (-1) = BitVec.allOnes 64 := by decide
  rw [bits_xorI, e1, BitVec.xor_allOnes, BitVec.toNat_not, BitVec.toNat_ofInt]
  simp [IntKind.wrap, IntKind.bits, IntKind.signed]
  omega
theorem bits_andU (x y : Int) : bits .and .u64 x y = IntKind.u64.wrap ((BitVec.ofInt 64 x &&& BitVec.ofInt 64 y).toNat : Int) := rfl
theorem and_one {u : Nat} (h : u < 18446744073709551616) : bits .and .u64 (u : Int) 1 = ((u % 2 : Nat) : Int) := by
  have e1 : (BitVec.ofInt 64 1).toNat = 1 := rfl
  rw [bits_andU, BitVec.toNat_and, ofInt_nat h, e1, Nat.and_one_is_mod, u64w7]; omega
end Go.Proofs.Ytipfcfaigbeakaa

namespace Go.Proofs.Ytipfcfaigbeakaa
open Go.RowKit
set_option maxRecDepth 100000

def rdN (l : List Int) : Int := match readV l with | some p => p.1 | none => 0
def rdL (l : List Int) : List Int := match readV l with | some p => p.2 | none => l
def rdB (l : List Int) : Bool := (readV l).isNone
theorem rd_bytes {f i u : Nat} : ∀ {l : List Int} {p : Nat × List Int}, rdU f i u l = some p → (∀ x ∈ l, 0 ≤ x ∧ x < 256) → ∀ x ∈ p.2, 0 ≤ x ∧ x < 256 := by
  induction f generalizing i u with
  | zero => intro l p h; simp [rdU] at h
  | succ f ih =>
    intro l p h hl
    cases l with
    | nil => simp [rdU] at h
    | cons x r =>
      simp only [rdU] at h
      split at h
      · obtain rfl := Option.some.inj h
        exact fun y hy => hl y (by simp [hy])
      · exact ih h (fun y hy => hl y (by simp [hy]))
theorem rdL_bytes {l : List Int} (hl : ∀ x ∈ l, 0 ≤ x ∧ x < 256) : ∀ x ∈ rdL l, 0 ≤ x ∧ x < 256 := by
  unfold rdL readV
  cases h : rdU 10 0 0 l with
  | none => exact hl
  | some p => exact rd_bytes h hl
theorem rdU_less {f i u : Nat} : ∀ {l : List Int} {p : Nat × List Int}, rdU f i u l = some p → p.2.length < l.length := by
  induction f generalizing i u with
  | zero => intro l p h; simp [rdU] at h
  | succ f ih =>
    intro l p h
    cases l with
    | nil => simp [rdU] at h
    | cons x r =>
      simp only [rdU] at h
      split at h
      · obtain rfl := Option.some.inj h; simp
      · have := ih h; simp; omega
theorem readV_less {l : List Int} {p : Int × List Int} (h : readV l = some p) : p.2.length < l.length := by
  unfold readV at h
  obtain ⟨q, hq, rfl⟩ := Option.map_eq_some_iff.1 h
  exact rdU_less hq
theorem rdU_64 {f i u : Nat} : ∀ {l : List Int} {p : Nat × List Int}, rdU f i u l = some p → p.1 < 18446744073709551616 := by
  induction f generalizing i u with
  | zero => intro l p h; simp [rdU] at h
  | succ f ih =>
    intro l p h
    cases l with
    | nil => simp [rdU] at h
    | cons x r =>
      simp only [rdU] at h
      split at h
      · obtain rfl := Option.some.inj h; exact Nat.mod_lt _ (by decide)
      · exact ih h
theorem readV_I64 {l : List Int} {p : Int × List Int} (h : readV l = some p) : I64 p.1 := by
  unfold readV at h
  obtain ⟨q, hq, rfl⟩ := Option.map_eq_some_iff.1 h
  have := rdU_64 hq
  unfold I64 unzig
  split <;> omega
theorem rdN_I64 (l : List Int) : I64 (rdN l) := by
  unfold rdN
  cases h : readV l with
  | none => unfold I64; decide
  | some p => exact readV_I64 h
theorem rdL_le (l : List Int) : (rdL l).length ≤ l.length := by
  unfold rdL
  cases h : readV l with
  | none => exact Nat.le_refl _
  | some p => exact Nat.le_of_lt (readV_less h)
theorem rdL_lt {l : List Int} (h : rdB l = false) : (rdL l).length < l.length := by
  unfold rdB at h; unfold rdL
  cases h2 : readV l with
  | none => rw [h2] at h; cases h
  | some p => exact readV_less h2
theorem readV_rd {l : List Int} (h : rdB l = false) : readV l = some (rdN l, rdL l) := by
  unfold rdB at h; unfold rdN rdL
  cases h2 : readV l with
  | none => rw [h2] at h; cases h
  | some p => rfl
theorem readV_bad {l : List Int} (h : rdB l = true) : readV l = none := by
  unfold rdB at h
  cases h2 : readV l with
  | none => rfl
  | some p => rw [h2] at h; cases h
/-- j numbers of n are read: done; the bytes l' are left. -/
def Lst (n : Nat) (l : List Int) (bad0 bad : Bool) (done l' : List Int) : Prop :=
  (bad = false → bad0 = false ∧ done.length ≤ n ∧ readsV n l = (readsV (n - done.length) l').map (fun q => (done ++ q.1, q.2)) ∧ l'.length + done.length ≤ l.length) ∧ (bad = true → bad0 = true ∨ readsV n l = none)
theorem Lst.start {n : Nat} {l : List Int} (bad0 : Bool) : Lst n l bad0 bad0 [] l := ⟨fun h => ⟨h, Nat.zero_le _, by simp, by simp⟩, fun h => .inl h⟩
theorem Lst.step {n : Nat} {l : List Int} {bad0 : Bool} {done l' : List Int} (h : Lst n l bad0 false done l') (hn : done.length < n) : Lst n l bad0 (rdB l') (done ++ [rdN l']) (rdL l') := by
  obtain ⟨h0, h1, h2, h3⟩ := h.1 rfl
  have e : n - done.length = (n - (done ++ [rdN l']).length) + 1 := by simp; omega
  refine ⟨fun hb => ⟨h0, by simp; omega, ?_, by have := rdL_lt hb; simp; omega⟩, fun hb => .inr ?_⟩
  · rw [h2, e, readsV, readV_rd hb, Option.bind_some]
    cases readsV (n - (done ++ [rdN l']).length) (rdL l') with
    | none => rfl
    | some q => simp
  · rw [h2, e, readsV, readV_bad hb]; rfl

theorem Lst.more {n : Nat} {l : List Int} {bad0 bad : Bool} {done l' : List Int} (h : Lst n l bad0 bad done l') : bad0 = true → bad = true := by
  intro h0
  cases bad with
  | true => rfl
  | false => have := (h.1 rfl).1; rw [h0] at this; cases this
/-- What is still to be told of takeV, where nothing was bad. -/
def Acc (l0 : List Int) (bad : Bool) (rest : Option CodeV) : Prop := (bad = false → takeV l0 = rest) ∧ (bad = true → takeV l0 = none)
theorem Acc.read {l0 l : List Int} {bad : Bool} {f : Int × List Int → Option CodeV} (h : Acc l0 bad ((readV l).bind f)) : Acc l0 (bad || rdB l) (f (rdN l, rdL l)) := by
  cases hb : rdB l with
  | false =>
    rw [readV_rd hb, Option.bind_some] at h
    rw [Bool.or_false]; exact h
  | true =>
    rw [readV_bad hb, Option.bind_none] at h
    refine ⟨fun e => by simp at e, fun _ => ?_⟩
    cases bad
    · exact h.1 rfl
    · exact h.2 rfl
theorem Acc.list {l0 l l' done : List Int} {n : Nat} {bad bad' : Bool} {f : List Int × List Int → Option CodeV} (h : Acc l0 bad ((readsV n l).bind f)) (hl : Lst n l bad bad' done l') (hn : bad' = false → n ≤ done.length) : Acc l0 bad' (f (done, l')) := by
  refine ⟨fun e => ?_, fun e => ?_⟩
  · obtain ⟨h0, h1, h2, _⟩ := hl.1 e
    rw [h.1 h0, h2, show n - done.length = 0 by have := hn e; omega]
    simp [readsV]
  · cases hb : bad with
    | true => exact h.2 hb
    | false =>
      rcases hl.2 e with h0 | h0
      · rw [hb] at h0; cases h0
      · rw [h.1 hb, h0]; rfl
/-- Of n instructions some are read: done; the bytes l' are left. -/
def LstQ (n : Nat) (l : List Int) (bad0 bad : Bool) (done : List InsV) (l' : List Int) : Prop :=
  (bad = false → bad0 = false ∧ done.length ≤ n ∧ readQ n l = (readQ (n - done.length) l').map (fun q => (done ++ q.1, q.2)) ∧ l'.length + done.length ≤ l.length) ∧ (bad = true → bad0 = true ∨ readQ n l = none)
theorem LstQ.start {n : Nat} {l : List Int} (bad0 : Bool) : LstQ n l bad0 bad0 [] l := ⟨fun h => ⟨h, Nat.zero_le _, by simp, by simp⟩, fun h => .inl h⟩
theorem LstQ.step {n : Nat} {l : List Int} {bad0 : Bool} {done : List InsV} {l1 : List Int} (h : LstQ n l bad0 false done l1) (hn : done.length < n) :
    LstQ n l bad0 (rdB l1 || rdB (rdL l1) || rdB (rdL (rdL l1))) (done ++ [⟨rdN l1, rdN (rdL l1), rdN (rdL (rdL l1))⟩]) (rdL (rdL (rdL l1))) := by
  obtain ⟨h0, h1, h2, h3⟩ := h.1 rfl
  have e : n - done.length = (n - (done ++ [(⟨rdN l1, rdN (rdL l1), rdN (rdL (rdL l1))⟩ : InsV)]).length) + 1 := by simp; omega
  refine ⟨fun hb => ?_, fun hb => .inr ?_⟩
  · simp only [Bool.or_eq_false_iff] at hb
    obtain ⟨⟨b1, b2⟩, b3⟩ := hb
    refine ⟨h0, by simp; omega, ?_, by have := rdL_lt b1; have := rdL_lt b2; have := rdL_lt b3; simp; omega⟩
    rw [h2, e, readQ, readV_rd b1, Option.bind_some, readV_rd b2, Option.bind_some, readV_rd b3, Option.bind_some]
    cases readQ (n - (done ++ [(⟨rdN l1, rdN (rdL l1), rdN (rdL (rdL l1))⟩ : InsV)]).length) (rdL (rdL (rdL l1))) with
    | none => rfl
    | some q => simp
  · rw [h2, e, readQ]
    cases b1 : rdB l1 with
    | true => rw [readV_bad b1]; rfl
    | false =>
      rw [readV_rd b1, Option.bind_some]
      cases b2 : rdB (rdL l1) with
      | true => rw [readV_bad b2]; rfl
      | false =>
        rw [readV_rd b2, Option.bind_some]
        cases b3 : rdB (rdL (rdL l1)) with
        | true => rw [readV_bad b3]; rfl
        | false => rw [b1, b2, b3] at hb; cases hb
abbrev codeOf (ks : List Int) (i o c s : Int) (is : List Int) (b : List InsV) : CodeV := { kinds := ks, ins := i, outs := o, cells := c, init := is, stack := s, body := b }
def rest8 (ks : List Int) (i o c s : Int) (is : List Int) (n : Int) (l : List Int) : Option CodeV := (readQ n.toNat l).map fun q => codeOf ks i o c s is q.1
def rest7 (ks : List Int) (i o c s : Int) (is : List Int) (l : List Int) : Option CodeV := (readV l).bind fun n => rest8 ks i o c s is n.1 n.2
def rest6 (ks : List Int) (i o c s : Int) (l : List Int) : Option CodeV := (readsV c.toNat l).bind fun is => rest7 ks i o c s is.1 is.2
def rest5 (k i o c s : Int) (l : List Int) : Option CodeV := (readsV k.toNat l).bind fun ks => rest6 ks.1 i o c s ks.2
def rest4 (k i o c : Int) (l : List Int) : Option CodeV := (readV l).bind fun s => rest5 k i o c s.1 s.2
def rest3 (k i o : Int) (l : List Int) : Option CodeV := (readV l).bind fun c => rest4 k i o c.1 c.2
def rest2 (k i : Int) (l : List Int) : Option CodeV := (readV l).bind fun o => rest3 k i o.1 o.2
def rest1 (k : Int) (l : List Int) : Option CodeV := (readV l).bind fun i => rest2 k i.1 i.2
theorem Acc.start (l : List Int) : Acc l false ((readV l).bind fun k => rest1 k.1 k.2) := ⟨fun _ => rfl, fun h => by cases h⟩
theorem Acc.body {l0 l l' : List Int} {ks : List Int} {i o c s : Int} {is : List Int} {n : Int} {bad bad' : Bool} {done : List InsV} (h : Acc l0 bad (rest8 ks i o c s is n l)) (hl : LstQ n.toNat l bad bad' done l') (hn : bad' = false → n ≤ done.length) : Acc l0 bad' (some (codeOf ks i o c s is done)) := by
  refine ⟨fun e => ?_, fun e => ?_⟩
  · obtain ⟨h0, h1, h2, _⟩ := hl.1 e
    rw [h.1 h0, rest8, h2, show n.toNat - done.length = 0 by have := hn e; omega]
    simp [readQ]
  · cases hb : bad with
    | true => exact h.2 hb
    | false =>
      rcases hl.2 e with h0 | h0
      · rw [hb] at h0; cases h0
      · rw [h.1 hb, rest8, h0]; rfl
end Go.Proofs.Ytipfcfaigbeakaa

namespace Go.Proofs.Ytipfcfaigbeakaa

/-- A straight row of instructions. -/
def lineV (c : CodeV) : List InsV → List Int → Option (List Int)
  | [], l => some l
  | q :: qs, l => (stepV c q l).bind fun m => if (m.length : Int) ≤ c.stack then lineV c qs m else none
theorem line_run (c : CodeV) : ∀ (qs : List InsV) (i : Nat) (st : Known) (l : List Int), st i = some l → (∀ j, i < j → st j = none) → (∀ q ∈ qs, q.op ≠ 7 ∧ q.op ≠ 8 ∧ q.op ≠ 9) → ∀ (e : InsV), e.op = 9 →
    (runV c (qs ++ [e]) i st).isNone = (lineV c (qs ++ [e]) l).isNone
  | [], i, st, l, h1, h2, h3, e, he => by
    have hw : waysV e i c.body.length = some [] := by unfold waysV; rw [if_neg (by omega), if_neg (by omega), if_pos he]
    simp only [List.nil_append, runV, lineV, advV, h1]
    cases hs : stepV c e l with
    | none => rfl
    | some m => by_cases hm : (m.length : Int) ≤ c.stack <;> simp [hm, hw, putsV]
  | q :: qs, i, st, l, h1, h2, h3, e, he => by
    have hq := h3 q (by simp)
    have hw : waysV q i c.body.length = some [i + 1] := by unfold waysV; rw [if_neg hq.1, if_neg hq.2.1, if_neg hq.2.2]
    simp only [List.cons_append, runV, lineV, advV, h1]
    cases hs : stepV c q l with
    | none => rfl
    | some m =>
      by_cases hm : (m.length : Int) ≤ c.stack
      · have hp : putV st (i + 1) m = some (fun j => if j = i + 1 then some m else st j) := by unfold putV; rw [h2 (i + 1) (by omega)]
        simp only [hm, if_true, hw, Option.bind_some, putsV, hp]
        exact line_run c qs (i + 1) _ m (by simp) (fun j hj => by rw [if_neg (by omega)]; exact h2 j (by omega)) (fun q' h' => h3 q' (by simp [h'])) e he
      · simp [hm]
theorem start0 : start 0 = some [] := rfl
theorem start_above : ∀ j, 0 < j → start j = none := fun j hj => by unfold start; rw [if_neg (by omega)]

/-- n values on the stack, and their sum. -/
def stackBody (n : Nat) : List InsV := (List.range n).map (fun i => ⟨1, ((i % 100 : Nat) : Int), 2⟩) ++ List.replicate (n - 1) ⟨5, 3, 2⟩ ++ [⟨3, 0, 0⟩, ⟨9, 0, 0⟩]
abbrev stackV (n : Nat) (s : Int) : CodeV := { kinds := [2], ins := 0, outs := 1, cells := 0, init := [], stack := s, body := stackBody n }
theorem isk_low {i : Nat} : isk 2 ((i % 100 : Nat) : Int) = true := by
  have : ∀ j : Fin 100, isk 2 ((j.val : Nat) : Int) = true := by decide +kernel
  exact this ⟨i % 100, Nat.mod_lt _ (by decide)⟩
theorem step_push (c : CodeV) (i : Nat) (l : List Int) : stepV c ⟨1, ((i % 100 : Nat) : Int), 2⟩ l = some (l ++ [2]) := by
  unfold stepV; rw [if_pos rfl, if_pos isk_low]
theorem pop_rep (k : Nat) : popV (List.replicate (k + 1) 2) 2 = some (List.replicate k 2) := by
  unfold popV
  rw [List.replicate_succ', List.getLast?_concat, if_pos rfl, List.dropLast_concat]
theorem bkind_add : bkind 3 2 = some 2 := by decide +kernel
theorem step_add (c : CodeV) (k : Nat) : stepV c ⟨5, 3, 2⟩ (List.replicate (k + 2) 2) = some (List.replicate (k + 1) 2) := by
  unfold stepV
  rw [if_neg (by decide), if_neg (by decide), if_neg (by decide), if_neg (by decide), if_pos rfl, pop_rep, Option.bind_some, pop_rep, Option.bind_some, bkind_add, Option.map_some, List.replicate_succ']
theorem line_push (c : CodeV) (qs : List InsV) : ∀ (k i : Nat), lineV c ((List.range' i k).map (fun i => ⟨1, ((i % 100 : Nat) : Int), 2⟩) ++ qs) (List.replicate i 2) = if ((i + k : Nat) : Int) ≤ c.stack ∨ k = 0 then lineV c qs (List.replicate (i + k) 2) else none
  | 0, i => by rw [if_pos (.inr rfl)]; rfl
  | k + 1, i => by
    rw [List.range'_succ, List.map_cons, List.cons_append, lineV, step_push, Option.bind_some, ← List.replicate_succ']
    rw [List.length_replicate, line_push c qs k (i + 1)]
    by_cases h : ((i + (k + 1) : Nat) : Int) ≤ c.stack
    · rw [if_pos (by omega), if_pos (by left; omega), if_pos (.inl h), show i + 1 + k = i + (k + 1) by omega]
    · rw [if_neg (c := ((i + (k + 1) : Nat) : Int) ≤ c.stack ∨ k + 1 = 0) (by omega)]
      by_cases h1 : ((i + 1 : Nat) : Int) ≤ c.stack
      · rw [if_pos h1, if_neg (by omega)]
      · rw [if_neg h1]
theorem line_add (c : CodeV) (qs : List InsV) : ∀ (k : Nat), ((k + 1 : Nat) : Int) ≤ c.stack → lineV c (List.replicate k ⟨5, 3, 2⟩ ++ qs) (List.replicate (k + 1) 2) = lineV c qs [2]
  | 0, _ => rfl
  | k + 1, h => by
    rw [List.replicate_succ, List.cons_append, lineV, step_add, Option.bind_some, List.length_replicate, if_pos (by omega)]
    exact line_add c qs k (by omega)
theorem stackBody_len {n : Nat} (h : 1 ≤ n) : (stackBody n).length = 2 * n + 1 := by unfold stackBody; simp; omega
theorem chk_stack {n : Nat} {s : Int} (h1 : 1 ≤ n) (h2 : n ≤ 70) (h3 : 0 ≤ s) : chk (stackV n s) = if 64 < s then 2 else if s < n then 50 else 0 := by
  unfold chk
  have hl := stackBody_len h1
  by_cases hs : 64 < s
  · rw [if_pos (.inr (.inr hs)), if_pos hs]
  · rw [if_neg (by simp only [hl]; simp; omega), if_neg hs]
    have hf : formedV (stackV n s) = true := by
      have hlast : (stackBody n).getLast?.map (·.op) = some 9 := by
        unfold stackBody
        rw [show ([⟨3, 0, 0⟩, ⟨9, 0, 0⟩] : List InsV) = [⟨3, 0, 0⟩] ++ [⟨9, 0, 0⟩] from rfl, ← List.append_assoc, List.getLast?_concat]; rfl
      have hall : (stackBody n).all (fun q => decide (1 ≤ q.op) && decide (q.op ≤ 9)) = true := by
        unfold stackBody
        rw [List.all_append, List.all_append, Bool.and_eq_true, Bool.and_eq_true]
        refine ⟨⟨List.all_eq_true.2 fun q hq => ?_, List.all_eq_true.2 fun q hq => ?_⟩, rfl⟩
        · obtain ⟨i, _, rfl⟩ := List.mem_map.1 hq; rfl
        · rw [(List.mem_replicate.1 hq).2]; rfl
      unfold formedV
      simp only [hlast, hall]
      have hw : width 2 ≠ 0 := by decide
      simp [h3, hw]
    rw [if_neg (by rw [hf]; decide)]
    have hrun : (runV (stackV n s) (stackBody n) 0 start).isNone = !decide ((n : Int) ≤ s) := by
      unfold stackBody
      have hsplit : (List.range n).map (fun i => (⟨1, ((i % 100 : Nat) : Int), 2⟩ : InsV)) ++ List.replicate (n - 1) ⟨5, 3, 2⟩ ++ [⟨3, 0, 0⟩, ⟨9, 0, 0⟩] = ((List.range n).map (fun i => (⟨1, ((i % 100 : Nat) : Int), 2⟩ : InsV)) ++ List.replicate (n - 1) ⟨5, 3, 2⟩ ++ [⟨3, 0, 0⟩]) ++ [⟨9, 0, 0⟩] := by simp
      rw [hsplit, line_run (stackV n s) _ 0 start [] start0 start_above (fun q hq => ?_) ⟨9, 0, 0⟩ rfl]
      · rw [← hsplit, List.append_assoc, List.range_eq_range']
        have := line_push (stackV n s) (List.replicate (n - 1) ⟨5, 3, 2⟩ ++ [⟨3, 0, 0⟩, ⟨9, 0, 0⟩]) n 0
        rw [List.replicate_zero, Nat.zero_add] at this
        rw [this]
        by_cases hn : (n : Int) ≤ s
        · rw [if_pos (.inl hn)]
          have h4 := line_add (stackV n s) [⟨3, 0, 0⟩, ⟨9, 0, 0⟩] (n - 1) (by show ((n - 1 + 1 : Nat) : Int) ≤ s; omega)
          rw [show n - 1 + 1 = n by omega] at h4
          rw [h4]
          have e1 : stepV (stackV n s) ⟨3, 0, 0⟩ [2] = some [] := rfl
          have e2 : stepV (stackV n s) ⟨9, 0, 0⟩ [] = some [] := rfl
          simp [lineV, e1, e2, h3, hn]
        · rw [if_neg (by show ¬ ((n : Int) ≤ s ∨ n = 0); omega)]
          simp [hn]
      · simp only [List.mem_append, List.mem_singleton] at hq
        rcases hq with (hq | hq) | rfl
        · obtain ⟨i, _, rfl⟩ := List.mem_map.1 hq; exact ⟨by simp, by simp, by simp⟩
        · rw [(List.mem_replicate.1 hq).2]; decide
        · decide
    show (if (runV (stackV n s) (stackBody n) 0 start).isNone = true then (50 : Int) else 0) = _
    rw [hrun]
    by_cases hn : (n : Int) ≤ s
    · rw [if_neg (c := s < (n : Int)) (by omega)]; simp [hn]
    · rw [if_pos (c := s < (n : Int)) (by omega)]; simp [hn]
end Go.Proofs.Ytipfcfaigbeakaa

namespace Go.Proofs.Ytipfcfaigbeakaa

abbrev numV (n : Int) : CodeV := { kinds := [5], ins := 0, outs := 1, cells := 0, init := [], stack := 1, body := [⟨1, n, 5⟩, ⟨3, 0, 0⟩, ⟨9, 0, 0⟩] }
theorem isk_five (n : Int) : isk 5 n = true := by
  have h1 : (0 : Int) < width 5 := by decide
  have h2 : wkr 5 n = n := by simp [wkr]
  unfold isk
  rw [h2, decide_eq_true h1]; simp
theorem numB_small {n : Int} (h : 0 ≤ n ∧ n < 64) : (numB n).length = 1 := by
  have e : zig n < 128 := by unfold zig; split <;> omega
  unfold numB
  rw [digs_small e]; rfl
theorem chk_num (n : Int) : chk (numV n) = 0 := by
  have hf : formedV (numV n) = true := rfl
  have hr : (runV (numV n) [⟨1, n, 5⟩, ⟨3, 0, 0⟩, ⟨9, 0, 0⟩] 0 start).isNone = false := by
    have := line_run (numV n) [⟨1, n, 5⟩, ⟨3, 0, 0⟩] 0 start [] start0 start_above (by simp) ⟨9, 0, 0⟩ rfl
    show (runV (numV n) ([⟨1, n, 5⟩, ⟨3, 0, 0⟩] ++ [⟨9, 0, 0⟩]) 0 start).isNone = false
    rw [this]
    have e1 : stepV (numV n) ⟨1, n, 5⟩ [] = some [5] := by unfold stepV; rw [if_pos rfl, if_pos (isk_five n)]; rfl
    have e2 : stepV (numV n) ⟨3, 0, 0⟩ [5] = some [] := rfl
    have e3 : stepV (numV n) ⟨9, 0, 0⟩ [] = some [] := rfl
    simp [lineV, e1, e2, e3]
  unfold chk
  rw [if_neg (by simp), if_neg (by rw [hf]; decide)]
  show (if (runV (numV n) [⟨1, n, 5⟩, ⟨3, 0, 0⟩, ⟨9, 0, 0⟩] 0 start).isNone = true then (50 : Int) else 0) = 0
  rw [hr]; rfl
theorem parse_num {n : Int} (h : I64 n) : parseV (codeB (numV n)) = some (numV n) := by
  unfold I64 at h
  have e : (codeB (numV n)).drop 4 = (codeNums (numV n)).flatMap numB := rfl
  have e4 : (codeB (numV n)).take 4 = [77, 84, 82, 49] := rfl
  unfold parseV
  rw [if_pos e4, e, takeV_own (numV n) rfl (by simp) (by simp) (by simp) (by simp) (by simp) (by simp) (by simp) (by simp) (by simp; omega), Option.bind_some, if_pos ⟨chk_num n, rfl⟩]
theorem len_num (n : Int) : (codeB (numV n)).length = 19 + (numB n).length := by
  have h : codeNums (numV n) = [1, 0, 1, 0, 1, 5, 3, 1, n, 5, 3, 0, 0, 9, 0, 0] := rfl
  have a0 : (numB 0).length = 1 := numB_small (by decide)
  have a1 : (numB 1).length = 1 := numB_small (by decide)
  have a3 : (numB 3).length = 1 := numB_small (by decide)
  have a5 : (numB 5).length = 1 := numB_small (by decide)
  have a9 : (numB 9).length = 1 := numB_small (by decide)
  unfold codeB
  rw [h]
  simp only [List.flatMap_cons, List.flatMap_nil, List.length_append, List.length_cons, List.length_nil, a0, a1, a3, a5, a9]
  omega
end Go.Proofs.Ytipfcfaigbeakaa

namespace Go.Proofs.Ytipfcfaigbeakaa

abbrev jmp0 : InsV := ⟨7, 0, 0⟩
theorem step_jmp (c : CodeV) (n : Int) (l : List Int) : stepV c ⟨7, n, 0⟩ l = some l := by
  unfold stepV; rw [if_neg (by simp), if_neg (by simp), if_neg (by simp), if_neg (by simp), if_neg (by simp), if_neg (by simp), if_pos rfl, if_pos rfl]
theorem ways_jmp {i n : Nat} (h : i + 1 < n) : waysV jmp0 i n = some [i + 1] := by
  unfold waysV; rw [if_pos rfl, if_pos ⟨by decide, by simp; omega⟩]; rfl
/-- Only one instruction ahead is known, with nothing on the stack. -/
def One (i : Nat) (st : Known) : Prop := st i = some [] ∧ ∀ j, i < j → st j = none
/-- What is known ahead has nothing on the stack. -/
def Nul (i : Nat) (st : Known) : Prop := ∀ j, i ≤ j → st j = none ∨ st j = some []
theorem One.nul {i : Nat} {st : Known} (h : One i st) : Nul i st := fun j hj => by
  rcases Nat.lt_or_eq_of_le hj with h1 | rfl
  · exact .inl (h.2 j h1)
  · exact .inr h.1
theorem put_none {st : Known} {w : Nat} (l : List Int) (h : st w = none) : putV st w l = some (fun j => if j = w then some l else st j) := by unfold putV; rw [h]
theorem Nul.put {i w : Nat} {st : Known} (h : Nul i st) (hw : i ≤ w) : ∃ st', putV st w [] = some st' ∧ Nul i st' := by
  rcases h w hw with e | e
  · refine ⟨_, put_none [] e, fun j hj => ?_⟩
    by_cases hjw : j = w
    · right; simp [hjw]
    · simp only [if_neg hjw]; exact h j hj
  · exact ⟨st, by unfold putV; rw [e]; rfl, h⟩
theorem Nul.le {i k : Nat} {st : Known} (h : Nul i st) (hk : i ≤ k) : Nul k st := fun j hj => h j (by omega)
theorem one_jumps {c : CodeV} (hs : 0 ≤ c.stack) : ∀ (k i : Nat) (st : Known), One i st → i + k < c.body.length → ∃ st', One (i + k) st' ∧ ∀ qs, runV c (List.replicate k jmp0 ++ qs) i st = runV c qs (i + k) st'
  | 0, i, st, h, _ => ⟨st, h, fun _ => rfl⟩
  | k + 1, i, st, h, hl => by
    have h1 : One (i + 1) (fun j => if j = i + 1 then some [] else st j) := ⟨by simp, fun j hj => by simp only; rw [if_neg (by omega)]; exact h.2 j (by omega)⟩
    obtain ⟨st', h2, h3⟩ := one_jumps hs k (i + 1) _ h1 (by omega)
    refine ⟨st', by rw [show i + (k + 1) = i + 1 + k by omega]; exact h2, fun qs => ?_⟩
    rw [List.replicate_succ, List.cons_append, runV, advV_one, h.1]
    simp only [oneV, step_jmp, ways_jmp (show i + 1 < c.body.length by omega), List.length_nil, Option.bind_some, putsV, put_none [] (h.2 (i + 1) (by omega))]
    rw [if_pos (by simpa using hs), Option.bind_some, h3, show i + 1 + k = i + (k + 1) by omega]
theorem nul_jumps {c : CodeV} (hs : 0 ≤ c.stack) : ∀ (k i : Nat) (st : Known), Nul i st → i + k < c.body.length → ∃ st', Nul (i + k) st' ∧ ∀ qs, runV c (List.replicate k jmp0 ++ qs) i st = runV c qs (i + k) st'
  | 0, i, st, h, _ => ⟨st, h, fun _ => rfl⟩
  | k + 1, i, st, h, hl => by
    have hadv : ∃ st1, advV c jmp0 i st = some st1 ∧ Nul (i + 1) st1 := by
      rw [advV_one]
      rcases h i (Nat.le_refl _) with e | e
      · rw [e]; exact ⟨st, rfl, h.le (by omega)⟩
      · obtain ⟨st1, e1, h1⟩ := (h.le (Nat.le_succ i)).put (w := i + 1) (Nat.le_refl _)
        refine ⟨st1, ?_, h1⟩
        rw [e]
        simp only [oneV, step_jmp, ways_jmp (show i + 1 < c.body.length by omega), List.length_nil, Option.bind_some, putsV, e1]
        rw [if_pos (by simpa using hs)]
    obtain ⟨st1, e1, h1⟩ := hadv
    obtain ⟨st', h2, h3⟩ := nul_jumps hs k (i + 1) _ h1 (by omega)
    refine ⟨st', by rw [show i + (k + 1) = i + 1 + k by omega]; exact h2, fun qs => ?_⟩
    rw [List.replicate_succ, List.cons_append, runV, e1, Option.bind_some, h3, show i + 1 + k = i + (k + 1) by omega]
theorem nul_end {c : CodeV} (hs : 0 ≤ c.stack) {i : Nat} {st : Known} (h : Nul i st) : (runV c [⟨9, 0, 0⟩] i st).isNone = false := by
  have e2 : stepV c ⟨9, 0, 0⟩ [] = some [] := rfl
  have hw : waysV ⟨9, 0, 0⟩ i c.body.length = some [] := by unfold waysV; rw [if_neg (by simp), if_neg (by simp), if_pos rfl]
  rw [runV, advV_one]
  rcases h i (Nat.le_refl _) with e | e
  · rw [e]; rfl
  · rw [e]
    simp only [oneV, e2, hw, List.length_nil, Option.bind_some, putsV]
    rw [if_pos (by simpa using hs)]; rfl
theorem one_start : One 0 start := ⟨start0, start_above⟩

/-- n jumps, one of them by more; the end. -/
def jumpBody (n at' : Nat) (b : Int) : List InsV := List.replicate at' jmp0 ++ (⟨7, b, 0⟩ :: (List.replicate (n - at' - 1) jmp0 ++ [⟨9, 0, 0⟩]))
def branchBody (n at' : Nat) (b : Int) : List InsV := List.replicate at' jmp0 ++ (⟨1, 1, 1⟩ :: ⟨8, b, 0⟩ :: (List.replicate (n - at' - 1) jmp0 ++ [⟨9, 0, 0⟩]))
abbrev jumpV (l : List InsV) : CodeV := { kinds := [], ins := 0, outs := 0, cells := 0, init := [], stack := 1, body := l }
theorem jump_all {k m : Nat} {qs : List InsV} (hq : qs.all (fun q => decide (1 ≤ q.op) && decide (q.op ≤ 9)) = true) : (List.replicate k jmp0 ++ (qs ++ (List.replicate m jmp0 ++ [(⟨9, 0, 0⟩ : InsV)]))).all (fun q => decide (1 ≤ q.op) && decide (q.op ≤ 9)) = true := by
  rw [List.all_append, List.all_append, List.all_append, hq]
  simp
theorem formed_jump {l : List InsV} (h : l.all (fun q => decide (1 ≤ q.op) && decide (q.op ≤ 9)) = true) (h9 : l.getLast?.map (·.op) = some 9) : formedV (jumpV l) = true := by
  unfold formedV
  simp only [h, h9]
  rfl
theorem last_nine (a b : List InsV) : (a ++ (b ++ [(⟨9, 0, 0⟩ : InsV)])).getLast?.map (·.op) = some 9 := by
  rw [← List.append_assoc, List.getLast?_concat]; rfl
theorem chk_jump {l : List InsV} (hl : l.length ≤ 60000) (hf : formedV (jumpV l) = true) {x : Bool} (h : (runV (jumpV l) l 0 start).isNone = x) : chk (jumpV l) = if x then 50 else 0 := by
  unfold chk
  rw [if_neg (by simp; omega), if_neg (by rw [hf]; decide)]
  rw [h]
theorem chk_jumpBody {n at' : Nat} (b : Int) (hn : n ≤ 100) (ha : at' + 1 < n) : chk (jumpV (jumpBody n at' b)) = if 0 ≤ b ∧ b ≤ (n : Int) - at' - 1 then 0 else 50 := by
  have hlen : (jumpBody n at' b).length = n + 1 := by unfold jumpBody; simp; omega
  have hf : formedV (jumpV (jumpBody n at' b)) = true := formed_jump (by unfold jumpBody; exact jump_all (qs := [⟨7, b, 0⟩]) (by rfl)) (by
    unfold jumpBody
    rw [show (⟨7, b, 0⟩ :: (List.replicate (n - at' - 1) jmp0 ++ [⟨9, 0, 0⟩]) : List InsV) = (⟨7, b, 0⟩ :: List.replicate (n - at' - 1) jmp0) ++ [⟨9, 0, 0⟩] from rfl]
    exact last_nine _ _)
  have hs : 0 ≤ (jumpV (jumpBody n at' b)).stack := Int.zero_le_ofNat 1
  obtain ⟨st1, h1, r1⟩ := one_jumps (c := jumpV (jumpBody n at' b)) hs at' 0 start one_start (by show 0 + at' < (jumpBody n at' b).length; omega)
  rw [Nat.zero_add] at h1 r1
  have hrun : (runV (jumpV (jumpBody n at' b)) (jumpBody n at' b) 0 start).isNone = !decide (0 ≤ b ∧ b ≤ (n : Int) - at' - 1) := by
    have := r1 (⟨7, b, 0⟩ :: (List.replicate (n - at' - 1) jmp0 ++ [⟨9, 0, 0⟩]))
    show (runV (jumpV (jumpBody n at' b)) (List.replicate at' jmp0 ++ (⟨7, b, 0⟩ :: (List.replicate (n - at' - 1) jmp0 ++ [⟨9, 0, 0⟩]))) 0 start).isNone = _
    rw [this, runV, advV_one, h1.1]
    simp only [oneV, step_jmp, List.length_nil]
    rw [if_pos (by decide)]
    by_cases hb : 0 ≤ b ∧ b ≤ (n : Int) - at' - 1
    · have hw : waysV ⟨7, b, 0⟩ at' (jumpBody n at' b).length = some [at' + 1 + b.toNat] := by unfold waysV; rw [if_pos rfl, if_pos ⟨hb.1, by rw [hlen]; simp; omega⟩]
      obtain ⟨st2, e2, h2⟩ := (h1.nul.le (Nat.le_succ at')).put (w := at' + 1 + b.toNat) (by omega)
      obtain ⟨st3, h3, r3⟩ := nul_jumps (c := jumpV (jumpBody n at' b)) hs (n - at' - 1) (at' + 1) st2 h2 (by show _ < (jumpBody n at' b).length; omega)
      simp only [hw, Option.bind_some, putsV, e2]
      rw [r3, nul_end hs h3]; simp [hb]
    · have hw : waysV ⟨7, b, 0⟩ at' (jumpBody n at' b).length = none := by unfold waysV; rw [if_pos rfl, if_neg (by rw [hlen]; simp; omega)]
      simp [hw, hb]
  rw [chk_jump (by omega) hf hrun]
  by_cases hb : 0 ≤ b ∧ b ≤ (n : Int) - at' - 1 <;> simp [hb]
theorem chk_branchBody {n at' : Nat} (b : Int) (hn : n ≤ 100) (ha : at' + 1 < n) : chk (jumpV (branchBody n at' b)) = if 0 ≤ b ∧ b ≤ (n : Int) - at' - 1 then 0 else 50 := by
  have hlen : (branchBody n at' b).length = n + 2 := by unfold branchBody; simp; omega
  have hf : formedV (jumpV (branchBody n at' b)) = true := formed_jump (by unfold branchBody; exact jump_all (qs := [⟨1, 1, 1⟩, ⟨8, b, 0⟩]) (by rfl)) (by
    unfold branchBody
    rw [show (⟨1, 1, 1⟩ :: ⟨8, b, 0⟩ :: (List.replicate (n - at' - 1) jmp0 ++ [⟨9, 0, 0⟩]) : List InsV) = (⟨1, 1, 1⟩ :: ⟨8, b, 0⟩ :: List.replicate (n - at' - 1) jmp0) ++ [⟨9, 0, 0⟩] from rfl]
    exact last_nine _ _)
  have hs : 0 ≤ (jumpV (branchBody n at' b)).stack := Int.zero_le_ofNat 1
  obtain ⟨st1, h1, r1⟩ := one_jumps (c := jumpV (branchBody n at' b)) hs at' 0 start one_start (by show 0 + at' < (branchBody n at' b).length; omega)
  rw [Nat.zero_add] at h1 r1
  have hrun : (runV (jumpV (branchBody n at' b)) (branchBody n at' b) 0 start).isNone = !decide (0 ≤ b ∧ b ≤ (n : Int) - at' - 1) := by
    have := r1 (⟨1, 1, 1⟩ :: ⟨8, b, 0⟩ :: (List.replicate (n - at' - 1) jmp0 ++ [⟨9, 0, 0⟩]))
    show (runV (jumpV (branchBody n at' b)) (List.replicate at' jmp0 ++ (⟨1, 1, 1⟩ :: ⟨8, b, 0⟩ :: (List.replicate (n - at' - 1) jmp0 ++ [⟨9, 0, 0⟩]))) 0 start).isNone = _
    have e1 : stepV (jumpV (branchBody n at' b)) ⟨1, 1, 1⟩ [] = some [1] := rfl
    have e2 : stepV (jumpV (branchBody n at' b)) ⟨8, b, 0⟩ [1] = some [] := rfl
    have w1 : waysV ⟨1, 1, 1⟩ at' (branchBody n at' b).length = some [at' + 1] := rfl
    rw [this, runV, advV_one, h1.1]
    simp only [oneV, e1, List.length_singleton, w1, Option.bind_some, putsV, put_none [1] (h1.2 (at' + 1) (by omega))]
    rw [if_pos (by decide), Option.bind_some, runV, advV_one]
    simp only [if_true, oneV, e2, List.length_nil]
    rw [if_pos (by decide)]
    by_cases hb : 0 ≤ b ∧ b ≤ (n : Int) - at' - 1
    · have hw : waysV ⟨8, b, 0⟩ (at' + 1) (branchBody n at' b).length = some [at' + 1 + 1, at' + 1 + 1 + b.toNat] := by unfold waysV; rw [if_neg (by simp), if_pos rfl, if_pos ⟨hb.1, by rw [hlen]; simp; omega⟩]
      have h0 : Nul (at' + 1 + 1) (fun j => if j = at' + 1 then some [1] else st1 j) := fun j hj => by
        left; simp only; rw [if_neg (by omega)]; exact h1.2 j (by omega)
      obtain ⟨st2, e3, h2⟩ := h0.put (w := at' + 1 + 1) (Nat.le_refl _)
      obtain ⟨st3, e4, h3⟩ := h2.put (w := at' + 1 + 1 + b.toNat) (by omega)
      obtain ⟨st4, h4, r4⟩ := nul_jumps (c := jumpV (branchBody n at' b)) hs (n - at' - 1) (at' + 1 + 1) st3 h3 (by show _ < (branchBody n at' b).length; omega)
      simp only [hw, Option.bind_some, putsV, e3, e4]
      rw [r4, nul_end hs h4]; simp [hb]
    · have hw : waysV ⟨8, b, 0⟩ (at' + 1) (branchBody n at' b).length = none := by unfold waysV; rw [if_neg (by simp), if_pos rfl, if_neg (by rw [hlen]; simp; omega)]
      simp [hw, hb]
  rw [chk_jump (by omega) hf hrun]
  by_cases hb : 0 ≤ b ∧ b ≤ (n : Int) - at' - 1 <;> simp [hb]
end Go.Proofs.Ytipfcfaigbeakaa

/-
  The walks of the program's code: a number's bytes.
  Conditions: what is written is no longer than a slice may be.
  The walks of the program's code: a program's bytes.
  Conditions: what is written is no longer than a slice may be.
  The walks of the program's code: a number's bytes behind a slice that is full.
  Conditions: what is written is no longer than a slice may be.
-/
import Derived.Test.YtipfcfaigbeakaaMCodeWalkH
import Derived.Test.YtipfcfaigbeakaaJPlain
import Derived.Test.YtipfcfaigbeakaaJKit
import Derived.Maps.Range
import Derived.Test.YtipfcfaigbeakaaMCodeWalkL
namespace Go.Proofs.Ytipfcfaigbeakaa
open Go.RowKit
set_option maxRecDepth 100000

theorem bits_xorU (x y : Int) : bits .xor .u64 x y = IntKind.u64.wrap ((BitVec.ofInt 64 x ^^^ BitVec.ofInt 64 y).toNat : Int) := rfl
theorem u64w (n : Int) : IntKind.u64.wrap n = n % 18446744073709551616 := by simp [IntKind.wrap, IntKind.bits, IntKind.signed]
theorem zig_pos {n : Int} (h : 0 ≤ n) (hn : n < 9223372036854775808) : bits .xor .u64 (n * 2) (n / 9223372036854775808) = (zig n : Int) := by
  have e0 : n / 9223372036854775808 = 0 := by omega
  have e1 : BitVec.ofInt 64 0 = 0#64 := rfl
  rw [bits_xorU, e0, e1, BitVec.xor_zero, BitVec.toNat_ofInt, u64w]
  unfold zig
  rw [if_neg (by omega)]
  omega
theorem zig_neg {n : Int} (h : n < 0) (hn : -9223372036854775808 ≤ n) : bits .xor .u64 (IntKind.u64.wrap (IntKind.u64.wrap n * 2)) (IntKind.u64.wrap (n / 9223372036854775808)) = (zig n : Int) := by
  have e0 : n / 9223372036854775808 = -1 := by omega
  have e2 : IntKind.u64.wrap (-1) = 18446744073709551615 := by rw [u64w]; decide
  have e1 : BitVec.ofInt 64 18446744073709551615 = BitVec.allOnes 64 := by decide
  rw [bits_xorU, e0, e2, e1, BitVec.xor_allOnes, BitVec.toNat_not, BitVec.toNat_ofInt, u64w, u64w, u64w]
  unfold zig
  rw [if_pos h]
  omega
theorem or128_all : ∀ x : Fin 256, bits .or .u8 (x.val : Int) 128 = ((x.val % 128 + 128 : Nat) : Int) := by decide +kernel
theorem or128 (z : Nat) : bits .or .u8 ((z : Int) % 256) 128 = ((z % 128 + 128 : Nat) : Int) := by
  have := or128_all ⟨z % 256, Nat.mod_lt _ (by decide)⟩
  simp only at this
  rw [show ((z : Int) % 256) = ((z % 256 : Nat) : Int) by omega, this]
  omega
theorem u8w (n : Int) : IntKind.u8.wrap n = n % 256 := by simp [IntKind.wrap, IntKind.bits, IntKind.signed]

/-- What an append chain onto v leaves: all but v's own block is as it was, and the new value lies there or in a new block. -/
def Grew (v : Value) (w : World) (v' : Value) (w' : World) : Prop := w.grownBy w' v.ownBlock ∧ (v'.ownBlock = v.ownBlock ∨ ∃ g, v'.ownBlock = some g ∧ w.heap.size ≤ g)
theorem Grew.refl (v : Value) (w : World) : Grew v w v w := ⟨World.grownBy.refl w _, .inl rfl⟩
theorem Grew.step {v b v2 : Value} {w wr w2 : World} {o : Obj} (h : Grew v w b wr) (hg : (wr.alloc o).grownBy w2 b.ownBlock) (ha : v2.ownBlock = b.ownBlock ∨ v2.ownBlock = some (wr.alloc o).heap.size) : Grew v w v2 w2 := by
  have h1 : wr.grownBy w2 b.ownBlock := (World.grownBy_alloc wr o _).trans hg
  have hs : wr.heap.size ≤ (wr.alloc o).heap.size := by simp
  refine ⟨h.1.andThen h1 (fun j hj => ?_), ?_⟩
  · rcases h.2 with e | ⟨g, e, hge⟩
    · right; rw [← e, hj]
    · left; rw [e] at hj; have := Option.some.inj hj; omega
  · rcases ha with ha | ha
    · rw [ha]; exact h.2
    · exact .inr ⟨_, ha, Nat.le_trans h.1.size hs⟩

set_option maxHeartbeats 1000000 in
theorem number_any (base : Nat) (v : Value) (m : Nat) (xs : List Value) (n : Int) (hn : I64 n) (w : World) (hown : w.ownsRow base 5 1 v m xs) (hb : base ≤ w.heap.size) (hm : m ≤ 4294967296) :
    Calls Try.prog 77 #[v, .int .i64 n] w fun e w' => ∃ v', e = .returned v' ∧ w'.ownsRow base 5 1 v' (m + (numB n).length) (xs ++ u8s (numB n)) ∧ Below base w w' ∧ Grew v w v' w' := by
  unfold I64 at hn
  have hz := zig_lt hn
  obtain ⟨u0, hu0⟩ : ∃ u0, u0 = (if n < 0 then bits .xor .u64 (IntKind.u64.wrap (IntKind.u64.wrap n * 2)) (IntKind.u64.wrap (n / 9223372036854775808)) else bits .xor .u64 (n * 2) (n / 9223372036854775808)) := ⟨_, rfl⟩
  have HL : Hid ((numB n).length ≤ 10) := Lib.hid (digs_len64 hz)
  clear hu0 u0
  by_cases h0 : n < 0
  case' pos => have HZ := Lib.hid (zig_neg h0 hn.1)
  case' neg => have HZ := Lib.hid (zig_pos (show 0 ≤ n by omega) hn.2)
  all_goals
    go_enter Try.func77, Try.ntmps77
    go_wp2
    rw [HZ.out]
    go_loopw [0, 5] (fun b u wr => ∃ (z mk : Nat) (done : List Int), u = .int .u64 z ∧ z < 18446744073709551616 ∧ wr.ownsRow base 5 1 b mk (xs ++ u8s done) ∧ Hid (mk = m + done.length) ∧ Hid (numB n = done ++ digs z) ∧ Below base w wr ∧ Grew v w b wr) (fun _ u _ => (intOf u).toNat)
    case atStart => exact ⟨zig n, m, [], rfl, hz, by simpa using hown, Lib.hid rfl, Lib.hid rfl, Below.refl _ _, Grew.refl _ _⟩
    case round =>
      obtain ⟨z, mk, done, rfl, hz1, hown1, HM, HN, hbw, hgr⟩ := hrel
      have hmk : mk ≤ 4294967306 := by have h1 := HM.out; have h2 := HL.out; have h3 := congrArg List.length HN.out; rw [List.length_append] at h3; omega
      have hsz := hbw.size
      have hbs : base ≤ _ := Nat.le_trans hb hbw.size
      by_cases hlt : z < 128
      · have HB : Hid (xs ++ u8s done ++ [.int .u8 (z : Int)] = xs ++ u8s (numB n)) := Lib.hid (by rw [HN.out, digs_small hlt]; simp)
        have HLn : Hid (mk + 1 = m + (numB n).length) := Lib.hid (by rw [HM.out, HN.out, digs_small hlt]; simp; omega)
        have hi : (z : Int) < 128 := by omega
        have hb8 : IntKind.u8.wrap (z : Int) = z := by rw [u8w]; omega
        go_wp2_with (at_builtin; refine wpList_append_slc _ rfl _ _ 38 rfl base 5 (.int .u8 0) 1 1 Try.underlying38 infoByte rfl (by decide) _ mk _ rfl (hown1.alloc _) _ 1 [.int .u8 (z : Int)] rfl (SlC.fresh _ #[.int .u8 (z : Int)] _ 1 _ rfl (by decide)) rfl (by simp [Value.oneCell']) (by unfold maxLen; omega) (by omega) (Nat.le_trans hbs (by simp)) ?_; intro v2 w2 hown2 hg2 hat2; have hgr2 := hgr.step hg2 hat2; have hbw2 := below_grown (Below.alloc (Below.refl base _) hbs _) (Nat.le_refl base) (Nat.le_trans hbs (by simp)) (hown1.alloc _) hg2)
        go_ret
        refine ⟨v2, rfl, ?_, Below.trans hbw hbw2, hgr2⟩
        rw [← HB.out, ← HLn.out]
        exact hown2
      · have hi : ¬ ((z : Int) < 128) := by omega
        have HN' : Hid (numB n = (done ++ [((z % 128 + 128 : Nat) : Int)]) ++ digs (z / 128)) := Lib.hid (by rw [HN.out, digs_big hlt]; simp)
        go_wp2_with (at_builtin; go_must (rw [or128 z]; refine wpList_append_slc _ rfl _ _ 38 rfl base 5 (.int .u8 0) 1 1 Try.underlying38 infoByte rfl (by decide) _ mk _ rfl (hown1.alloc _) _ 1 [.int .u8 ((z % 128 + 128 : Nat) : Int)] rfl (SlC.fresh _ #[.int .u8 ((z % 128 + 128 : Nat) : Int)] _ 1 _ rfl (by decide)) rfl (by simp [Value.oneCell']) (by unfold maxLen; omega) (by omega) (Nat.le_trans hbs (by simp)) ?_; intro v2 w2 hown2 hg2 hat2; have hgr2 := hgr.step hg2 hat2; have hbw2 := below_grown (Below.alloc (Below.refl base _) hbs _) (Nat.le_refl base) (Nat.le_trans hbs (by simp)) (hown1.alloc _) hg2))
        go_roundw
        case rel => exact ⟨z / 128, mk + 1, done ++ [((z % 128 + 128 : Nat) : Int)], by simp, by omega, by simpa using hown2, Lib.hid (by rw [HM.out]; simp; omega), HN', Below.trans hbw hbw2, hgr2⟩
        case measure => simp [intOf]; omega
end Go.Proofs.Ytipfcfaigbeakaa

namespace Go.Proofs.Ytipfcfaigbeakaa
open Go.RowKit
set_option maxRecDepth 100000

theorem own_fresh (w : World) (arr : Array Value) (e : TypeId) (base n nb : Nat) (hn : nb = w.heap.size) (hb : base ≤ nb) (hs : arr.size = n) (hm : n ≤ maxLen) : (w.alloc (.cells arr e)).ownsRow base e 1 (.slice (some ⟨nb, 0, none⟩) n n) n arr.toList := by
  refine ⟨by simp [hs], .inr ⟨nb, n, arr, rfl, hb, heap_alloc_at _ _ _ hn, Nat.le_refl _, hm, by simp [hs], ?_⟩⟩
  rw [List.take_of_length_le (by simp [hs])]
/-- A program's numbers are numbers of 64 bits. -/
structure CodeWf (c : CodeV) : Prop where
  ins : I64 c.ins
  outs : I64 c.outs
  cells : I64 c.cells
  stack : I64 c.stack
  kinds : ∀ k ∈ c.kinds, I64 k
  init : ∀ k ∈ c.init, I64 k
  body : ∀ q ∈ c.body, I64 q.op ∧ I64 q.n ∧ I64 q.k
theorem numB_len {n : Int} (h : I64 n) : (numB n).length ≤ 10 := digs_len64 (zig_lt h)
/-- The bytes of a row of numbers. -/
def numsB (l : List Int) : List Int := l.flatMap numB
theorem numsB_snoc (l : List Int) (n : Int) : numsB (l ++ [n]) = numsB l ++ numB n := by simp [numsB]
theorem numsB_len : ∀ (l : List Int), (∀ n ∈ l, I64 n) → (numsB l).length ≤ 10 * l.length
  | [], _ => by simp [numsB]
  | n :: l, h => by
    have h1 := numB_len (h n (by simp))
    have h2 := numsB_len l (fun m hm => h m (by simp [hm]))
    simp only [numsB, List.flatMap_cons, List.length_append, List.length_cons] at h2 ⊢
    omega
/-- What is written so far: the head and the numbers l. -/
def Wrt (base : Nat) (W0 : World) (v : Value) (l : List Int) (w : World) : Prop := w.ownsRow base 5 1 v (4 + (numsB l).length) (u8s ([77, 84, 82, 49] ++ numsB l)) ∧ Below base W0 w ∧ base ≤ w.heap.size
theorem Wrt.number {base : Nat} {W0 : World} {v : Value} {l : List Int} {w : World} (h : Wrt base W0 v l w) (hl : (numsB l).length ≤ 4000000000) {n : Int} (hn : I64 n) :
    Calls Try.prog 77 #[v, .int .i64 n] w fun e w' => ∃ v', e = .returned v' ∧ Wrt base W0 v' (l ++ [n]) w' ∧ Grew v w v' w' := by
  refine (number_any base v _ _ n hn w h.1 h.2.2 (by omega)).mono ?_
  rintro e w' ⟨v', rfl, h1, h2, h3⟩
  refine ⟨v', rfl, ⟨?_, Below.trans h.2.1 h2, Nat.le_trans h.2.2 h2.size⟩, h3⟩
  have e1 : 4 + (numsB (l ++ [n])).length = 4 + (numsB l).length + (numB n).length := by rw [numsB_snoc]; simp; omega
  have e2 : u8s ([77, 84, 82, 49] ++ numsB (l ++ [n])) = u8s ([77, 84, 82, 49] ++ numsB l) ++ u8s (numB n) := by rw [numsB_snoc]; simp
  rw [e1, e2]; exact h1
theorem Wrt.step {base : Nat} {W0 : World} {v : Value} {l : List Int} {w w' : World} (h : Wrt base W0 v l w) (hx : Ext w w') : Wrt base W0 v l w' := ⟨ownsRow_ext h.1 hx, Below.trans h.2.1 (hx.below h.2.2), Nat.le_trans h.2.2 hx.size⟩

end Go.Proofs.Ytipfcfaigbeakaa

namespace Go.Proofs.Ytipfcfaigbeakaa
open Go.RowKit
set_option maxRecDepth 100000

set_option maxHeartbeats 1000000 in
theorem number_full (base nb : Nat) (m : Nat) (xs : List Value) (n : Int) (hn : I64 n) (w : World) (hxl : xs.length = m) (hxs : ∀ (j : Nat) (u : Value), xs[j]? = some u → w.cell? ⟨nb, j, none⟩ = some u) (hb : base ≤ w.heap.size) (hm : m ≤ 4294967296) :
    Calls Try.prog 77 #[.slice (some ⟨nb, 0, none⟩) m m, .int .i64 n] w fun e w' => ∃ v', e = .returned v' ∧ w'.ownsRow base 5 1 v' (m + (numB n).length) (xs ++ u8s (numB n)) ∧ Below base w w' := by
  unfold I64 at hn
  have hz := zig_lt hn
  obtain ⟨u0, hu0⟩ : ∃ u0, u0 = (if n < 0 then bits .xor .u64 (IntKind.u64.wrap (IntKind.u64.wrap n * 2)) (IntKind.u64.wrap (n / 9223372036854775808)) else bits .xor .u64 (n * 2) (n / 9223372036854775808)) := ⟨_, rfl⟩
  have HXL := Lib.hid hxl
  have HXS := Lib.hid hxs
  clear hxl hxs
  have HL : Hid ((numB n).length ≤ 10) := Lib.hid (digs_len64 hz)
  clear hu0 u0
  by_cases h0 : n < 0
  case' pos => have HZ := Lib.hid (zig_neg h0 hn.1)
  case' neg => have HZ := Lib.hid (zig_pos (show 0 ≤ n by omega) hn.2)
  all_goals
    go_enter Try.func77, Try.ntmps77
    go_wp2
    rw [HZ.out]
    go_loopw [0, 5] (fun b u wr => ∃ (z mk : Nat) (done : List Int), u = .int .u64 z ∧ z < 18446744073709551616 ∧ (wr.ownsRow base 5 1 b mk (xs ++ u8s done) ∨ (b = .slice (some ⟨nb, 0, none⟩) m m ∧ done = [] ∧ wr = w)) ∧ Hid (mk = m + done.length) ∧ Hid (numB n = done ++ digs z) ∧ Below base w wr) (fun _ u _ => (intOf u).toNat)
    case atStart => exact ⟨zig n, m, [], rfl, hz, .inr ⟨rfl, rfl, rfl⟩, Lib.hid rfl, Lib.hid rfl, Below.refl _ _⟩
    case round =>
      obtain ⟨z, mk, done, rfl, hz1, hown1, HM, HN, hbw⟩ := hrel
      have hmk : mk ≤ 4294967306 := by have h1 := HM.out; have h2 := HL.out; have h3 := congrArg List.length HN.out; rw [List.length_append] at h3; omega
      have hsz := hbw.size
      have hbs : base ≤ _ := Nat.le_trans hb hbw.size
      rcases hown1 with hown1 | ⟨rfl, rfl, rfl⟩
      · skip
        by_cases hlt : z < 128
        · have HB : Hid (xs ++ u8s done ++ [.int .u8 (z : Int)] = xs ++ u8s (numB n)) := Lib.hid (by rw [HN.out, digs_small hlt]; simp)
          have HLn : Hid (mk + 1 = m + (numB n).length) := Lib.hid (by rw [HM.out, HN.out, digs_small hlt]; simp; omega)
          have hi : (z : Int) < 128 := by omega
          have hb8 : IntKind.u8.wrap (z : Int) = z := by rw [u8w]; omega
          go_wp2_with (at_builtin; refine wpList_append_lit rfl _ _ 38 5 rfl (.int .u8 0) 1 1 Try.underlying38 infoByte rfl (by decide) base _ mk _ rfl hown1 1 1 _ #[.int .u8 (z : Int)] rfl rfl rfl (by simp [Value.oneCell']) (by unfold maxLen; omega) (by omega) hbs ?_; intro v2 w2 hown2 hg2 hbw2)
          go_ret
          refine ⟨v2, rfl, ?_, Below.trans hbw hbw2⟩
          rw [← HB.out, ← HLn.out]
          exact hown2
        · have hi : ¬ ((z : Int) < 128) := by omega
          have HN' : Hid (numB n = (done ++ [((z % 128 + 128 : Nat) : Int)]) ++ digs (z / 128)) := Lib.hid (by rw [HN.out, digs_big hlt]; simp)
          go_wp2_with (at_builtin; go_must (rw [or128 z]; refine wpList_append_lit rfl _ _ 38 5 rfl (.int .u8 0) 1 1 Try.underlying38 infoByte rfl (by decide) base _ mk _ rfl hown1 1 1 _ #[.int .u8 ((z % 128 + 128 : Nat) : Int)] rfl rfl rfl (by simp [Value.oneCell']) (by unfold maxLen; omega) (by omega) hbs ?_; intro v2 w2 hown2 hg2 hbw2))
          go_roundw
          case rel => exact ⟨z / 128, mk + 1, done ++ [((z % 128 + 128 : Nat) : Int)], by simp, by omega, by left; simpa using hown2, Lib.hid (by rw [HM.out]; simp; omega), HN', Below.trans hbw hbw2⟩
          case measure => simp [intOf]; omega
      · have hmm : mk = m := by simpa using HM.out
        subst hmm
        by_cases hlt : z < 128
        · have HB : Hid (xs ++ u8s [] ++ [.int .u8 (z : Int)] = xs ++ u8s (numB n)) := Lib.hid (by rw [HN.out, digs_small hlt]; simp)
          have HLn : Hid (mk + 1 = mk + (numB n).length) := Lib.hid (by rw [HN.out, digs_small hlt]; simp)
          have hi : (z : Int) < 128 := by omega
          have hb8 : IntKind.u8.wrap (z : Int) = z := by rw [u8w]; omega
          go_wp2_with (at_builtin; refine wpList_grow_lit rfl _ _ 38 5 rfl (.int .u8 0) 1 1 Try.underlying38 infoByte rfl (by decide) (some ⟨nb, 0, none⟩) mk xs rfl (fun h => by cases h) (by simpa using HXL.out) (fun b hb j u hu => by cases hb; exact add_cell (o := 0) (by rw [Nat.zero_add]; exact HXS.out j u hu)) 1 1 _ #[.int .u8 (z : Int)] rfl rfl rfl (by simp [Value.oneCell']) (by omega) (by unfold maxLen; omega) (by omega) ?_; intro v2 w2 hown2' hbw2'; have hown2 := ownsRow_base hown2' hb; have hbw2 := hbw2'.below hb)
          go_ret
          refine ⟨v2, rfl, ?_, Below.trans hbw hbw2⟩
          rw [← HB.out, ← HLn.out]
          simpa using hown2
        · have hi : ¬ ((z : Int) < 128) := by omega
          have HN' : Hid (numB n = ([] ++ [((z % 128 + 128 : Nat) : Int)]) ++ digs (z / 128)) := Lib.hid (by rw [HN.out, digs_big hlt]; simp)
          go_wp2_with (at_builtin; go_must (rw [or128 z]; refine wpList_grow_lit rfl _ _ 38 5 rfl (.int .u8 0) 1 1 Try.underlying38 infoByte rfl (by decide) (some ⟨nb, 0, none⟩) mk xs rfl (fun h => by cases h) (by simpa using HXL.out) (fun b hb j u hu => by cases hb; exact add_cell (o := 0) (by rw [Nat.zero_add]; exact HXS.out j u hu)) 1 1 _ #[.int .u8 ((z % 128 + 128 : Nat) : Int)] rfl rfl rfl (by simp [Value.oneCell']) (by omega) (by unfold maxLen; omega) (by omega) ?_; intro v2 w2 hown2' hbw2'; have hown2 := ownsRow_base hown2' hb; have hbw2 := hbw2'.below hb))
          go_roundw
          case rel => exact ⟨z / 128, mk + 1, [] ++ [((z % 128 + 128 : Nat) : Int)], by simp, by omega, by left; simpa using hown2, Lib.hid (by simp), HN', Below.trans hbw hbw2⟩
          case measure => simp [intOf]; omega
end Go.Proofs.Ytipfcfaigbeakaa

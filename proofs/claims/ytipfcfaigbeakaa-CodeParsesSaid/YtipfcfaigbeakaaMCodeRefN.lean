/-
  The walks of the document's own writer: a number's bytes.
  No condition.
-/
import Derived.Test.YtipfcfaigbeakaaJNumber
namespace Go.Proofs.Ytipfcfaigbeakaa
open Go.RowKit
set_option maxRecDepth 100000

theorem shl_pos {n : Int} (h : 0 ≤ n) (hn : n < 9223372036854775808) : n * 2 = (zig n : Int) := by
  unfold zig
  rw [if_neg (by omega)]
  omega
theorem shl_neg {n : Int} (h : n < 0) (hn : -9223372036854775808 ≤ n) : bits .xor .u64 IntKind.u64.max (IntKind.u64.wrap (IntKind.u64.wrap n * 2)) = (zig n : Int) := by
  have e1 : BitVec.ofInt 64 IntKind.u64.max = BitVec.allOnes 64 := by decide
  rw [bits_xorU, e1, BitVec.allOnes_xor, BitVec.toNat_not, BitVec.toNat_ofInt, u64w, u64w, u64w]
  unfold zig
  rw [if_pos h]
  omega
theorem add128 (z : Nat) : (z : Int) % 128 + 128 = ((z % 128 + 128 : Nat) : Int) := by omega
set_option maxHeartbeats 1000000 in
theorem refNumber_any (n : Int) (hn : I64 n) (w : World) :
    Calls Try.prog 49 #[.int .i64 n] w fun e w' => ∃ v', e = .returned v' ∧ w'.ownsRow w.heap.size 5 1 v' (numB n).length (u8s (numB n)) ∧ Ext w w' := by
  unfold I64 at hn
  have hz := zig_lt hn
  have HL : Hid ((numB n).length ≤ 10) := Lib.hid (digs_len64 hz)
  by_cases h0 : n < 0
  case' pos => have HZ := Lib.hid (shl_neg h0 hn.1)
  case' neg => have HZ := Lib.hid (shl_pos (show 0 ≤ n by omega) hn.2)
  all_goals
    go_enter Try.func49, Try.ntmps49
    go_wp2
    rw [HZ.out]
    go_loopw [3, 4] (fun u b wr => ∃ (z mk : Nat) (done : List Int), u = .int .u64 z ∧ z < 18446744073709551616 ∧ wr.ownsRow w.heap.size 5 1 b mk (u8s done) ∧ Hid (mk = done.length) ∧ Hid (numB n = done ++ digs z) ∧ Ext w wr) (fun u _ _ => (intOf u).toNat)
    case atStart => exact ⟨zig n, 0, [], rfl, hz, own_nil _ _ _ _, Lib.hid rfl, Lib.hid rfl, Ext.refl _⟩
    case round =>
      obtain ⟨z, mk, done, rfl, hz1, hown1, HM, HN, hbw⟩ := hrel
      have hmk : mk ≤ 10 := by have h1 := HM.out; have h2 := HL.out; have h3 := congrArg List.length HN.out; rw [List.length_append] at h3; omega
      have hsz := hbw.size
      by_cases hlt : z < 128
      · have HB : Hid (u8s done ++ [.int .u8 (z : Int)] = u8s (numB n)) := Lib.hid (by rw [HN.out, digs_small hlt]; simp)
        have HLn : Hid (mk + 1 = (numB n).length) := Lib.hid (by rw [HM.out, HN.out, digs_small hlt]; simp)
        have hi : ¬ (128 ≤ (z : Int)) := by omega
        have hb8 : IntKind.u8.wrap (z : Int) = z := by rw [u8w]; omega
        go_wp2_with (at_builtin; refine wpList_append_lit rfl _ _ 38 5 rfl (.int .u8 0) 1 1 Try.underlying38 infoByte rfl (by decide) w.heap.size _ mk _ rfl hown1 1 1 _ #[.int .u8 (z : Int)] rfl rfl rfl (by simp [Value.oneCell']) (by unfold maxLen; omega) (by omega) hsz ?_; intro v2 w2 hown2 hg2 hbw2)
        go_ret
        refine ⟨v2, rfl, ?_, Below.trans hbw hbw2⟩
        rw [← HB.out, ← HLn.out]
        exact hown2
      · have hi : 128 ≤ (z : Int) := by omega
        have HN' : Hid (numB n = (done ++ [((z % 128 + 128 : Nat) : Int)]) ++ digs (z / 128)) := Lib.hid (by rw [HN.out, digs_big hlt]; simp)
        go_wp2_with (at_builtin; go_must (rw [add128 z]; refine wpList_append_lit rfl _ _ 38 5 rfl (.int .u8 0) 1 1 Try.underlying38 infoByte rfl (by decide) w.heap.size _ mk _ rfl hown1 1 1 _ #[.int .u8 ((z % 128 + 128 : Nat) : Int)] rfl rfl rfl (by simp [Value.oneCell']) (by unfold maxLen; omega) (by omega) hsz ?_; intro v2 w2 hown2 hg2 hbw2))
        go_roundw
        case rel => exact ⟨z / 128, mk + 1, done ++ [((z % 128 + 128 : Nat) : Int)], by simp, by omega, by simpa using hown2, Lib.hid (by rw [HM.out]; simp), HN', Below.trans hbw hbw2⟩
        case measure => simp [intOf]; omega
end Go.Proofs.Ytipfcfaigbeakaa

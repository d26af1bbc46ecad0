/-
  The walks of the program's code: what is taken off a stack, what is put on it.
  No condition but that kinds fit a byte.
  The walks of the program's code: what is put on a stack.
  No condition but the stack's height.
  The walks of the program's code: two rows of bytes held against each other.
  No condition but that bytes are bytes.
  The walks of the program's code: an instruction is reached.
  Conditions: the two rows lie as the caller made them.
  The walks of the program's code: where a jump goes; which instructions are known; the table of steps.
  Conditions: the rows lie as the caller made them.
  The walks of the program's code: which instructions are known; the table of steps.
  No condition.
  How the checker's two rows lie while instructions are gone through.
  No condition.
  The walks of the program's code: kinds taken off and put on a stack, for all stacks.
  Conditions: the rows lie as the caller made them.
  How the checker's rows lie when it begins.
  No condition.
-/
import Derived.Test.YtipfcfaigbeakaaMBvWalkC
import Derived.Test.YtipfcfaigbeakaaJPlain
import Derived.LoopN
import Derived.Test.YtipfcfaigbeakaaJKit
import Derived.Shelf.Bytes.SlEqualAll
import Derived.RegionTactic
import Derived.BigRegion
import Derived.ChangeAlike
import Derived.Deep.OwnRows
namespace Go.Proofs.Ytipfcfaigbeakaa
open Go.RowKit
set_option maxRecDepth 100000

abbrev u8s (l : List Int) : List Value := l.map (.int .u8)
abbrev i64s (l : List Int) : List Value := l.map (.int .i64)

set_option maxHeartbeats 1000000 in
theorem pop1_some (r : List Int) (x k : Int) (a : Option Addr) (cap : Nat) (kv : Value) (w : World) (hs : SlC w (.slice a (r.length + 1) cap) (r.length + 1) (u8s (r ++ [x]))) (hk : SlC w kv 1 (i64s [k])) (hx : 0 ≤ x ∧ x < 256) :
    Calls Try.prog 98 #[.slice a (r.length + 1) cap, kv] w fun e w' => e = .returned (if x = k then .tuple #[.slice a r.length cap, .bool true] else .tuple #[.slice none 0 0, .bool false]) ∧ w = w' := by
  obtain ⟨a', cap', e1, hnc, hcm, hc⟩ := hs
  simp only [Value.slice.injEq] at e1
  obtain ⟨rfl, -, rfl⟩ := e1
  obtain ⟨b, o, rfl, hcell⟩ := hc r.length (.int .u8 x) (by simp)
  obtain ⟨ak, capk, rfl, hnk, hcmk, hck⟩ := hk
  obtain ⟨bk, ok, rfl, hcellk⟩ := hck 0 (.int .i64 k) (by simp)
  clear hc hck
  rw [Nat.add_zero] at hcellk
  generalize r.length = m at *
  have hwm : wrap64 (m : Int) = m := by rw [wrap64_eq]; unfold maxLen at hcm; omega
  have hx8 : IntKind.i64.wrap x = x := by simp only [IntKind.wrap]; simp [IntKind.bits, IntKind.signed]; omega
  have h0 : ¬ ((m : Int) < 0) := by omega
  by_cases he : x = k
  · subst he
    rw [if_pos rfl]
    go_enter Try.func98, Try.ntmps98
    go_wp2
    refine wp_loop_rounds 2 ?_
    rw [rounds_succ]
    go_wp2
    rw [rounds_succ]
    go_wp2
    exact bodyPost_ret (v := .tuple #[.slice (some ⟨b, o, none⟩) m cap, .bool true]) (by simp [results, Try.results98, go_sem]) rfl ⟨rfl, rfl⟩
  · rw [if_neg he]
    have he' : (x != k) = true := by simpa using he
    go_enter Try.func98, Try.ntmps98
    go_wp2
    refine wp_loop_rounds 2 ?_
    rw [rounds_succ]
    go_wp2
    exact bodyPost_ret (v := .tuple #[.slice none 0 0, .bool false]) (by simp [results, Try.results98, go_sem]) rfl ⟨rfl, rfl⟩

theorem nat64 {m cap : Nat} (h : m ≤ cap) (hc : cap ≤ maxLen) : wrap64 (m : Int) = m := by rw [← IntWalk.i64_left]; exact IntWalk.i64_in _ (by unfold maxLen at hc; omega)
theorem byte_in {x : Int} (hx : 0 ≤ x ∧ x < 256) : IntKind.i64.wrap x = x := IntWalk.i64_in _ (by omega)

set_option maxHeartbeats 1000000 in
theorem pop_nil (a : Option Addr) (cap n : Nat) (kv : Value) (k : Int) (ks : List Int) (w : World) (hk : SlC w kv (n + 1) (i64s (k :: ks))) :
    Calls Try.prog 98 #[.slice a 0 cap, kv] w fun e w' => e = .returned (.tuple #[.slice none 0 0, .bool false]) ∧ w = w' := by
  obtain ⟨ak, capk, rfl, hnk, hcmk, hck⟩ := hk
  obtain ⟨bk, ok, rfl, hcellk⟩ := hck 0 (.int .i64 k) (by simp)
  clear hck
  rw [Nat.add_zero] at hcellk
  have hn : (0 : Int) < (n : Int) + 1 := by omega
  go_enter Try.func98, Try.ntmps98
  go_wp2
  refine wp_loop_rounds 1 ?_
  rw [rounds_succ]
  go_wp2
  exact bodyPost_ret (v := .tuple #[.slice none 0 0, .bool false]) (by simp [results, Try.results98, go_sem]) rfl ⟨rfl, rfl⟩

set_option maxHeartbeats 1000000 in
/-- Two kinds taken off. -/
theorem pop2_some (m : Nat) (x y k : Int) (b o cap : Nat) (kv : Value) (w : World) (hnc : m + 2 ≤ cap) (hcm : cap ≤ maxLen) (hcell : w.cell? ⟨b, o + (m + 1), none⟩ = some (.int .u8 x)) (hcell2 : w.cell? ⟨b, o + m, none⟩ = some (.int .u8 y))
    (hk : SlC w kv 2 (i64s [k, k])) (hx : 0 ≤ x ∧ x < 256) (hy : 0 ≤ y ∧ y < 256) :
    Calls Try.prog 98 #[.slice (some ⟨b, o, none⟩) (m + 2) cap, kv] w fun e w' => e = .returned (if x = k ∧ y = k then .tuple #[.slice (some ⟨b, o, none⟩) m cap, .bool true] else .tuple #[.slice none 0 0, .bool false]) ∧ w = w' := by
  obtain ⟨ak, capk, rfl, hnk, hcmk, hck⟩ := hk
  obtain ⟨bk, ok, rfl, hcellk⟩ := hck 0 (.int .i64 k) (by simp)
  obtain ⟨bk', ok', e1, hcellk2⟩ := hck 1 (.int .i64 k) (by simp)
  simp only [Option.some.injEq, Addr.mk.injEq] at e1
  obtain ⟨rfl, rfl, -⟩ := e1
  clear hck
  rw [Nat.add_zero] at hcellk
  have hwm := nat64 (m := m) (by omega) hcm
  have hwm1 : wrap64 ((m : Int) + 2 - 1) = m + 1 := by rw [show (m : Int) + 2 - 1 = ((m + 1 : Nat) : Int) by omega]; exact nat64 (m := m + 1) (by omega) hcm
  have ht : ((m : Int) + 1).toNat = m + 1 := by omega
  have hx8 := byte_in hx
  have hy8 := byte_in hy
  have h0 : ¬ ((m : Int) < 0) := by omega
  have h1 : ¬ ((m : Int) + 1 < 0) := by omega
  by_cases hex : x = k
  · by_cases hey : y = k
    · rw [if_pos ⟨hex, hey⟩]
      subst hex
      subst hey
      go_enter Try.func98, Try.ntmps98
      go_wp2
      refine wp_loop_rounds 3 ?_
      rw [rounds_succ]
      go_wp2
      rw [rounds_succ]
      go_wp2
      rw [rounds_succ]
      go_wp2
      exact bodyPost_ret (v := .tuple #[.slice (some ⟨b, o, none⟩) m cap, .bool true]) (by simp [results, Try.results98, go_sem]) rfl ⟨rfl, rfl⟩
    · rw [if_neg (fun h => hey h.2)]
      subst hex
      have he' : (y != x) = true := by simpa using hey
      go_enter Try.func98, Try.ntmps98
      go_wp2
      refine wp_loop_rounds 2 ?_
      rw [rounds_succ]
      go_wp2
      rw [rounds_succ]
      go_wp2
      exact bodyPost_ret (v := .tuple #[.slice none 0 0, .bool false]) (by simp [results, Try.results98, go_sem]) rfl ⟨rfl, rfl⟩
  · rw [if_neg (fun h => hex h.1)]
    have he' : (x != k) = true := by simpa using hex
    go_enter Try.func98, Try.ntmps98
    go_wp2
    refine wp_loop_rounds 1 ?_
    rw [rounds_succ]
    go_wp2
    exact bodyPost_ret (v := .tuple #[.slice none 0 0, .bool false]) (by simp [results, Try.results98, go_sem]) rfl ⟨rfl, rfl⟩
end Go.Proofs.Ytipfcfaigbeakaa

namespace Go.Proofs.Ytipfcfaigbeakaa
open Go.RowKit
set_option maxRecDepth 100000

theorem infoByte : (Try.prog.info? 5).map (fun i => (i.zero, i.size, i.bytes)) = some (some (.int .u8 0), 1, 1) := by kernel_rfl

theorem add_cell {w : World} {b o j : Nat} {u : Value} (h : w.cell? ⟨b, o + j, none⟩ = some u) : w.cell? ((⟨b, o, none⟩ : Addr).add j) = some u := by
  have e : (⟨b, o, none⟩ : Addr).add j = ⟨b, o + j, none⟩ := by
    unfold Addr.add; split
    · next h0 => have : j = 0 := by simpa using h0
                 rw [this]; rfl
    · rfl
  rw [e]; exact h

set_option maxHeartbeats 1000000 in
theorem push_any (l : List Int) (v : Value) (k : Int) (w : World) (hs : SlC w v l.length (u8s l)) (hl : l.length ≤ 64) :
    Calls Try.prog 97 #[v, .int .i64 k] w fun e w' => ∃ g cap, e = .returned (.slice (some ⟨g, 0, none⟩) (l.length + 1) cap) ∧ w.heap.size ≤ g ∧ g < w'.heap.size ∧ SlC w' (.slice (some ⟨g, 0, none⟩) (l.length + 1) cap) (l.length + 1) (u8s (l ++ [k % 256])) ∧ Ext w w' := by
  obtain ⟨a, cap, rfl, hnc, hcm, hc⟩ := hs
  have hnone : a = none → l.length = 0 := by
    intro h
    cases l with
    | nil => rfl
    | cons x r => obtain ⟨b, o, e, _⟩ := hc 0 (.int .u8 x) (by simp); rw [h] at e; cases e
  have HC := Lib.hid hc
  have HN := Lib.hid hnone
  clear hc hnone
  obtain ⟨n, hn⟩ : ∃ n, l.length = n := ⟨_, rfl⟩
  rw [hn] at hnc HN hl ⊢
  have hwn := nat64 hnc hcm
  go_enter Try.func97, Try.ntmps97
  go_wp2_with (at_builtin; go_must (refine wpList_grow_lit rfl _ _ 87 5 rfl (.int .u8 0) 1 1 Try.underlying87 infoByte rfl (by decide) a n (u8s l) rfl HN.out (by simp [hn]) (fun b hb j u hu => by obtain ⟨b', o', e, h⟩ := HC.out j u hu; rw [hb] at e; cases e; exact add_cell h) 1 1 _ _ rfl (by simp) rfl (by simp [Value.oneCell']) (by omega) (by unfold maxLen; omega) (by omega) ?_); intro v1 w1 hown1 hx1)
  obtain ⟨g, cap1, rfl, hg1, hcap1, hg2⟩ := ownsRow_some hown1 (by omega)
  go_ret
  refine ⟨g, cap1, rfl, hg1, hg2, ?_, hx1⟩
  have h := SlC.of_owns hown1
  exact h
end Go.Proofs.Ytipfcfaigbeakaa

namespace Go.Proofs.Ytipfcfaigbeakaa
open Go.RowKit Go.Lib
set_option maxRecDepth 100000

theorem SlC.bytesIn {w : World} {a : Option Addr} {n cap : Nat} {l : List Int} (h : SlC w (.slice a n cap) n (u8s l)) (hn : l.length = n) : Lib.BytesIn w a n l := by
  intro hp
  obtain ⟨a', cap', e1, _, _, hc⟩ := h
  simp only [Value.slice.injEq] at e1
  obtain ⟨rfl, -, rfl⟩ := e1
  have at' : ∀ i, i < n → (u8s l)[i]? = some (.int .u8 (l.getD i 0)) := fun i hi => by
    have hi' : i < l.length := by omega
    simp [List.getD, List.getElem?_eq_getElem hi']
  obtain ⟨b, o, rfl, h0⟩ := hc 0 _ (at' 0 hp)
  refine ⟨b, o, rfl, fun i hi => ?_⟩
  obtain ⟨b', o', e, h1⟩ := hc i _ (at' i hi)
  simp only [Option.some.injEq, Addr.mk.injEq] at e
  obtain ⟨rfl, rfl, -⟩ := e
  exact h1

theorem nat_byte {x : Int} (h : 0 ≤ x ∧ x < 256) : ((UInt8.ofNat x.toNat).toNat : Int) = x := by
  rw [show (UInt8.ofNat x.toNat).toNat = x.toNat % 256 from rfl]; omega
theorem bytes_inj : ∀ (l m : List Int), (∀ x ∈ l, 0 ≤ x ∧ x < 256) → (∀ x ∈ m, 0 ≤ x ∧ x < 256) → bytesOf l = bytesOf m → l = m
  | [], [], _, _, _ => rfl
  | [], y :: m, _, _, h => by simp [bytesOf] at h
  | x :: l, [], _, _, h => by simp [bytesOf] at h
  | x :: l, y :: m, hl, hm, h => by
    simp only [bytesOf, List.map_cons, List.cons.injEq] at h
    have e1 := nat_byte (hl x (by simp))
    have e2 := nat_byte (hm y (by simp))
    rw [h.1, e2] at e1
    rw [e1, bytes_inj l m (fun z hz => hl z (by simp [hz])) (fun z hz => hm z (by simp [hz])) h.2]
theorem bytes_eq {l m : List Int} (hl : ∀ x ∈ l, 0 ≤ x ∧ x < 256) (hm : ∀ x ∈ m, 0 ≤ x ∧ x < 256) : ((strOfNums l).toList == (strOfNums m).toList) = decide (l = m) := by
  rw [strOfNums_toList, strOfNums_toList]
  by_cases h : l = m
  · subst h; simp
  · have h' : ¬ bytesOf l = bytesOf m := fun e => h (bytes_inj l m hl hm e)
    simp [h, h']

set_option maxHeartbeats 1000000 in
theorem bytesEqual_any (l m : List Int) (v1 v2 : Value) (w : World) (hl : ∀ x ∈ l, 0 ≤ x ∧ x < 256) (hm : ∀ x ∈ m, 0 ≤ x ∧ x < 256) (h1 : SlC w v1 l.length (u8s l)) (h2 : SlC w v2 m.length (u8s m)) :
    Calls Try.prog 54 #[v1, v2] w fun e w' => e = .returned (.bool (decide (l = m))) ∧ w = w' := by
  obtain ⟨a1, c1, rfl, _⟩ := id h1
  obtain ⟨a2, c2, rfl, _⟩ := id h2
  have r1 := (h1.bytesIn rfl).convert rfl c1 38 5 9 Try.underlying38 Try.underlying5 Try.underlying9
  have r2 := (h2.bytesIn rfl).convert rfl c2 38 5 9 Try.underlying38 Try.underlying5 Try.underlying9
  have hd := bytes_eq hl hm
  go_enter Try.func54, Try.ntmps54
  go_wp2
  go_ret
  exact ⟨rfl, rfl⟩
end Go.Proofs.Ytipfcfaigbeakaa

namespace Go.Proofs.Ytipfcfaigbeakaa
open Go.RowKit
set_option maxRecDepth 100000

set_option maxHeartbeats 1000000 in
theorem flow_new (X A I n : Nat) (to : Nat) (sc : Int) (v : Value) (ln cap : Nat) (a : Option Addr) (w : World) (hv : v = .slice a ln cap)
    (hA : w.cell? ⟨X, 7, none⟩ = some (.slice (some ⟨A, 0, none⟩) n n)) (hI : w.cell? ⟨X, 8, none⟩ = some (.slice (some ⟨I, 0, none⟩) n n)) (hS : w.cell? ⟨X, 4, none⟩ = some (.int .i64 sc))
    (hto : to < n) (hsc : (ln : Int) ≤ sc) (hin : w.cell? ⟨I, to, none⟩ = some (.bool false)) (hat : ∃ u, w.cell? ⟨A, to, none⟩ = some u)
    (hfI : w.frozen? ⟨I, to, none⟩ = false) (hfA : w.frozen? ⟨A, to, none⟩ = false) (_hXA : X ≠ A) (_hXI : X ≠ I) (hAI : A ≠ I) :
    Calls Try.prog 96 #[.pointer (some ⟨X, 0, none⟩), .int .i64 to, v] w fun e w' => e = .returned (.bool true) ∧ w' = ((w.setCell ⟨I, to, none⟩ (.bool true)).setCell ⟨A, to, none⟩ v).drew := by
  subst hv
  obtain ⟨u, hat⟩ := hat
  have h1 : ¬ (sc < (ln : Int)) := by omega
  have h2 : ¬ ((n : Int) ≤ (to : Int)) := by omega
  go_enter Try.func96, Try.ntmps96
  go_wp2
  go_region
  go_wp2
  go_ret
  exact ⟨rfl, rfl⟩
set_option maxHeartbeats 1000000 in
theorem flow_out (X A n : Nat) (to sc : Int) (v : Value) (ln cap : Nat) (a : Option Addr) (w : World) (hv : v = .slice a ln cap)
    (hA : w.cell? ⟨X, 7, none⟩ = some (.slice (some ⟨A, 0, none⟩) n n)) (hS : w.cell? ⟨X, 4, none⟩ = some (.int .i64 sc)) (hto : ((n : Int) ≤ to) ∨ sc < (ln : Int)) :
    Calls Try.prog 96 #[.pointer (some ⟨X, 0, none⟩), .int .i64 to, v] w fun e w' => e = .returned (.bool false) ∧ w = w' := by
  subst hv
  by_cases h1 : (n : Int) ≤ to
  · clear hto
    go_enter Try.func96, Try.ntmps96
    go_wp2
    go_ret
    exact ⟨rfl, rfl⟩
  · have h2 : sc < (ln : Int) := by omega
    clear hto
    go_enter Try.func96, Try.ntmps96
    go_wp2
    go_ret
    exact ⟨rfl, rfl⟩

set_option maxHeartbeats 1000000 in
theorem flow_old (X A I n : Nat) (to : Nat) (sc : Int) (v u : Value) (l m : List Int) (w : World) (hl : ∀ x ∈ l, 0 ≤ x ∧ x < 256) (hm : ∀ x ∈ m, 0 ≤ x ∧ x < 256)
    (hv : SlC w v l.length (u8s l)) (hu : SlC w u m.length (u8s m))
    (hA : w.cell? ⟨X, 7, none⟩ = some (.slice (some ⟨A, 0, none⟩) n n)) (hI : w.cell? ⟨X, 8, none⟩ = some (.slice (some ⟨I, 0, none⟩) n n)) (hS : w.cell? ⟨X, 4, none⟩ = some (.int .i64 sc))
    (hto : to < n) (hsc : (l.length : Int) ≤ sc) (hin : w.cell? ⟨I, to, none⟩ = some (.bool true)) (hat : w.cell? ⟨A, to, none⟩ = some u) :
    Calls Try.prog 96 #[.pointer (some ⟨X, 0, none⟩), .int .i64 to, v] w fun e w' => e = .returned (.bool (decide (m = l))) ∧ w = w' := by
  obtain ⟨a, cap, rfl, _⟩ := id hv
  have h1 : ¬ (sc < (l.length : Int)) := by omega
  have h2 : ¬ ((n : Int) ≤ (to : Int)) := by omega
  have HV := Lib.hid hv
  have HU := Lib.hid hu
  clear hv hu
  go_enter Try.func96, Try.ntmps96
  go_wp2_with (go_at_call 54; refine (bytesEqual_any m l _ _ _ hm hl HU.out HV.out).mono ?_; rintro e w1 ⟨rfl, rfl⟩)
  go_ret
  exact ⟨rfl, rfl⟩
end Go.Proofs.Ytipfcfaigbeakaa

namespace Go.Proofs.Ytipfcfaigbeakaa
open Go.RowKit
set_option maxRecDepth 100000

set_option maxHeartbeats 1000000 in
theorem target_any (X b o n cap i : Nat) (N : Int) (w : World) (hB : w.cell? ⟨X, 6, none⟩ = some (.slice (some ⟨b, o, none⟩) n cap)) (hN : w.cell? ⟨b, o + i * 3 + 1, none⟩ = some (.int .i64 N)) (hi : i < n) (hn : n ≤ 60000) :
    Calls Try.prog 101 #[.pointer (some ⟨X, 0, none⟩), .int .i64 i] w fun e w' => e = .returned (.tuple #[.int .i64 (wrap64 ((i : Int) + 1 + N)), .bool (decide (0 ≤ N) && decide (N < (n : Int) - i - 1))]) ∧ Ext w w' := by
  have e1 : wrap64 ((i : Int) + 1) = i + 1 := nat64 (m := i + 1) (cap := 60001) (by omega) (by unfold maxLen; omega)
  have e2 : wrap64 ((n : Int) - i) = n - i := by rw [← IntWalk.i64_left]; exact IntWalk.i64_in _ (by omega)
  have e3 : wrap64 ((n : Int) - i - 1) = n - i - 1 := by rw [← IntWalk.i64_left]; exact IntWalk.i64_in _ (by omega)
  by_cases h0 : 0 ≤ N
  · go_enter Try.func101, Try.ntmps101
    go_wp2
    (refine region_drew (by kernel_rfl) (by kernel_rfl) ?_; (repeat (go_big_quiet_step (fail))); refine wpQuiet_nil ?_; rintro _ ⟨nq, rfl⟩)
    go_wp2
    exact bodyPost_ret (v := .tuple #[.int .i64 (wrap64 ((i : Int) + 1 + N)), .bool (decide (0 ≤ N) && decide (N < (n : Int) - i - 1))]) (by simp [results, Try.results101, go_sem, h0]) rfl ⟨rfl, (by repeat first | exact Ext.refl _ | assumption | refine Ext.drew ?_ | refine Ext.drewN ?_ _ | refine Ext.extBy ?_ _ | refine Ext.alloc ?_ _ | refine Ext.setCell ?_ (by simp; try omega) _ | (refine Ext.trans ?_ (by assumption)))⟩
  · have hd : decide (0 ≤ N) = false := decide_eq_false h0
    have h0' : N < 0 := by omega
    go_enter Try.func101, Try.ntmps101
    go_wp2
    (refine region_drew (by kernel_rfl) (by kernel_rfl) ?_; (repeat (go_big_quiet_step (fail))); refine wpQuiet_nil ?_; rintro _ ⟨nq, rfl⟩)
    go_wp2
    exact bodyPost_ret (v := .tuple #[.int .i64 (wrap64 ((i : Int) + 1 + N)), .bool (decide (0 ≤ N) && decide (N < (n : Int) - i - 1))]) (by simp [results, Try.results101, go_sem, hd]) rfl ⟨rfl, (by repeat first | exact Ext.refl _ | assumption | refine Ext.drew ?_ | refine Ext.drewN ?_ _ | refine Ext.extBy ?_ _ | refine Ext.alloc ?_ _ | refine Ext.setCell ?_ (by simp; try omega) _ | (refine Ext.trans ?_ (by assumption)))⟩
end Go.Proofs.Ytipfcfaigbeakaa

namespace Go.Proofs.Ytipfcfaigbeakaa
open Go.RowKit
set_option maxRecDepth 100000

set_option maxHeartbeats 1000000 in
theorem known_any (op : Int) (w : World) :
    Calls Try.prog 66 #[.int .i64 op] w fun e w' => e = .returned (.bool (decide (1 ≤ op) && decide (op ≤ 9))) ∧ w = w' := by
  by_cases h : 1 ≤ op ∧ op ≤ 9
  · rcases (show op = 1 ∨ op = 2 ∨ op = 3 ∨ op = 4 ∨ op = 5 ∨ op = 6 ∨ op = 7 ∨ op = 8 ∨ op = 9 by omega) with rfl | rfl | rfl | rfl | rfl | rfl | rfl | rfl | rfl
    all_goals
      clear h
      go_enter Try.func66, Try.ntmps66
      go_wp2
      go_ret
      exact ⟨rfl, rfl⟩
  · have e : (decide (1 ≤ op) && decide (op ≤ 9)) = false := by simp; omega
    rw [e]
    have h1 : (op == 1) = false := by simp; omega
    have h2 : (op == 2) = false := by simp; omega
    have h3 : (op == 3) = false := by simp; omega
    have h4 : (op == 4) = false := by simp; omega
    have h5 : (op == 5) = false := by simp; omega
    have h6 : (op == 6) = false := by simp; omega
    have h7 : (op == 7) = false := by simp; omega
    have h8 : (op == 8) = false := by simp; omega
    have h9 : (op == 9) = false := by simp; omega
    clear e h
    go_enter Try.func66, Try.ntmps66
    go_wp2
    go_ret
    exact ⟨rfl, rfl⟩

def stepCells : Array Value := #[.nilFunc, .func (.func 67) #[] #[], .func (.func 68) #[] #[], .func (.func 69) #[] #[], .func (.func 70) #[] #[], .func (.func 71) #[] #[], .func (.func 72) #[] #[], .func (.func 73) #[] #[], .func (.func 74) #[] #[], .func (.func 75) #[] #[]]
@[go_sem] theorem stepCells_0 : stepCells[0]? = some (.nilFunc) := by kernel_rfl
@[go_sem] theorem stepCells_1 : stepCells[1]? = some (.func (.func 67) #[] #[]) := by kernel_rfl
@[go_sem] theorem stepCells_2 : stepCells[2]? = some (.func (.func 68) #[] #[]) := by kernel_rfl
@[go_sem] theorem stepCells_3 : stepCells[3]? = some (.func (.func 69) #[] #[]) := by kernel_rfl
@[go_sem] theorem stepCells_4 : stepCells[4]? = some (.func (.func 70) #[] #[]) := by kernel_rfl
@[go_sem] theorem stepCells_5 : stepCells[5]? = some (.func (.func 71) #[] #[]) := by kernel_rfl
@[go_sem] theorem stepCells_6 : stepCells[6]? = some (.func (.func 72) #[] #[]) := by kernel_rfl
@[go_sem] theorem stepCells_7 : stepCells[7]? = some (.func (.func 73) #[] #[]) := by kernel_rfl
@[go_sem] theorem stepCells_8 : stepCells[8]? = some (.func (.func 74) #[] #[]) := by kernel_rfl
@[go_sem] theorem stepCells_9 : stepCells[9]? = some (.func (.func 75) #[] #[]) := by kernel_rfl
theorem steps_any (w : World) :
    Calls Try.prog 43 #[] w fun e w' => e = .returned (.agg stepCells) ∧ Ext w w' := by
  go_enter Try.func43, Try.ntmps43
  go_wp2_with (refine wpList_store_last rfl 85 (.tmp 0) (.tmp 1) rfl _ _ _ _ rfl rfl rfl (by kernel_rfl) (by kernel_rfl) (by kernel_rfl) ?_)
  exact bodyPost_ret (v := .agg stepCells) (results_cell_row rfl _ _ _ _ _ _ _ rfl (heap_alloc_last _ _) Try.underlying85 rfl (by kernel_rfl)) rfl ⟨rfl, (Ext.refl _).alloc _⟩
end Go.Proofs.Ytipfcfaigbeakaa

namespace Go.Proofs.Ytipfcfaigbeakaa
open Go.RowKit
set_option maxRecDepth 100000

/-- A stack that lies in none of the checker's own blocks. -/
def Stk (kd : IntKind) (A I : Nat) (w : World) (v : Value) (l : List Int) : Prop :=
  SlC w v l.length (l.map (.int kd)) ∧ (∀ x ∈ l, 0 ≤ x ∧ x < 256) ∧ ∀ b o s k cap, v = .slice (some ⟨b, o, s⟩) k cap → b ≠ A ∧ b ≠ I
/-- The rows A (stacks) and I (is it reached?) of n instructions, of which those from i on are still to be looked at. -/
structure Rw (kd : IntKind) (W0 : World) (A I n : Nat) (w : World) (i : Nat) (st : Known) : Prop where
  base : Ext W0 w
  geA : W0.heap.size ≤ A
  geI : W0.heap.size ≤ I
  AI : A ≠ I
  ltA : A < w.heap.size
  ltI : I < w.heap.size
  inn : ∀ j, j < n → w.cell? ⟨I, j, none⟩ = some (.bool (st j).isSome)
  att : ∀ j, j < n → ∃ u, w.cell? ⟨A, j, none⟩ = some u ∧ (i ≤ j → ∀ l, st j = some l → Stk kd A I w u l)
  fzI : ∀ j, j < n → w.frozen? ⟨I, j, none⟩ = false
  fzA : ∀ j, j < n → w.frozen? ⟨A, j, none⟩ = false

theorem Stk.ext {kd : IntKind} {A I : Nat} {w w' : World} {v : Value} {l : List Int} (h : Stk kd A I w v l) (hx : Ext w w') : Stk kd A I w' v l := ⟨h.1.ext hx, h.2⟩
theorem Rw.ext {kd : IntKind} {W0 : World} {A I n : Nat} {w w' : World} {i : Nat} {st : Known} (h : Rw kd W0 A I n w i st) (hx : Ext w w') : Rw kd W0 A I n w' i st where
  base := h.base.trans hx
  geA := h.geA
  geI := h.geI
  AI := h.AI
  ltA := Nat.lt_of_lt_of_le h.ltA hx.size
  ltI := Nat.lt_of_lt_of_le h.ltI hx.size
  inn := fun j hj => hx.cell (h.inn j hj)
  att := fun j hj => by
    obtain ⟨u, h1, h2⟩ := h.att j hj
    exact ⟨u, hx.cell h1, fun hi l hl => (h2 hi l hl).ext hx⟩
  fzI := fun j hj => by rw [hx.frozens I j h.ltI]; exact h.fzI j hj
  fzA := fun j hj => by rw [hx.frozens A j h.ltA]; exact h.fzA j hj
theorem Stk.store {kd : IntKind} {A I : Nat} {w : World} {v : Value} {l : List Int} (h : Stk kd A I w v l) (b to : Nat) (u : Value) (hb : b = A ∨ b = I) : Stk kd A I (w.setCell ⟨b, to, none⟩ u) v l := by
  obtain ⟨⟨a, cap, rfl, h2, h3, h4⟩, h5, h6⟩ := h
  refine ⟨⟨a, cap, rfl, h2, h3, fun j x hj => ?_⟩, h5, h6⟩
  obtain ⟨b', o, e, hc⟩ := h4 j x hj
  refine ⟨b', o, e, ?_⟩
  have h7 := h6 b' o none _ _ (by rw [e])
  rw [World.cell?_setCell_other _ _ _ _ (by intro e'; simp only [Addr.mk.injEq] at e'; rcases hb with rfl | rfl <;> omega)]
  exact hc
/-- The stores of one instruction that is reached. -/
abbrev putW (w : World) (A I to : Nat) (v : Value) : World := (w.setCell ⟨I, to, none⟩ (.bool true)).setCell ⟨A, to, none⟩ v
theorem Rw.new {kd : IntKind} {W0 : World} {A I n : Nat} {w : World} {i : Nat} {st : Known} (h : Rw kd W0 A I n w i st) (to : Nat) (hto : to < n) (v : Value) (l : List Int) (hv : Stk kd A I w v l) :
    Rw kd W0 A I n (putW w A I to v) i (fun j => if j = to then some l else st j) where
  base := (h.base.setCell h.geI _).setCell h.geA _
  geA := h.geA
  geI := h.geI
  AI := h.AI
  ltA := by simp; exact h.ltA
  ltI := by simp; exact h.ltI
  inn := fun j hj => by
    rw [World.cell?_setCell_other _ _ _ _ (by simp [h.AI])]
    by_cases hjt : j = to
    · subst hjt; rw [World.cell?_setCell_same _ _ _ (h.inn j hj), if_pos rfl]; rfl
    · rw [World.cell?_setCell_other _ _ _ _ (by intro e; simp only [Addr.mk.injEq] at e; omega), if_neg hjt]; exact h.inn j hj
  att := fun j hj => by
    obtain ⟨u, h1, h2⟩ := h.att j hj
    have h1' : (w.setCell ⟨I, to, none⟩ (.bool true)).cell? ⟨A, j, none⟩ = some u := by
      rw [World.cell?_setCell_other _ _ _ _ (by simp [h.AI.symm])]; exact h1
    by_cases hjt : j = to
    · subst hjt
      refine ⟨v, World.cell?_setCell_same _ _ _ h1', fun _ m hm => ?_⟩
      rw [if_pos rfl] at hm
      obtain rfl := Option.some.inj hm
      exact (hv.store I j _ (.inr rfl)).store A j _ (.inl rfl)
    · refine ⟨u, by rw [World.cell?_setCell_other _ _ _ _ (by intro e; simp only [Addr.mk.injEq] at e; omega)]; exact h1', fun hi m hm => ?_⟩
      rw [if_neg hjt] at hm
      exact ((h2 hi m hm).store I to _ (.inr rfl)).store A to _ (.inl rfl)
  fzI := fun j hj => by simp; exact h.fzI j hj
  fzA := fun j hj => by simp; exact h.fzA j hj
/-- What was looked at counts no more. -/
theorem Rw.gone {kd : IntKind} {W0 : World} {A I n : Nat} {w : World} {i : Nat} {st : Known} (h : Rw kd W0 A I n w i st) (hi : i < n) (v : Value) : Rw kd W0 A I n (w.setCell ⟨A, i, none⟩ v) (i + 1) st where
  base := h.base.setCell h.geA _
  geA := h.geA
  geI := h.geI
  AI := h.AI
  ltA := by simp; exact h.ltA
  ltI := by simp; exact h.ltI
  inn := fun j hj => by rw [World.cell?_setCell_other _ _ _ _ (by simp [h.AI])]; exact h.inn j hj
  att := fun j hj => by
    obtain ⟨u, h1, h2⟩ := h.att j hj
    by_cases hjt : j = i
    · subst hjt
      exact ⟨v, World.cell?_setCell_same _ _ _ h1, fun hh => by omega⟩
    · exact ⟨u, by rw [World.cell?_setCell_other _ _ _ _ (by intro e; simp only [Addr.mk.injEq] at e; omega)]; exact h1, fun hh m hm => (h2 (by omega) m hm).store A i _ (.inl rfl)⟩
  fzI := fun j hj => by simp; exact h.fzI j hj
  fzA := fun j hj => by simp; exact h.fzA j hj
theorem Rw.next {kd : IntKind} {W0 : World} {A I n : Nat} {w : World} {i : Nat} {st : Known} (h : Rw kd W0 A I n w i st) : Rw kd W0 A I n w (i + 1) st :=
  { h with att := fun j hj => by obtain ⟨u, h1, h2⟩ := h.att j hj; exact ⟨u, h1, fun hh m hm => h2 (by omega) m hm⟩ }

/-- The checker's block X over the rows. -/
structure Ck (W0 : World) (X A I n : Nat) (xs : List Value) (w : World) (i : Nat) (st : Known) : Prop where
  rw : Rw .u8 W0 A I n w i st
  XA : X ≠ A
  XI : X ≠ I
  ltX : X < w.heap.size
  cells : ∀ j u, (xs ++ [.slice (some ⟨A, 0, none⟩) n n, .slice (some ⟨I, 0, none⟩) n n])[j]? = some u → w.cell? ⟨X, j, none⟩ = some u
theorem Ck.ext {W0 : World} {X A I n : Nat} {xs : List Value} {w w' : World} {i : Nat} {st : Known} (h : Ck W0 X A I n xs w i st) (hx : Ext w w') : Ck W0 X A I n xs w' i st where
  rw := h.rw.ext hx
  XA := h.XA
  XI := h.XI
  ltX := Nat.lt_of_lt_of_le h.ltX hx.size
  cells := fun j u hj => hx.cell (h.cells j u hj)
theorem Ck.new {W0 : World} {X A I n : Nat} {xs : List Value} {w : World} {i : Nat} {st : Known} (h : Ck W0 X A I n xs w i st) (to : Nat) (hto : to < n) (v : Value) (l : List Int) (hv : Stk .u8 A I w v l) :
    Ck W0 X A I n xs (putW w A I to v) i (fun j => if j = to then some l else st j) where
  rw := h.rw.new to hto v l hv
  XA := h.XA
  XI := h.XI
  ltX := by simp; exact h.ltX
  cells := fun j u hj => by rw [World.cell?_setCell_other _ _ _ _ (by simp [h.XA.symm]), World.cell?_setCell_other _ _ _ _ (by simp [h.XI.symm])]; exact h.cells j u hj
theorem Ck.gone {W0 : World} {X A I n : Nat} {xs : List Value} {w : World} {i : Nat} {st : Known} (h : Ck W0 X A I n xs w i st) (hi : i < n) (v : Value) : Ck W0 X A I n xs (w.setCell ⟨A, i, none⟩ v) (i + 1) st where
  rw := h.rw.gone hi v
  XA := h.XA
  XI := h.XI
  ltX := by simp; exact h.ltX
  cells := fun j u hj => by rw [World.cell?_setCell_other _ _ _ _ (by simp [h.XA.symm])]; exact h.cells j u hj

/-- All but the rows A and I is as it was. -/
def Frm (A I : Nat) (w w' : World) : Prop := ∀ b o, b ≠ A → b ≠ I → b < w.heap.size → w'.cell? ⟨b, o, none⟩ = w.cell? ⟨b, o, none⟩
theorem Frm.of_ext {A I : Nat} {w w' : World} (h : Ext w w') : Frm A I w w' := fun b o _ _ hb => h.cells b o hb
theorem Frm.trans {A I : Nat} {w w1 w' : World} (h : Frm A I w w1) (h' : Frm A I w1 w') (hs : w.heap.size ≤ w1.heap.size) : Frm A I w w' := fun b o h1 h2 hb => (h' b o h1 h2 (by omega)).trans (h b o h1 h2 hb)
theorem Frm.cell {A I : Nat} {w w' : World} (h : Frm A I w w') {b o : Nat} {v : Value} (h1 : b ≠ A) (h2 : b ≠ I) (hc : w.cell? ⟨b, o, none⟩ = some v) : w'.cell? ⟨b, o, none⟩ = some v := (h b o h1 h2 (World.block_lt_of_cell? w _ hc)).trans hc
theorem Stk.frm {kd : IntKind} {A I : Nat} {w w' : World} {v : Value} {l : List Int} (h : Stk kd A I w v l) (hf : Frm A I w w') : Stk kd A I w' v l := by
  obtain ⟨⟨a, cap, rfl, h2, h3, h4⟩, h5, h6⟩ := h
  refine ⟨⟨a, cap, rfl, h2, h3, fun j x hj => ?_⟩, h5, h6⟩
  obtain ⟨b', o, e, hc⟩ := h4 j x hj
  have h7 := h6 b' o none _ _ (by rw [e])
  exact ⟨b', o, e, (hf b' (o + j) h7.1 h7.2 (World.block_lt_of_cell? w _ hc)).trans hc⟩
theorem Frm.put {A I : Nat} (w : World) (to : Nat) (v : Value) : Frm A I w (putW w A I to v).drew := fun b o h1 h2 _ => by
  rw [World.cell?_drew, World.cell?_setCell_other _ _ _ _ (by first | (simp; done) | simp [Ne.symm h1]), World.cell?_setCell_other _ _ _ _ (by first | (simp; done) | simp [Ne.symm h2])]
/-- What a step of the checker leaves: false, or true and the rows behind it. -/
def Flo (W0 : World) (X A I n : Nat) (xs : List Value) (i : Nat) (r : Option Known) (w : World) (e : Ending) (w' : World) : Prop :=
  Ext W0 w' ∧ Frm A I w w' ∧ w.heap.size ≤ w'.heap.size ∧ (r = none ∧ e = .returned (.bool false) ∨ ∃ st', r = some st' ∧ e = .returned (.bool true) ∧ Ck W0 X A I n xs w' i st')
theorem Flo.no {W0 : World} {X A I n : Nat} {xs : List Value} {i : Nat} {r : Option Known} {w w' : World} (h0 : Ext W0 w) (hx : Ext w w') (hr : r = none) : Flo W0 X A I n xs i r w (.returned (.bool false)) w' := ⟨h0.trans hx, Frm.of_ext hx, hx.size, .inl ⟨hr, rfl⟩⟩
theorem Flo.yes {W0 : World} {X A I n : Nat} {xs : List Value} {i : Nat} {r : Option Known} {w w' : World} {st : Known} (hr : r = some st) (hk : Ck W0 X A I n xs w' i st) (hf : Frm A I w w') (hs : w.heap.size ≤ w'.heap.size) :
    Flo W0 X A I n xs i r w (.returned (.bool true)) w' := ⟨hk.rw.base, hf, hs, .inr ⟨st, hr, rfl, hk⟩⟩

/-- An instruction is reached with a stack. -/
theorem flow_any {W0 : World} {X A I n : Nat} {c0 c1 c2 c3 c5 c6 : Value} {sc : Int} {w : World} {i : Nat} {st : Known} (h : Ck W0 X A I n [c0, c1, c2, c3, .int .i64 sc, c5, c6] w i st) (to : Nat) (hi : i ≤ to) (v : Value) (l : List Int) (hv : Stk .u8 A I w v l) :
    Calls Try.prog 96 #[.pointer (some ⟨X, 0, none⟩), .int .i64 to, v] w (Flo W0 X A I n [c0, c1, c2, c3, .int .i64 sc, c5, c6] i (if to < n ∧ (l.length : Int) ≤ sc then putV st to l else none) w) := by
  obtain ⟨a, cap, e0, _⟩ := id hv.1
  have at4 := h.cells 4 _ rfl
  have at7 := h.cells 7 _ rfl
  have at8 := h.cells 8 _ rfl
  by_cases hc : to < n ∧ (l.length : Int) ≤ sc
  · rw [if_pos hc]
    obtain ⟨hto, hsc⟩ := hc
    obtain ⟨u, hu, hs⟩ := h.rw.att to hto
    have hin := h.rw.inn to hto
    cases hst : st to with
    | none =>
      rw [hst] at hin
      have hp : putV st to l = some (fun j => if j = to then some l else st j) := by unfold putV; rw [hst]
      refine (flow_new X A I n to sc v l.length cap a w e0 at7 at8 at4 hto hsc hin ⟨u, hu⟩ (h.rw.fzI to hto) (h.rw.fzA to hto) h.XA h.XI h.rw.AI).mono ?_
      rintro e w' ⟨rfl, rfl⟩
      exact Flo.yes hp ((h.new to hto v l hv).ext (Ext.refl _).drew) (Frm.put w to v) (by simp)
    | some m =>
      rw [hst] at hin
      have hm := hs hi m hst
      refine (flow_old X A I n to sc v u l m w hv.2.1 hm.2.1 hv.1 hm.1 at7 at8 at4 hto hsc hin hu).mono ?_
      rintro e w' ⟨rfl, rfl⟩
      by_cases hml : m = l
      · rw [decide_eq_true hml]; exact Flo.yes (by unfold putV; rw [hst]; simp [hml]) h (Frm.of_ext (Ext.refl _)) (Nat.le_refl _)
      · rw [decide_eq_false hml]; exact Flo.no h.rw.base (Ext.refl _) (by unfold putV; rw [hst]; simp [hml])
  · rw [if_neg hc]
    refine (flow_out X A n to sc v l.length cap a w e0 at7 at4 (by omega)).mono ?_
    rintro e w' ⟨rfl, rfl⟩
    exact Flo.no h.rw.base (Ext.refl _) rfl
end Go.Proofs.Ytipfcfaigbeakaa

namespace Go.Proofs.Ytipfcfaigbeakaa
open Go.RowKit
set_option maxRecDepth 100000

def PopR (A I : Nat) (w : World) (r : Option (List Int)) (e : Ending) (w' : World) : Prop :=
  w = w' ∧ (r = none ∧ e = .returned (.tuple #[.slice none 0 0, .bool false]) ∨ ∃ m v, r = some m ∧ e = .returned (.tuple #[v, .bool true]) ∧ Stk .u8 A I w v m)
theorem SlC.take {w : World} {a : Option Addr} {n cap m : Nat} {cs ds : List Value} (h : SlC w (.slice a n cap) n cs) (hm : m ≤ n) (hd : ∀ (j : Nat) (u : Value), ds[j]? = some u → cs[j]? = some u) : SlC w (.slice a m cap) m ds := by
  obtain ⟨a', cap', e, h2, h3, h4⟩ := h
  simp only [Value.slice.injEq] at e
  obtain ⟨rfl, -, rfl⟩ := e
  exact ⟨a, cap, rfl, by omega, h3, fun j u hu => h4 j u (hd j u hu)⟩
theorem Stk.slice {A I : Nat} {w : World} {a : Option Addr} {n cap m : Nat} {l r : List Int} (h : Stk .u8 A I w (.slice a n cap) l) (hl : l.length = n) (hr : r.length = m) (hm : m ≤ n) (hp : ∀ (j : Nat) (x : Int), r[j]? = some x → l[j]? = some x) : Stk .u8 A I w (.slice a m cap) r := by
  obtain ⟨h1, h2, h3⟩ := h
  refine ⟨?_, fun x hx => ?_, fun b o s k c e => ?_⟩
  · rw [hr]
    rw [hl] at h1
    refine h1.take hm (fun j u hu => ?_)
    rw [List.getElem?_map] at hu ⊢
    cases hx : r[j]? with
    | none => rw [hx] at hu; cases hu
    | some x => rw [hx] at hu; rw [hp j x hx]; exact hu
  · obtain ⟨j, hj⟩ := List.getElem?_of_mem hx
    exact h2 x (List.mem_of_getElem? (hp j x hj))
  · simp only [Value.slice.injEq] at e
    obtain ⟨rfl, -, -⟩ := e
    exact h3 b o s n cap rfl
theorem pop1_any {A I : Nat} {w : World} {v kv : Value} {l : List Int} (hs : Stk .u8 A I w v l) (k : Int) (hk : SlC w kv 1 (i64s [k])) : Calls Try.prog 98 #[v, kv] w (PopR A I w (popV l k)) := by
  obtain ⟨a, cap, rfl, _⟩ := id hs.1
  rcases List.eq_nil_or_concat l with rfl | ⟨r, x, rfl⟩
  · refine (pop_nil a cap 0 kv k [] w hk).mono ?_
    rintro e w' ⟨rfl, rfl⟩
    exact ⟨rfl, .inl ⟨popV_nil k, rfl⟩⟩
  · rw [List.concat_eq_append] at *
    have hlen : (r ++ [x]).length = r.length + 1 := by simp
    rw [hlen]
    rw [hlen] at hs
    have hs1 := hs.1
    rw [hlen] at hs1
    refine (pop1_some r x k a cap kv w hs1 hk (hs.2.1 x (by simp))).mono ?_
    rintro e w' ⟨rfl, rfl⟩
    refine ⟨rfl, ?_⟩
    rw [popV_snoc]
    by_cases hx : x = k
    · rw [if_pos hx, if_pos hx]
      exact .inr ⟨r, _, rfl, rfl, hs.slice hlen rfl (by omega) (fun j y hj => by rw [List.getElem?_append_left (List.getElem?_eq_some_iff.1 hj).1]; exact hj)⟩
    · rw [if_neg hx, if_neg hx]
      exact .inl ⟨rfl, rfl⟩
theorem SlC.first {w : World} {v : Value} {k : Int} (h : SlC w v 2 (i64s [k, k])) : ∃ a cap, v = .slice a 2 cap := by obtain ⟨a, cap, e, _⟩ := h; exact ⟨a, cap, e⟩
set_option maxHeartbeats 1000000 in
/-- One value on the stack where two are asked for. -/
theorem pop2_one (x k : Int) (b o cap : Nat) (kv : Value) (w : World) (hnc : 1 ≤ cap) (_hcm : cap ≤ maxLen) (hcell : w.cell? ⟨b, o + 0, none⟩ = some (.int .u8 x)) (hk : SlC w kv 2 (i64s [k, k])) (hx : 0 ≤ x ∧ x < 256) :
    Calls Try.prog 98 #[.slice (some ⟨b, o, none⟩) 1 cap, kv] w fun e w' => e = .returned (.tuple #[.slice none 0 0, .bool false]) ∧ w = w' := by
  obtain ⟨ak, capk, rfl, hnk, hcmk, hck⟩ := hk
  obtain ⟨bk, ok, rfl, hcellk⟩ := hck 0 (.int .i64 k) (by simp)
  obtain ⟨bk', ok', e1, hcellk2⟩ := hck 1 (.int .i64 k) (by simp)
  simp only [Option.some.injEq, Addr.mk.injEq] at e1
  obtain ⟨rfl, rfl, -⟩ := e1
  clear hck
  rw [Nat.add_zero] at hcellk hcell
  have hx8 := byte_in hx
  by_cases hex : x = k
  · subst hex
    go_enter Try.func98, Try.ntmps98
    go_wp2
    refine wp_loop_rounds 2 ?_
    rw [rounds_succ]
    go_wp2
    rw [rounds_succ]
    go_wp2
    exact bodyPost_ret (v := .tuple #[.slice none 0 0, .bool false]) (by simp [results, Try.results98, go_sem]) rfl ⟨rfl, rfl⟩
  · have he' : (x != k) = true := by simpa using hex
    go_enter Try.func98, Try.ntmps98
    go_wp2
    refine wp_loop_rounds 1 ?_
    rw [rounds_succ]
    go_wp2
    exact bodyPost_ret (v := .tuple #[.slice none 0 0, .bool false]) (by simp [results, Try.results98, go_sem]) rfl ⟨rfl, rfl⟩
theorem pop2_any {A I : Nat} {w : World} {v kv : Value} {l : List Int} (hs : Stk .u8 A I w v l) (k : Int) (hk : SlC w kv 2 (i64s [k, k])) : Calls Try.prog 98 #[v, kv] w (PopR A I w ((popV l k).bind fun m => popV m k)) := by
  obtain ⟨a, cap, rfl, hnc, hcm, hc⟩ := id hs.1
  rcases List.eq_nil_or_concat l with rfl | ⟨r, x, rfl⟩
  · refine (pop_nil a cap 1 kv k [k] w hk).mono ?_
    rintro e w' ⟨rfl, rfl⟩
    exact ⟨rfl, .inl ⟨by rw [popV_nil]; rfl, rfl⟩⟩
  · rw [List.concat_eq_append] at *
    rw [popV_snoc]
    have hbx := hs.2.1 x (by simp)
    rcases List.eq_nil_or_concat r with rfl | ⟨r, y, rfl⟩
    · obtain ⟨b, o, rfl, hcell⟩ := hc 0 (.int .u8 x) (by simp)
      refine (pop2_one x k b o cap kv w hnc hcm hcell hk hbx).mono ?_
      rintro e w' ⟨rfl, rfl⟩
      refine ⟨rfl, .inl ⟨?_, rfl⟩⟩
      by_cases hx : x = k
      · rw [if_pos hx]; exact popV_nil k
      · rw [if_neg hx]; rfl
    · rw [List.concat_eq_append] at *
      have hlen : (r ++ [y] ++ [x]).length = r.length + 2 := by simp
      obtain ⟨b, o, rfl, hcell⟩ := hc (r.length + 1) (.int .u8 x) (by simp)
      obtain ⟨b', o', e1, hcell2⟩ := hc r.length (.int .u8 y) (by simp)
      simp only [Option.some.injEq, Addr.mk.injEq] at e1
      obtain ⟨rfl, rfl, -⟩ := e1
      rw [hlen] at hs hnc ⊢
      have hby := hs.2.1 y (by simp)
      refine (pop2_some r.length x y k b o cap kv w hnc hcm hcell hcell2 hk hbx hby).mono ?_
      rintro e w' ⟨rfl, rfl⟩
      refine ⟨rfl, ?_⟩
      by_cases hx : x = k
      · rw [if_pos hx]
        by_cases hy : y = k
        · rw [if_pos ⟨hx, hy⟩]
          refine .inr ⟨r, _, ?_, rfl, hs.slice hlen rfl (by omega) (fun j z hj => ?_)⟩
          · show popV (r ++ [y]) k = some r
            rw [popV_snoc, if_pos hy]
          · rw [List.append_assoc, List.getElem?_append_left (List.getElem?_eq_some_iff.1 hj).1]; exact hj
        · rw [if_neg (fun h => hy h.2)]
          refine .inl ⟨?_, rfl⟩
          show popV (r ++ [y]) k = none
          rw [popV_snoc, if_neg hy]
      · rw [if_neg hx, if_neg (fun h => hx h.1)]
        exact .inl ⟨rfl, rfl⟩
/-- A kind put on. -/
theorem push_stk {A I : Nat} {w : World} {v : Value} {l : List Int} (hs : Stk .u8 A I w v l) (hA : A < w.heap.size) (hI : I < w.heap.size) (hl : l.length ≤ 64) (k : Int) (hk : 0 ≤ k ∧ k < 256) :
    Calls Try.prog 97 #[v, .int .i64 k] w fun e w' => ∃ u, e = .returned u ∧ Stk .u8 A I w' u (l ++ [k]) ∧ Ext w w' := by
  refine (push_any l v k w hs.1 hl).mono ?_
  rintro e w' ⟨g, cap, rfl, h1, h2, h3, h4⟩
  refine ⟨_, rfl, ⟨?_, fun x hx => ?_, fun b o s k' c e => ?_⟩, h4⟩
  · rw [show k % 256 = k by omega] at h3
    rw [show (l ++ [k]).length = l.length + 1 by simp]
    exact h3
  · rcases List.mem_append.1 hx with hx | hx
    · exact hs.2.1 x hx
    · rw [List.mem_singleton.1 hx]; exact hk
  · simp only [Value.slice.injEq, Option.some.injEq, Addr.mk.injEq] at e
    obtain ⟨⟨rfl, -, -⟩, -, -⟩ := e
    omega
end Go.Proofs.Ytipfcfaigbeakaa

namespace Go.Proofs.Ytipfcfaigbeakaa
open Go.RowKit
set_option maxRecDepth 100000

/-- The rows just made, the first instruction reached with an empty stack. -/
theorem Rw.first {kd : IntKind} {W0 W : World} {A I n : Nat} {tA tI : TypeId} (hx : Ext W0 W) (gA : W0.heap.size ≤ A) (gI : W0.heap.size ≤ I) (AI : A ≠ I) (rA : W.rowIs A tA n (fun _ => .slice none 0 0)) (rI : W.rowIs I tI n (fun _ => .bool false)) :
    Rw kd W0 A I n (W.setCell ⟨I, 0, none⟩ (.bool true)) 0 start where
  base := hx.setCell gI _
  geA := gA
  geI := gI
  AI := AI
  ltA := by simp; exact rA.lt
  ltI := by simp; exact rI.lt
  inn := fun j hj => by
    by_cases h0 : j = 0
    · subst h0; rw [World.cell?_setCell_same _ _ _ (rI.cell hj)]; rfl
    · rw [World.cell?_setCell_other _ _ _ _ (by intro e; simp only [Addr.mk.injEq] at e; omega), rI.cell hj]; simp [start, h0]
  att := fun j hj => by
    refine ⟨.slice none 0 0, by rw [World.cell?_setCell_other _ _ _ _ (by first | (simp; done) | simp [AI.symm])]; exact rA.cell hj, fun _ l hl => ?_⟩
    unfold start at hl
    split at hl
    · obtain rfl := Option.some.inj hl
      exact ⟨⟨none, 0, rfl, Nat.le_refl _, Nat.zero_le _, fun j u hu => by simp at hu⟩, fun x hx => by simp at hx, fun b o s k cap e => by simp at e⟩
    · cases hl
  fzI := fun j hj => by simp; exact rI.frozen j
  fzA := fun j hj => by simp; exact rA.frozen j
/-- The checker just made. -/
structure CkNew (W0 : World) (X A I n : Nat) (xs : List Value) (w : World) : Prop where
  base : Ext W0 w
  geA : W0.heap.size ≤ A
  geI : W0.heap.size ≤ I
  AI : A ≠ I
  XA : X ≠ A
  XI : X ≠ I
  ltX : X < w.heap.size
  rA : w.rowIs A 87 n (fun _ => .slice none 0 0)
  rI : w.rowIs I 4 n (fun _ => .bool false)
  cells : ∀ j u, (xs ++ [.slice (some ⟨A, 0, none⟩) n n, .slice (some ⟨I, 0, none⟩) n n])[j]? = some u → w.cell? ⟨X, j, none⟩ = some u
theorem CkNew.ck {W0 : World} {X A I n : Nat} {xs : List Value} {w : World} (h : CkNew W0 X A I n xs w) : Ck W0 X A I n xs (w.setCell ⟨I, 0, none⟩ (.bool true)) 0 start where
  rw := Rw.first h.base h.geA h.geI h.AI h.rA h.rI
  XA := h.XA
  XI := h.XI
  ltX := by simp; exact h.ltX
  cells := fun j u hj => by rw [World.cell?_setCell_other _ _ _ _ (by simp [h.XI.symm])]; exact h.cells j u hj
theorem madeAC {W0 V : World} (hx : Ext W0 V) {X A I n : Nat} {xs : List Value} (arr : Array Value) (tX : TypeId) (hA : A = V.heap.size) (hI : I = V.heap.size + 1) (hX : X = V.heap.size + 2) (harr : arr.toList = xs ++ [.slice (some ⟨A, 0, none⟩) n n, .slice (some ⟨I, 0, none⟩) n n]) :
    CkNew W0 X A I n xs (((V.alloc (.cells (madeCells #[.slice none 0 0] n) 87)).alloc (.cells (madeCells #[.bool false] n) 4)).alloc (.cells arr tX)).drew where
  base := (((hx.alloc _).alloc _).alloc _).drew
  geA := by have := hx.size; omega
  geI := by have := hx.size; omega
  AI := by omega
  XA := by omega
  XI := by omega
  ltX := by simp; omega
  rA := by subst hA; exact (((World.rowIs_made V (.slice none 0 0) n 87).alloc _).alloc _).drew
  rI := by
    have h := (((World.rowIs_made (V.alloc (.cells (madeCells #[.slice none 0 0] n) 87)) (.bool false) n 4)).alloc (.cells arr tX)).drew
    have e : (V.alloc (.cells (madeCells #[.slice none 0 0] n) 87)).heap.size = I := by simp [hI]
    rw [e] at h; exact h
  cells := fun j u hj => by
    have e : ((V.alloc (.cells (madeCells #[.slice none 0 0] n) 87)).alloc (.cells (madeCells #[.bool false] n) 4)).heap.size = X := by simp [hX]
    rw [World.cell?_drew, cell_of_row _ X j arr tX (0, 0) (heap_alloc_at _ _ _ e.symm)]
    rw [← harr] at hj; simpa using hj
theorem madeCA {W0 V : World} (hx : Ext W0 V) {X A I n : Nat} {xs : List Value} (arr : Array Value) (tX : TypeId) (hA : A = V.heap.size + 1) (hI : I = V.heap.size) (hX : X = V.heap.size + 2) (harr : arr.toList = xs ++ [.slice (some ⟨A, 0, none⟩) n n, .slice (some ⟨I, 0, none⟩) n n]) :
    CkNew W0 X A I n xs (((V.alloc (.cells (madeCells #[.bool false] n) 4)).alloc (.cells (madeCells #[.slice none 0 0] n) 87)).alloc (.cells arr tX)).drew where
  base := (((hx.alloc _).alloc _).alloc _).drew
  geA := by have := hx.size; omega
  geI := by have := hx.size; omega
  AI := by omega
  XA := by omega
  XI := by omega
  ltX := by simp; omega
  rI := by subst hI; exact (((World.rowIs_made V (.bool false) n 4).alloc _).alloc _).drew
  rA := by
    have h := (((World.rowIs_made (V.alloc (.cells (madeCells #[.bool false] n) 4)) (.slice none 0 0) n 87)).alloc (.cells arr tX)).drew
    have e : (V.alloc (.cells (madeCells #[.bool false] n) 4)).heap.size = A := by simp [hA]
    rw [e] at h; exact h
  cells := fun j u hj => by
    have e : ((V.alloc (.cells (madeCells #[.bool false] n) 4)).alloc (.cells (madeCells #[.slice none 0 0] n) 87)).heap.size = X := by simp [hX]
    rw [World.cell?_drew, cell_of_row _ X j arr tX (0, 0) (heap_alloc_at _ _ _ e.symm)]
    rw [← harr] at hj; simpa using hj
end Go.Proofs.Ytipfcfaigbeakaa

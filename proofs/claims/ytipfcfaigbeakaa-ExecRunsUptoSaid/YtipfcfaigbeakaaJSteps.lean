/-
  The walks of the program's code: the steps of the checker (un, bin, branch).
  Conditions: the rows lie as the caller made them.
  The walks of the program's code: the steps of the checker (branch, load, save).
  Conditions: the rows lie as the caller made them.
-/
import Derived.Test.YtipfcfaigbeakaaMCodeWalkH
import Derived.Deep.RegionWith
namespace Go.Proofs.Ytipfcfaigbeakaa
open Go.RowKit
set_option maxRecDepth 100000

set_option maxHeartbeats 1000000 in
theorem stepUn_any {W0 : World} {c : CodeV} {kv iv bv : Value} {X A I : Nat} {w : World} {i : Nat} {st : Known} (h : Ck W0 X A I c.body.length (xcs c kv iv bv) w i st) (q : InsV) (hop : q.op = 4) (hi : i + 1 < c.body.length) (hn : c.body.length ≤ 60000) (v : Value) (l : List Int) (hv : Stk .u8 A I w v l) (hl : l.length ≤ 64) :
    Calls Try.prog 70 #[.pointer (some ⟨X, 0, none⟩), .int .i64 i, insA q, v] w (Flo W0 X A I c.body.length (xcs c kv iv bv) i (oneV c q i st l) w) := by
  obtain ⟨op, n, k⟩ := q
  simp only at hop
  subst hop
  have hA := h.rw.ltA
  have hI := h.rw.ltI
  have hx : Ext w ((w.alloc (.cells #[.int .i64 4, .int .i64 n, .int .i64 k] 33)).alloc (.cells #[.int .i64 k] 3)) := ((Ext.refl _).alloc _).alloc _
  cases hp : popV l k with
  | none =>
    rw [oneV_none (by simp [stepV, hp])]
    go_enter Try.func70, Try.ntmps70
    go_wp2_with (first | (go_at_call 98; refine (pop1_no (hv.ext hx) k (SlC.fresh _ #[.int .i64 k] _ 1 _ (by simp) (by decide)) hp).mono ?_; rintro e w1 ⟨rfl, rfl⟩) | (go_at_call 99; refine (bvUn_any _ _ _ _).mono ?_; rintro e w1 ⟨rfl, hx1⟩; (first | (with_reducible obtain ⟨t2, rfl⟩ := Ext.tok2 hx1) | (obtain ⟨t2, rfl⟩ := Ext.tok hx1))))
    go_ret
    exact Flo.no h.rw.base (hx.extBy t2) rfl
  | some m =>
    cases hw : (unv n k 0).2
    · rw [oneV_none (by simp [stepV, hw])]
      go_enter Try.func70, Try.ntmps70
      go_wp2_with (first | (go_at_call 98; refine (pop1_yes (hv.ext hx) k (SlC.fresh _ #[.int .i64 k] _ 1 _ (by simp) (by decide)) hp).mono ?_; rintro e w1 ⟨u, rfl, rfl, hs0⟩) | (go_at_call 99; refine (bvUn_any _ _ _ _).mono ?_; rintro e w1 ⟨rfl, hx1⟩; (first | (with_reducible obtain ⟨t2, rfl⟩ := Ext.tok2 hx1) | (obtain ⟨t2, rfl⟩ := Ext.tok hx1))))
      go_ret
      exact Flo.no h.rw.base (hx.extBy t2) rfl
    · rw [oneV_next (m := m ++ [k]) (by simp [stepV, hp, hw]) (by simp) hi]
      have hkb : 0 ≤ k ∧ k < 256 := by
        unfold popV at hp
        split at hp
        · rename_i he; exact hv.2.1 k (List.mem_of_getLast? he)
        · cases hp
      have hml := popV_len hp
      go_enter Try.func70, Try.ntmps70
      go_wp2_with (first | (go_at_call 98; refine (pop1_yes (hv.ext hx) k (SlC.fresh _ #[.int .i64 k] _ 1 _ (by simp) (by decide)) hp).mono ?_; rintro e w1 ⟨u, rfl, rfl, hs0⟩) | (go_at_call 99; refine (bvUn_any _ _ _ _).mono ?_; rintro e w1 ⟨rfl, hx1⟩; (first | (with_reducible obtain ⟨t2, rfl⟩ := Ext.tok2 hx1) | (obtain ⟨t2, rfl⟩ := Ext.tok hx1))) | (go_at_call 97; refine (push_stk (hs0.ext (Ext.by _ t2)) (by simp; omega) (by simp; omega) (by omega) k (by omega)).mono ?_; rintro e w1 ⟨u, rfl, hs1, hx1⟩) | (go_at_call 96; refine (flow_at (h.ext ((hx.extBy t2).trans hx1)) _ (i + 1) (by simp) (by omega) u _ hs1).mono ?_; rintro e w2 hf; obtain ⟨b, rfl⟩ := hf.bool))
      go_ret
      exact hf.lift ((hx.extBy t2).trans hx1)

theorem bkind_bd {op k b : Int} (h : bkind op k = some b) (hk : 0 ≤ k ∧ k < 256) : 0 ≤ b ∧ b < 256 := by
  unfold bkind at h
  split at h
  · rename_i hb
    obtain rfl := Option.some.inj h
    unfold binv at hb ⊢
    split
    · rename_i ho
      unfold binr
      split <;> first | exact hk | (simp only; omega)
    · simp
  · cases h
theorem bvKind_yes {op k b : Int} (h : bkind op k = some b) (w : World) : Calls Try.prog 100 #[.int .i64 op, .int .i64 k] w fun e w' => e = .returned (.tuple #[.int .i64 b, .bool true]) ∧ Ext w w' := by
  refine (bvKind_any op k w).mono ?_
  rintro e w' ⟨rfl, hx⟩
  unfold bkind at h
  split at h
  · rename_i hb; rw [← Option.some.inj h, hb]; exact ⟨rfl, hx⟩
  · cases h
set_option maxHeartbeats 1000000 in
theorem stepBin_any {W0 : World} {c : CodeV} {kv iv bv : Value} {X A I : Nat} {w : World} {i : Nat} {st : Known} (h : Ck W0 X A I c.body.length (xcs c kv iv bv) w i st) (q : InsV) (hop : q.op = 5) (hi : i + 1 < c.body.length) (hn : c.body.length ≤ 60000) (v : Value) (l : List Int) (hv : Stk .u8 A I w v l) (hl : l.length ≤ 64) :
    Calls Try.prog 71 #[.pointer (some ⟨X, 0, none⟩), .int .i64 i, insA q, v] w (Flo W0 X A I c.body.length (xcs c kv iv bv) i (oneV c q i st l) w) := by
  obtain ⟨op, n, k⟩ := q
  simp only at hop
  subst hop
  have hA := h.rw.ltA
  have hI := h.rw.ltI
  have hx : Ext w ((w.alloc (.cells #[.int .i64 5, .int .i64 n, .int .i64 k] 33)).alloc (.cells #[.int .i64 k, .int .i64 k] 3)) := ((Ext.refl _).alloc _).alloc _
  cases hp : (popV l k).bind fun m => popV m k with
  | none =>
    have hs : stepV c ⟨5, n, k⟩ l = none := by
      simp only [stepV]
      cases h1 : popV l k with
      | none => simp
      | some m => rw [h1] at hp; simp only [Option.bind_some] at hp; simp [hp]
    rw [oneV_none hs]
    go_enter Try.func71, Try.ntmps71
    go_wp2_with (first | (go_at_call 98; refine (pop2_no (hv.ext hx) k (SlC.fresh _ #[.int .i64 k, .int .i64 k] _ 2 _ (by simp) (by decide)) hp).mono ?_; rintro e w1 ⟨rfl, rfl⟩) | (go_at_call 100; refine (bvKind_any _ _ _).mono ?_; rintro e w1 ⟨rfl, hx1⟩; (first | (with_reducible obtain ⟨t2, rfl⟩ := Ext.tok2 hx1) | (obtain ⟨t2, rfl⟩ := Ext.tok hx1))))
    go_ret
    exact Flo.no h.rw.base (hx.extBy t2) rfl
  | some m =>
    cases hw : (binv n k 0 0).2.2
    · have hs : stepV c ⟨5, n, k⟩ l = none := by
        simp only [stepV]
        cases h1 : popV l k with
        | none => simp
        | some m => rw [h1] at hp; simp only [Option.bind_some] at hp; simp [bkind, hw]
      rw [oneV_none hs]
      go_enter Try.func71, Try.ntmps71
      go_wp2_with (first | (go_at_call 98; refine (pop2_yes (hv.ext hx) k (SlC.fresh _ #[.int .i64 k, .int .i64 k] _ 2 _ (by simp) (by decide)) hp).mono ?_; rintro e w1 ⟨u, rfl, rfl, hs0⟩) | (go_at_call 100; refine (bvKind_any _ _ _).mono ?_; rintro e w1 ⟨rfl, hx1⟩; (first | (with_reducible obtain ⟨t2, rfl⟩ := Ext.tok2 hx1) | (obtain ⟨t2, rfl⟩ := Ext.tok hx1))))
      go_ret
      exact Flo.no h.rw.base (hx.extBy t2) rfl
    · have hbk : bkind n k = some (binv n k 0 0).2.1 := by simp [bkind, hw]
      have hs : stepV c ⟨5, n, k⟩ l = some (m ++ [(binv n k 0 0).2.1]) := by
        simp only [stepV]
        cases h1 : popV l k with
        | none => rw [h1] at hp; cases hp
        | some m => rw [h1] at hp; simp only [Option.bind_some] at hp; simp [hp, hbk]
      have hkb : 0 ≤ k ∧ k < 256 := by
        cases h1 : popV l k with
        | none => rw [h1] at hp; cases hp
        | some m =>
          unfold popV at h1
          split at h1
          · rename_i he; exact hv.2.1 k (List.mem_of_getLast? he)
          · cases h1
      have hml : m.length + 2 = l.length := by
        cases h1 : popV l k with
        | none => rw [h1] at hp; cases hp
        | some m => rw [h1] at hp; have := popV_len h1; have := popV_len hp; omega
      rw [oneV_next hs (by simp) hi]
      have hbb := bkind_bd hbk hkb
      have HB := Lib.hid hbk
      clear hbk hs hw
      generalize (binv n k 0 0).2.1 = kk at *
      go_enter Try.func71, Try.ntmps71
      go_wp2_with (first | (go_at_call 98; refine (pop2_yes (hv.ext hx) k (SlC.fresh _ #[.int .i64 k, .int .i64 k] _ 2 _ (by simp) (by decide)) hp).mono ?_; rintro e w1 ⟨u, rfl, rfl, hs0⟩) | (go_at_call 100; refine (bvKind_yes HB.out _).mono ?_; rintro e w1 ⟨rfl, hx1⟩; (first | (with_reducible obtain ⟨t2, rfl⟩ := Ext.tok2 hx1) | (obtain ⟨t2, rfl⟩ := Ext.tok hx1))) | (go_at_call 97; refine (push_stk (hs0.ext (Ext.by _ t2)) (by simp; omega) (by simp; omega) (by omega) kk (by omega)).mono ?_; rintro e w1 ⟨u, rfl, hs1, hx1⟩) | (go_at_call 96; refine (flow_at (h.ext ((hx.extBy t2).trans hx1)) _ (i + 1) (by simp) (by omega) u _ hs1).mono ?_; rintro e w2 hf; obtain ⟨b, rfl⟩ := hf.bool))
      go_ret
      exact hf.lift ((hx.extBy t2).trans hx1)
end Go.Proofs.Ytipfcfaigbeakaa

namespace Go.Proofs.Ytipfcfaigbeakaa
open Go.RowKit
set_option maxRecDepth 100000

theorem flow_no {W0 : World} {X A I n : Nat} {c0 c1 c2 c3 c5 c6 : Value} {sc : Int} {w : World} {i : Nat} {st : Known} (h : Ck W0 X A I n [c0, c1, c2, c3, .int .i64 sc, c5, c6] w i st) (t : Int) (to : Nat) (ht : t = to) (hi : i ≤ to) (v : Value) (l : List Int) (hv : Stk .u8 A I w v l) (hr : fl n sc st to l = none) :
    Calls Try.prog 96 #[.pointer (some ⟨X, 0, none⟩), .int .i64 t, v] w fun e w' => e = .returned (.bool false) ∧ Ext W0 w' ∧ Frm A I w w' ∧ w.heap.size ≤ w'.heap.size := by
  refine (flow_at h t to ht hi v l hv).mono ?_
  rintro e w' ⟨hx, hf, hs, ⟨_, rfl⟩ | ⟨st', h1, _⟩⟩
  · exact ⟨rfl, hx, hf, hs⟩
  · rw [hr] at h1; cases h1
theorem flow_yes {W0 : World} {X A I n : Nat} {c0 c1 c2 c3 c5 c6 : Value} {sc : Int} {w : World} {i : Nat} {st st' : Known} (h : Ck W0 X A I n [c0, c1, c2, c3, .int .i64 sc, c5, c6] w i st) (t : Int) (to : Nat) (ht : t = to) (hi : i ≤ to) (v : Value) (l : List Int) (hv : Stk .u8 A I w v l) (hr : fl n sc st to l = some st') :
    Calls Try.prog 96 #[.pointer (some ⟨X, 0, none⟩), .int .i64 t, v] w fun e w' => e = .returned (.bool true) ∧ Ck W0 X A I n [c0, c1, c2, c3, .int .i64 sc, c5, c6] w' i st' ∧ Frm A I w w' ∧ w.heap.size ≤ w'.heap.size := by
  refine (flow_at h t to ht hi v l hv).mono ?_
  rintro e w' ⟨hx, hf, hs, ⟨h1, _⟩ | ⟨st1, h1, rfl, h2⟩⟩
  · rw [hr] at h1; cases h1
  · rw [hr] at h1; obtain rfl := Option.some.inj h1; exact ⟨rfl, h2, hf, hs⟩

set_option maxHeartbeats 1000000 in
theorem stepBranch_any {W0 : World} {c : CodeV} {kv iv bv : Value} {X A I : Nat} {w : World} {i : Nat} {st : Known} (h : Ck W0 X A I c.body.length (xcs c kv iv bv) w i st) (hb : SlC W0 bv c.body.length (insCells c.body)) (q : InsV) (hq : c.body[i]? = some q) (hop : q.op = 8) (hn : c.body.length ≤ 60000) (v : Value) (l : List Int) (hv : Stk .u8 A I w v l) :
    Calls Try.prog 74 #[.pointer (some ⟨X, 0, none⟩), .int .i64 i, insA q, v] w (Flo W0 X A I c.body.length (xcs c kv iv bv) i (oneV c q i st l) w) := by
  obtain ⟨op, n, k⟩ := q
  simp only at hop
  subst hop
  have hx : Ext w ((w.alloc (.cells #[.int .i64 8, .int .i64 n, .int .i64 k] 33)).alloc (.cells #[.int .i64 1] 3)) := ((Ext.refl _).alloc _).alloc _
  have HQ := Lib.hid hq
  clear hq
  cases hp : popV l 1 with
  | none =>
    rw [oneV_none (by simp [stepV, hp])]
    have HP := Lib.hid hp
    clear hp
    by_cases hz : 0 ≤ n ∧ n < (c.body.length : Int) - i - 1
    · go_enter Try.func74, Try.ntmps74
      go_wp2_with (first | (go_at_call 98; refine (pop1_no (hv.ext hx) 1 (SlC.fresh _ #[.int .i64 1] _ 1 _ (by simp) (by decide)) HP.out).mono ?_; rintro e w1 ⟨rfl, rfl⟩) | (go_at_call 101; refine (target_yes (h.ext hx) hb hn _ HQ.out hz.1 hz.2).mono ?_; rintro e w1 ⟨rfl, hx1⟩; (first | (with_reducible obtain ⟨t2, rfl⟩ := Ext.tok2 hx1) | (obtain ⟨t2, rfl⟩ := Ext.tok hx1))))
      go_ret
      exact Flo.no h.rw.base (hx.extBy t2) rfl
    · go_enter Try.func74, Try.ntmps74
      go_wp2_with (first | (go_at_call 98; refine (pop1_no (hv.ext hx) 1 (SlC.fresh _ #[.int .i64 1] _ 1 _ (by simp) (by decide)) HP.out).mono ?_; rintro e w1 ⟨rfl, rfl⟩) | (go_at_call 101; refine (target_no (h.ext hx) hb hn _ HQ.out hz).mono ?_; rintro e w1 ⟨t, rfl, hx1⟩; (first | (with_reducible obtain ⟨t2, rfl⟩ := Ext.tok2 hx1) | (obtain ⟨t2, rfl⟩ := Ext.tok hx1))))
      go_ret
      exact Flo.no h.rw.base (hx.extBy t2) rfl
  | some m =>
    by_cases hz : 0 ≤ n ∧ n < (c.body.length : Int) - i - 1
    · by_cases hk : k = 0
      · rw [oneV_branch (m := m) (by simp [stepV, hk, hp]) rfl hz.1 hz.2]
        subst hk
        have HP := Lib.hid hp
        clear hp
        cases hr : fl c.body.length c.stack st (i + 1) m with
        | none =>
          have HR := Lib.hid hr
          clear hr
          rw [Option.bind_none]
          go_enter Try.func74, Try.ntmps74
          go_wp2_with (first | (go_at_call 98; refine (pop1_yes (hv.ext hx) 1 (SlC.fresh _ #[.int .i64 1] _ 1 _ (by simp) (by decide)) HP.out).mono ?_; rintro e w1 ⟨u, rfl, rfl, hs0⟩) | (go_at_call 101; refine (target_yes (h.ext hx) hb hn _ HQ.out hz.1 hz.2).mono ?_; rintro e w1 ⟨rfl, hx1⟩; (first | (with_reducible obtain ⟨t2, rfl⟩ := Ext.tok2 hx1) | (obtain ⟨t2, rfl⟩ := Ext.tok hx1))) | (go_at_call 96; refine (flow_no (h.ext (hx.extBy t2)) _ (i + 1) (by simp) (by omega) u _ (hs0.ext (Ext.by _ t2)) HR.out).mono ?_; rintro e w2 ⟨rfl, hx2, hf2, hs2⟩))
          go_ret
          exact ⟨hx2, (Frm.of_ext (hx.extBy t2)).trans hf2 (hx.extBy t2).size, Nat.le_trans (hx.extBy t2).size hs2, .inl ⟨rfl, rfl⟩⟩
        | some st1 =>
          have HR := Lib.hid hr
          clear hr
          rw [Option.bind_some]
          go_enter Try.func74, Try.ntmps74
          go_wp2_with (first | (go_at_call 98; refine (pop1_yes (hv.ext hx) 1 (SlC.fresh _ #[.int .i64 1] _ 1 _ (by simp) (by decide)) HP.out).mono ?_; rintro e w1 ⟨u, rfl, rfl, hs0⟩) | (go_at_call 101; refine (target_yes (h.ext hx) hb hn _ HQ.out hz.1 hz.2).mono ?_; rintro e w1 ⟨rfl, hx1⟩; (first | (with_reducible obtain ⟨t2, rfl⟩ := Ext.tok2 hx1) | (obtain ⟨t2, rfl⟩ := Ext.tok hx1))) | (go_at_call 96; with_reducible refine (flow_yes (h.ext (hx.extBy t2)) _ (i + 1) (by simp) (by omega) u _ (hs0.ext (Ext.by _ t2)) HR.out).mono ?_; rintro e w2 ⟨rfl, hk2, hf2, hs2⟩) | (go_at_call 96; refine (flow_at hk2 _ (i + 1 + n.toNat) (by omega) (by omega) u _ ((hs0.ext (Ext.by _ t2)).frm hf2)).mono ?_; rintro e w3 hf; obtain ⟨b, rfl⟩ := hf.bool))
          go_ret
          exact ⟨hf.1, ((Frm.of_ext (hx.extBy t2)).trans hf2 (hx.extBy t2).size).trans hf.2.1 (Nat.le_trans (hx.extBy t2).size hs2), Nat.le_trans (Nat.le_trans (hx.extBy t2).size hs2) hf.2.2.1, hf.2.2.2⟩
      · rw [oneV_none (by simp [stepV, hk])]
        have HP := Lib.hid hp
        clear hp
        have hk' : (k == 0) = false := by simpa using hk
        go_enter Try.func74, Try.ntmps74
        go_wp2_with (first | (go_at_call 98; refine (pop1_yes (hv.ext hx) 1 (SlC.fresh _ #[.int .i64 1] _ 1 _ (by simp) (by decide)) HP.out).mono ?_; rintro e w1 ⟨u, rfl, rfl, hs0⟩) | (go_at_call 101; refine (target_yes (h.ext hx) hb hn _ HQ.out hz.1 hz.2).mono ?_; rintro e w1 ⟨rfl, hx1⟩; (first | (with_reducible obtain ⟨t2, rfl⟩ := Ext.tok2 hx1) | (obtain ⟨t2, rfl⟩ := Ext.tok hx1))))
        go_ret
        exact Flo.no h.rw.base (hx.extBy t2) rfl
    · rw [oneV_out (.inr rfl) hz]
      have HP := Lib.hid hp
      clear hp
      go_enter Try.func74, Try.ntmps74
      go_wp2_with (first | (go_at_call 98; refine (pop1_yes (hv.ext hx) 1 (SlC.fresh _ #[.int .i64 1] _ 1 _ (by simp) (by decide)) HP.out).mono ?_; rintro e w1 ⟨u, rfl, rfl, hs0⟩) | (go_at_call 101; refine (target_no (h.ext hx) hb hn _ HQ.out hz).mono ?_; rintro e w1 ⟨t, rfl, hx1⟩; (first | (with_reducible obtain ⟨t2, rfl⟩ := Ext.tok2 hx1) | (obtain ⟨t2, rfl⟩ := Ext.tok hx1))))
      go_ret
      exact Flo.no h.rw.base (hx.extBy t2) rfl
end Go.Proofs.Ytipfcfaigbeakaa

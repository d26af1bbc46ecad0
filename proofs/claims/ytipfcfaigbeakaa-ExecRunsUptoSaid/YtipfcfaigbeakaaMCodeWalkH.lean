/-
  The walks of the program's code: the steps of the checker, one a kind of instruction.
  Conditions: the rows lie as the caller made them.
-/
import Derived.Test.YtipfcfaigbeakaaJCode
import Derived.Test.YtipfcfaigbeakaaMBvWalkD
namespace Go.Proofs.Ytipfcfaigbeakaa
open Go.RowKit
set_option maxRecDepth 100000

abbrev xcs (c : CodeV) (kv iv bv : Value) : List Value := [kv, .int .i64 c.ins, .int .i64 c.outs, .int .i64 c.cells, .int .i64 c.stack, iv, bv]
abbrev insA (q : InsV) : Value := .agg #[.int .i64 q.op, .int .i64 q.n, .int .i64 q.k]
theorem Flo.lift {W0 : World} {X A I n : Nat} {xs : List Value} {i : Nat} {r : Option Known} {w w1 w' : World} {e : Ending} (h : Flo W0 X A I n xs i r w1 e w') (hx : Ext w w1) : Flo W0 X A I n xs i r w e w' :=
  ⟨h.1, (Frm.of_ext hx).trans h.2.1 hx.size, Nat.le_trans hx.size h.2.2.1, h.2.2.2⟩
theorem Flo.bool {W0 : World} {X A I n : Nat} {xs : List Value} {i : Nat} {r : Option Known} {w w' : World} {e : Ending} (h : Flo W0 X A I n xs i r w e w') : ∃ b, e = .returned (.bool b) := by
  rcases h.2.2.2 with ⟨_, h⟩ | ⟨_, _, h, _⟩
  · exact ⟨_, h⟩
  · exact ⟨_, h⟩
theorem Flo.isNo {W0 : World} {X A I n : Nat} {xs : List Value} {i : Nat} {r : Option Known} {w w' : World} {e : Ending} (h : Flo W0 X A I n xs i r w e w') (hr : r = none) : e = .returned (.bool false) := by
  rcases h.2.2.2 with ⟨_, h⟩ | ⟨_, h1, _⟩
  · exact h
  · rw [hr] at h1; cases h1
theorem Flo.isYes {W0 : World} {X A I n : Nat} {xs : List Value} {i : Nat} {r : Option Known} {w w' : World} {e : Ending} {st : Known} (h : Flo W0 X A I n xs i r w e w') (hr : r = some st) : e = .returned (.bool true) ∧ Ck W0 X A I n xs w' i st := by
  rcases h.2.2.2 with ⟨h1, _⟩ | ⟨_, h1, h2, h3⟩
  · rw [hr] at h1; cases h1
  · rw [hr] at h1; obtain rfl := Option.some.inj h1; exact ⟨h2, h3⟩
theorem flow_at {W0 : World} {X A I n : Nat} {c0 c1 c2 c3 c5 c6 : Value} {sc : Int} {w : World} {i : Nat} {st : Known} (h : Ck W0 X A I n [c0, c1, c2, c3, .int .i64 sc, c5, c6] w i st) (t : Int) (to : Nat) (ht : t = to) (hi : i ≤ to) (v : Value) (l : List Int) (hv : Stk .u8 A I w v l) :
    Calls Try.prog 96 #[.pointer (some ⟨X, 0, none⟩), .int .i64 t, v] w (Flo W0 X A I n [c0, c1, c2, c3, .int .i64 sc, c5, c6] i (fl n sc st to l) w) := by
  subst ht; exact flow_any h to hi v l hv
theorem isk_bd {k n : Int} (h : isk k n = true) : 1 ≤ k ∧ k ≤ 9 := by
  refine Decidable.byContradiction fun hn => ?_
  have hw : width k = 0 := by unfold width; rw [if_neg (by omega), if_neg (by omega), if_neg (by omega), if_neg (by omega), if_neg (by omega)]
  unfold isk at h
  simp [hw] at h
theorem width_bd {k : Int} (h : 0 < width k) : 1 ≤ k ∧ k ≤ 9 := by
  refine Decidable.byContradiction fun hn => ?_
  have hw : width k = 0 := by unfold width; rw [if_neg (by omega), if_neg (by omega), if_neg (by omega), if_neg (by omega), if_neg (by omega)]
  omega
theorem SlC.fresh (w : World) (arr : Array Value) (e : TypeId) (n nb : Nat) (hn : nb = w.heap.size) (hm : n ≤ maxLen) : SlC (w.alloc (.cells arr e)) (.slice (some ⟨nb, 0, none⟩) n n) n arr.toList := by
  subst hn
  refine ⟨some ⟨w.heap.size, 0, none⟩, n, rfl, Nat.le_refl _, hm, fun j u hu => ⟨w.heap.size, 0, rfl, ?_⟩⟩
  rw [Nat.zero_add, cell_of_row _ _ j arr e (0, 0) (heap_alloc_last w _)]
  simpa using hu
theorem pop1_no {A I : Nat} {w : World} {v kv : Value} {l : List Int} (hs : Stk .u8 A I w v l) (k : Int) (hk : SlC w kv 1 (i64s [k])) (hp : popV l k = none) : Calls Try.prog 98 #[v, kv] w fun e w' => e = .returned (.tuple #[.slice none 0 0, .bool false]) ∧ w = w' := by
  refine (pop1_any hs k hk).mono ?_
  rintro e w' ⟨rfl, ⟨_, rfl⟩ | ⟨m, u, hr, _⟩⟩
  · exact ⟨rfl, rfl⟩
  · rw [hp] at hr; cases hr
theorem pop1_yes {A I : Nat} {w : World} {v kv : Value} {l m : List Int} (hs : Stk .u8 A I w v l) (k : Int) (hk : SlC w kv 1 (i64s [k])) (hp : popV l k = some m) : Calls Try.prog 98 #[v, kv] w fun e w' => ∃ u, e = .returned (.tuple #[u, .bool true]) ∧ w = w' ∧ Stk .u8 A I w u m := by
  refine (pop1_any hs k hk).mono ?_
  rintro e w' ⟨rfl, ⟨hr, rfl⟩ | ⟨m', u, hr, rfl, h⟩⟩
  · rw [hp] at hr; cases hr
  · rw [hp] at hr; obtain rfl := Option.some.inj hr; exact ⟨u, rfl, rfl, h⟩
theorem pop2_no {A I : Nat} {w : World} {v kv : Value} {l : List Int} (hs : Stk .u8 A I w v l) (k : Int) (hk : SlC w kv 2 (i64s [k, k])) (hp : ((popV l k).bind fun m => popV m k) = none) : Calls Try.prog 98 #[v, kv] w fun e w' => e = .returned (.tuple #[.slice none 0 0, .bool false]) ∧ w = w' := by
  refine (pop2_any hs k hk).mono ?_
  rintro e w' ⟨rfl, ⟨_, rfl⟩ | ⟨m, u, hr, _⟩⟩
  · exact ⟨rfl, rfl⟩
  · rw [hp] at hr; cases hr
theorem pop2_yes {A I : Nat} {w : World} {v kv : Value} {l m : List Int} (hs : Stk .u8 A I w v l) (k : Int) (hk : SlC w kv 2 (i64s [k, k])) (hp : ((popV l k).bind fun m => popV m k) = some m) : Calls Try.prog 98 #[v, kv] w fun e w' => ∃ u, e = .returned (.tuple #[u, .bool true]) ∧ w = w' ∧ Stk .u8 A I w u m := by
  refine (pop2_any hs k hk).mono ?_
  rintro e w' ⟨rfl, ⟨hr, rfl⟩ | ⟨m', u, hr, rfl, h⟩⟩
  · rw [hp] at hr; cases hr
  · rw [hp] at hr; obtain rfl := Option.some.inj hr; exact ⟨u, rfl, rfl, h⟩
theorem popV_len {l m : List Int} {k : Int} (h : popV l k = some m) : m.length + 1 = l.length := by
  unfold popV at h
  split at h
  · obtain rfl := Option.some.inj h
    cases l with
    | nil => simp at *
    | cons x l => simp
  · cases h
def insCells (b : List InsV) : List Value := b.flatMap fun q => [.int .i64 q.op, .int .i64 q.n, .int .i64 q.k]
theorem insCells_at : ∀ (b : List InsV) (i : Nat) (q : InsV), b[i]? = some q → (insCells b)[i * 3]? = some (.int .i64 q.op) ∧ (insCells b)[i * 3 + 1]? = some (.int .i64 q.n) ∧ (insCells b)[i * 3 + 2]? = some (.int .i64 q.k)
  | [], _, _, h => by simp at h
  | x :: b, 0, q, h => by simp at h; subst h; exact ⟨rfl, rfl, rfl⟩
  | x :: b, i + 1, q, h => by
    have := insCells_at b i q (by simpa using h)
    rw [show (i + 1) * 3 = i * 3 + 3 by omega]
    exact this
theorem target_ck {W0 : World} {c : CodeV} {kv iv bv : Value} {X A I : Nat} {w : World} {i : Nat} {st : Known} (h : Ck W0 X A I c.body.length (xcs c kv iv bv) w i st) (hb : SlC W0 bv c.body.length (insCells c.body)) (hn : c.body.length ≤ 60000) (q : InsV) (hq : c.body[i]? = some q) :
    Calls Try.prog 101 #[.pointer (some ⟨X, 0, none⟩), .int .i64 i] w fun e w' => e = .returned (.tuple #[.int .i64 (wrap64 ((i : Int) + 1 + q.n)), .bool (decide (0 ≤ q.n) && decide (q.n < (c.body.length : Int) - i - 1))]) ∧ Ext w w' := by
  have hi : i < c.body.length := (List.getElem?_eq_some_iff.1 hq).1
  obtain ⟨a, cap, e0, hnc, hcm, hc⟩ := hb
  obtain ⟨b, o, e1, hcell⟩ := hc (i * 3 + 1) _ (insCells_at c.body i q hq).2.1
  subst e1
  subst e0
  exact target_any X b o c.body.length cap i q.n w (h.cells 6 _ rfl) (by rw [Nat.add_assoc]; exact h.rw.base.cell hcell) hi hn
theorem target_yes {W0 : World} {c : CodeV} {kv iv bv : Value} {X A I : Nat} {w : World} {i : Nat} {st : Known} (h : Ck W0 X A I c.body.length (xcs c kv iv bv) w i st) (hb : SlC W0 bv c.body.length (insCells c.body)) (hn : c.body.length ≤ 60000) (q : InsV) (hq : c.body[i]? = some q) (h0 : 0 ≤ q.n) (h1 : q.n < (c.body.length : Int) - i - 1) :
    Calls Try.prog 101 #[.pointer (some ⟨X, 0, none⟩), .int .i64 i] w fun e w' => e = .returned (.tuple #[.int .i64 ((i + 1 + q.n.toNat : Nat) : Int), .bool true]) ∧ Ext w w' := by
  refine (target_ck h hb hn q hq).mono ?_
  rintro e w' ⟨rfl, hx⟩
  refine ⟨?_, hx⟩
  have e1 : wrap64 ((i : Int) + 1 + q.n) = ((i + 1 + q.n.toNat : Nat) : Int) := by rw [show (i : Int) + 1 + q.n = ((i + 1 + q.n.toNat : Nat) : Int) by omega]; exact nat64 (cap := 60000) (by omega) (by unfold maxLen; omega)
  rw [e1, decide_eq_true h0, decide_eq_true h1]
  rfl
theorem target_no {W0 : World} {c : CodeV} {kv iv bv : Value} {X A I : Nat} {w : World} {i : Nat} {st : Known} (h : Ck W0 X A I c.body.length (xcs c kv iv bv) w i st) (hb : SlC W0 bv c.body.length (insCells c.body)) (hn : c.body.length ≤ 60000) (q : InsV) (hq : c.body[i]? = some q) (h0 : ¬ (0 ≤ q.n ∧ q.n < (c.body.length : Int) - i - 1)) :
    Calls Try.prog 101 #[.pointer (some ⟨X, 0, none⟩), .int .i64 i] w fun e w' => ∃ t, e = .returned (.tuple #[.int .i64 t, .bool false]) ∧ Ext w w' := by
  refine (target_ck h hb hn q hq).mono ?_
  rintro e w' ⟨rfl, hx⟩
  refine ⟨wrap64 ((i : Int) + 1 + q.n), ?_, hx⟩
  rw [show (decide (0 ≤ q.n) && decide (q.n < (c.body.length : Int) - i - 1)) = false by
    cases hd : (decide (0 ≤ q.n) && decide (q.n < (c.body.length : Int) - i - 1)) with
    | false => rfl
    | true => simp only [Bool.and_eq_true, decide_eq_true_eq] at hd; exact absurd hd h0]
theorem bvKind_any (op k : Int) (w : World) : Calls Try.prog 100 #[.int .i64 op, .int .i64 k] w fun e w' => e = .returned (.tuple #[.int .i64 (binv op k 0 0).2.1, .bool (binv op k 0 0).2.2]) ∧ Ext w w' := by
  go_enter Try.func100, Try.ntmps100
  go_wp2_with (go_at_call 106; refine (bvBin_any op k 0 0 (by unfold I64; omega) _).mono ?_; rintro e w1 ⟨rfl, hx⟩; (first | (with_reducible obtain ⟨t2, rfl⟩ := Ext.tok2 hx) | (obtain ⟨t2, rfl⟩ := Ext.tok hx)))
  go_ret2
  exact ⟨rfl, (by repeat first | exact Ext.refl _ | assumption | refine Ext.drew ?_ | refine Ext.drewN ?_ _ | refine Ext.extBy ?_ _ | refine Ext.alloc ?_ _ | refine Ext.setCell ?_ (by simp; try omega) _ | (refine Ext.trans ?_ (by assumption)))⟩

set_option maxHeartbeats 1000000 in
theorem stepPush_any {W0 : World} {c : CodeV} {kv iv bv : Value} {X A I : Nat} {w : World} {i : Nat} {st : Known} (h : Ck W0 X A I c.body.length (xcs c kv iv bv) w i st) (q : InsV) (hop : q.op = 1) (hi : i + 1 < c.body.length) (hn : c.body.length ≤ 60000) (v : Value) (l : List Int) (hv : Stk .u8 A I w v l) (hl : l.length ≤ 64) :
    Calls Try.prog 67 #[.pointer (some ⟨X, 0, none⟩), .int .i64 i, insA q, v] w (Flo W0 X A I c.body.length (xcs c kv iv bv) i (oneV c q i st l) w) := by
  obtain ⟨op, n, k⟩ := q
  simp only at hop
  subst hop
  have hA := h.rw.ltA
  have hI := h.rw.ltI
  cases hk : isk k n
  · rw [oneV_none (by simp [stepV, hk])]
    go_enter Try.func67, Try.ntmps67
    go_wp2_with (first | (go_at_call 58; refine (bvIs_any _ _ _).mono ?_; rintro e w1 ⟨rfl, rfl⟩))
    go_ret
    exact Flo.no h.rw.base ((Ext.refl _).alloc _) rfl
  · rw [oneV_next (m := l ++ [k]) (by simp [stepV, hk]) (by simp) hi]
    have hb := isk_bd hk
    go_enter Try.func67, Try.ntmps67
    go_wp2_with (first | (go_at_call 58; refine (bvIs_any _ _ _).mono ?_; rintro e w1 ⟨rfl, rfl⟩) | (go_at_call 97; refine (push_stk (hv.ext ((Ext.refl _).alloc _)) (by simp; omega) (by simp; omega) hl k (by omega)).mono ?_; rintro e w1 ⟨u, rfl, hs1, hx1⟩) | (go_at_call 96; refine (flow_at (h.ext (((Ext.refl _).alloc _).trans hx1)) _ (i + 1) (by simp) (by omega) u _ hs1).mono ?_; rintro e w2 hf; obtain ⟨b, rfl⟩ := hf.bool))
    go_ret
    exact hf.lift (((Ext.refl _).alloc _).trans hx1)

theorem stepEnd_any {W0 : World} {c : CodeV} {kv iv bv : Value} {X A I : Nat} {w : World} {i : Nat} {st : Known} (h : Ck W0 X A I c.body.length (xcs c kv iv bv) w i st) (q : InsV) (hop : q.op = 9) (v : Value) (l : List Int) (hv : Stk .u8 A I w v l) (hl : l.length ≤ 64) (hst : 0 ≤ c.stack) :
    Calls Try.prog 75 #[.pointer (some ⟨X, 0, none⟩), .int .i64 i, insA q, v] w (Flo W0 X A I c.body.length (xcs c kv iv bv) i (oneV c q i st l) w) := by
  obtain ⟨op, n, k⟩ := q
  simp only at hop
  subst hop
  obtain ⟨a, cap, rfl, hnc, hcm, _⟩ := id hv.1
  have hln := nat64 hnc hcm
  have hx : Ext w (w.alloc (.cells #[.int .i64 9, .int .i64 n, .int .i64 k] 33)) := (Ext.refl _).alloc _
  by_cases hz : n = 0 ∧ k = 0 ∧ l = []
  · obtain ⟨rfl, rfl, rfl⟩ := hz
    rw [oneV_end (m := []) (by simp [stepV]) rfl (by simpa using hst)]
    go_enter Try.func75, Try.ntmps75
    go_wp2
    go_ret
    exact Flo.yes rfl (h.ext hx) (Frm.of_ext hx) hx.size
  · rw [oneV_none (by simp [stepV, hz])]
    by_cases h1 : n = 0
    · by_cases h2 : k = 0
      · have h3 : 0 < l.length := by
          cases l with
          | nil => exact absurd ⟨h1, h2, rfl⟩ hz
          | cons => simp
        have h3' : ((l.length : Int) == 0) = false := by rw [beq_eq_false_iff_ne]; omega
        subst h1 h2
        clear hz
        go_enter Try.func75, Try.ntmps75
        go_wp2
        go_ret
        exact Flo.no h.rw.base hx rfl
      · have h2' : (k == 0) = false := by simpa using h2
        subst h1
        clear hz
        go_enter Try.func75, Try.ntmps75
        go_wp2
        go_ret
        exact Flo.no h.rw.base hx rfl
    · have h1' : (n == 0) = false := by simpa using h1
      clear hz
      go_enter Try.func75, Try.ntmps75
      go_wp2
      go_ret
      exact Flo.no h.rw.base hx rfl

set_option maxHeartbeats 1000000 in
theorem stepJump_any {W0 : World} {c : CodeV} {kv iv bv : Value} {X A I : Nat} {w : World} {i : Nat} {st : Known} (h : Ck W0 X A I c.body.length (xcs c kv iv bv) w i st) (hb : SlC W0 bv c.body.length (insCells c.body)) (q : InsV) (hq : c.body[i]? = some q) (hop : q.op = 7) (hn : c.body.length ≤ 60000) (v : Value) (l : List Int) (hv : Stk .u8 A I w v l) :
    Calls Try.prog 73 #[.pointer (some ⟨X, 0, none⟩), .int .i64 i, insA q, v] w (Flo W0 X A I c.body.length (xcs c kv iv bv) i (oneV c q i st l) w) := by
  obtain ⟨op, n, k⟩ := q
  simp only at hop
  subst hop
  have hx : Ext w (w.alloc (.cells #[.int .i64 7, .int .i64 n, .int .i64 k] 33)) := (Ext.refl _).alloc _
  have HQ := Lib.hid hq
  clear hq
  by_cases hz : 0 ≤ n ∧ n < (c.body.length : Int) - i - 1
  · by_cases hk : k = 0
    · rw [oneV_jump (m := l) (by simp [stepV, hk]) rfl hz.1 hz.2]
      subst hk
      go_enter Try.func73, Try.ntmps73
      go_wp2_with (first | (go_at_call 101; refine (target_yes (h.ext hx) hb hn _ HQ.out hz.1 hz.2).mono ?_; rintro e w1 ⟨rfl, hx1⟩; (first | (with_reducible obtain ⟨t2, rfl⟩ := Ext.tok2 hx1) | (obtain ⟨t2, rfl⟩ := Ext.tok hx1))) | (go_at_call 96; refine (flow_at (h.ext (hx.extBy t2)) _ (i + 1 + n.toNat) (by omega) (by omega) v _ (hv.ext (hx.extBy t2))).mono ?_; rintro e w2 hf; obtain ⟨b, rfl⟩ := hf.bool))
      go_ret
      exact hf.lift (hx.extBy t2)
    · rw [oneV_none (by simp [stepV, hk])]
      have hk' : (k == 0) = false := by simpa using hk
      go_enter Try.func73, Try.ntmps73
      go_wp2_with (first | (go_at_call 101; refine (target_yes (h.ext hx) hb hn _ HQ.out hz.1 hz.2).mono ?_; rintro e w1 ⟨rfl, hx1⟩; (first | (with_reducible obtain ⟨t2, rfl⟩ := Ext.tok2 hx1) | (obtain ⟨t2, rfl⟩ := Ext.tok hx1))))
      go_ret
      exact Flo.no h.rw.base (hx.extBy t2) rfl
  · rw [oneV_out (.inl rfl) hz]
    go_enter Try.func73, Try.ntmps73
    go_wp2_with (first | (go_at_call 101; refine (target_no (h.ext hx) hb hn _ HQ.out hz).mono ?_; rintro e w1 ⟨t, rfl, hx1⟩; (first | (with_reducible obtain ⟨t2, rfl⟩ := Ext.tok2 hx1) | (obtain ⟨t2, rfl⟩ := Ext.tok hx1))))
    go_ret
    exact Flo.no h.rw.base (hx.extBy t2) rfl

set_option maxHeartbeats 1000000 in
theorem stepCast_any {W0 : World} {c : CodeV} {kv iv bv : Value} {X A I : Nat} {w : World} {i : Nat} {st : Known} (h : Ck W0 X A I c.body.length (xcs c kv iv bv) w i st) (q : InsV) (hop : q.op = 6) (hi : i + 1 < c.body.length) (hn : c.body.length ≤ 60000) (v : Value) (l : List Int) (hv : Stk .u8 A I w v l) (hl : l.length ≤ 64) :
    Calls Try.prog 72 #[.pointer (some ⟨X, 0, none⟩), .int .i64 i, insA q, v] w (Flo W0 X A I c.body.length (xcs c kv iv bv) i (oneV c q i st l) w) := by
  obtain ⟨op, n, k⟩ := q
  simp only at hop
  subst hop
  have hA := h.rw.ltA
  have hI := h.rw.ltI
  have hx : Ext w ((w.alloc (.cells #[.int .i64 6, .int .i64 n, .int .i64 k] 33)).alloc (.cells #[.int .i64 n] 3)) := ((Ext.refl _).alloc _).alloc _
  cases hp : popV l n with
  | none =>
    rw [oneV_none (by simp [stepV, hp])]
    go_enter Try.func72, Try.ntmps72
    go_wp2_with (first | (go_at_call 98; refine (pop1_no (hv.ext hx) n (SlC.fresh _ #[.int .i64 n] _ 1 _ (by simp) (by decide)) hp).mono ?_; rintro e w1 ⟨rfl, rfl⟩))
    go_ret
    exact Flo.no h.rw.base hx rfl
  | some m =>
    by_cases hw : 0 < width k
    · rw [oneV_next (m := m ++ [k]) (by simp [stepV, hp, hw]) (by simp) hi]
      have hkb := width_bd hw
      have hml := popV_len hp
      go_enter Try.func72, Try.ntmps72
      go_wp2_with (first | (go_at_call 98; refine (pop1_yes (hv.ext hx) n (SlC.fresh _ #[.int .i64 n] _ 1 _ (by simp) (by decide)) hp).mono ?_; rintro e w1 ⟨u, rfl, rfl, hs0⟩) | (go_at_call 65; refine (bvWidth_any _ _).mono ?_; rintro e w1 ⟨rfl, rfl⟩) | (go_at_call 97; refine (push_stk hs0 (by simp; omega) (by simp; omega) (by omega) k (by omega)).mono ?_; rintro e w1 ⟨u, rfl, hs1, hx1⟩) | (go_at_call 96; refine (flow_at (h.ext (hx.trans hx1)) _ (i + 1) (by simp) (by omega) u _ hs1).mono ?_; rintro e w2 hf; obtain ⟨b, rfl⟩ := hf.bool))
      go_ret
      exact hf.lift (hx.trans hx1)
    · rw [oneV_none (by simp [stepV, hw])]
      go_enter Try.func72, Try.ntmps72
      go_wp2_with (first | (go_at_call 98; refine (pop1_yes (hv.ext hx) n (SlC.fresh _ #[.int .i64 n] _ 1 _ (by simp) (by decide)) hp).mono ?_; rintro e w1 ⟨u, rfl, rfl, hs0⟩) | (go_at_call 65; refine (bvWidth_any _ _).mono ?_; rintro e w1 ⟨rfl, rfl⟩))
      go_ret
      exact Flo.no h.rw.base hx rfl
end Go.Proofs.Ytipfcfaigbeakaa

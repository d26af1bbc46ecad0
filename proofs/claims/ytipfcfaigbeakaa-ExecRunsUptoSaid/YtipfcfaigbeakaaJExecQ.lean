/-
  The walks of the document's machine: a tick that is refused.
  Conditions: the machine lies in memory as it is said.
  The walks of the document's machine: what its loop keeps.
  No condition.
-/
import Derived.Test.YtipfcfaigbeakaaJExecB
import Derived.Test.YtipfcfaigbeakaaJExecA
import Derived.Test.YtipfcfaigbeakaaMExecP
namespace Go.Proofs.Ytipfcfaigbeakaa
open Go.RowKit
set_option linter.unusedSimpArgs false
set_option linter.unusedVariables false
set_option maxRecDepth 100000

/-- The document's machine in memory. -/
structure RS (g : Nat) (c : CodeV) (kv iv bv lv : Value) (cs : List Int) (w : World) : Prop where
  box : BoxV g [kv, .int .i64 c.ins, .int .i64 c.outs, .int .i64 c.cells, .int .i64 c.stack, iv, bv, lv] w
  code : CodeIn w kv iv bv c
  cells : SlC w lv cs.length (i64s cs)
  nk : c.kinds ≠ [] → kv.ownBlock ≠ some g
  ni : c.init ≠ [] → iv.ownBlock ≠ some g
  nb : c.body ≠ [] → bv.ownBlock ≠ some g
abbrev codeL (c : CodeV) (kv iv bv : Value) : List Value := [kv, .int .i64 c.ins, .int .i64 c.outs, .int .i64 c.cells, .int .i64 c.stack, iv, bv]
theorem RS.ext {g : Nat} {c : CodeV} {kv iv bv lv : Value} {cs : List Int} {w w' : World} (h : RS g c kv iv bv lv cs w) (hx : Ext w w') : RS g c kv iv bv lv cs w' := ⟨h.box.ext hx, h.code.ext hx, h.cells.ext hx, h.nk, h.ni, h.nb⟩
set_option maxHeartbeats 2000000 in
theorem rtick_count {g : Nat} {c : CodeV} {kv iv bv lv insv : Value} {cs ins : List Int} {w : World} (h : RS g c kv iv bv lv cs w) (hins : SlC w insv ins.length (i64s ins)) (hl : (ins.length : Int) ≠ c.ins) :
    Calls Try.prog 31 #[.pointer (some ⟨g, 0, none⟩), insv] w fun e w' => e = .returned (.tuple #[.slice none 0 0, .int .i64 0, .int .i64 23]) ∧ Ext w w' := by
  obtain ⟨a, cap, rfl, h1, h2, -⟩ := hins
  obtain ⟨⟨ka, kcap, rfl, -⟩, ⟨ia, icap, rfl, -⟩, ⟨ba, bcap, rfl, -⟩⟩ := h.code
  have hln := nat64 h1 h2
  have q0 := h.box.cells 0 _ rfl
  have q1 := h.box.cells 1 _ rfl
  have q2 := h.box.cells 2 _ rfl
  have q3 := h.box.cells 3 _ rfl
  have q4 := h.box.cells 4 _ rfl
  have q5 := h.box.cells 5 _ rfl
  have q6 := h.box.cells 6 _ rfl
  have e1 : ((ins.length : Int) != c.ins) = true := by simpa using hl
  have e2 : ((ins.length : Int) == c.ins) = false := by simpa using hl
  clear h hl h1 h2
  go_enter Try.func31, Try.ntmps31
  go_wp2
  go_ret3
  exact ⟨rfl, (by repeat first | exact Ext.refl _ | assumption | refine Ext.drew ?_ | refine Ext.drewN ?_ _ | refine Ext.extBy ?_ _ | refine Ext.alloc ?_ _ | refine Ext.setCell ?_ (by simp; try omega) _ | (refine Ext.trans ?_ (by assumption)))⟩
set_option maxHeartbeats 2000000 in
theorem rtick_arg {g : Nat} {c : CodeV} {kv iv bv lv insv : Value} {cs ins : List Int} {w : World} (h : RS g c kv iv bv lv cs w) (hins : SlC w insv ins.length (i64s ins)) (hl : (ins.length : Int) = c.ins) (hk : ins.length ≤ c.kinds.length) (hkl : c.kinds.length ≤ 8000) (hok : insOk c ins = false) :
    Calls Try.prog 31 #[.pointer (some ⟨g, 0, none⟩), insv] w fun e w' => e = .returned (.tuple #[.slice none 0 0, .int .i64 0, .int .i64 1]) ∧ Ext w w' := by
  obtain ⟨a, cap, rfl, h1, h2, hc⟩ := hins
  obtain ⟨⟨ka, kcap, rfl, hk1, hk2, hkc⟩, ⟨ia, icap, rfl, -⟩, ⟨ba, bcap, rfl, -⟩⟩ := h.code
  have HC := Lib.hid hc
  have HK := Lib.hid hkc
  have q0 := h.box.cells 0 _ rfl
  have q1 := h.box.cells 1 _ rfl
  have q2 := h.box.cells 2 _ rfl
  have q3 := h.box.cells 3 _ rfl
  have q4 := h.box.cells 4 _ rfl
  have q5 := h.box.cells 5 _ rfl
  have q6 := h.box.cells 6 _ rfl
  have HO : Hid (okTo c ins ins.length = false) := Lib.hid hok
  rw [← hl] at q1
  obtain ⟨n, hn⟩ : ∃ n, n = ins.length := ⟨_, rfl⟩
  rw [← hn] at q1 hk HO ⊢
  have HN := Lib.hid hn
  obtain ⟨K, hK⟩ : ∃ K, K = c.kinds.length := ⟨_, rfl⟩
  rw [← hK] at hk q0 hkl
  have HKN := Lib.hid hK
  have hn8 : n ≤ 8000 := by omega
  clear h hl h1 h2 hc hok hn hk1 hk2 hkc hK
  go_enter Try.func31, Try.ntmps31
  go_upto_region 2 with fail
  have hx1 : Ext w (w.alloc (.cells #[.slice ka K kcap, .int .i64 (n : Int), .int .i64 c.outs, .int .i64 c.cells, .int .i64 c.stack, .slice ia c.init.length icap, .slice ba c.body.length bcap] 25)) := (Ext.refl w).alloc _
  have HB1 : Hid (∀ w', Ext (w.alloc (.cells #[.slice ka K kcap, .int .i64 (n : Int), .int .i64 c.outs, .int .i64 c.cells, .int .i64 c.stack, .slice ia c.init.length icap, .slice ba c.body.length bcap] 25)) w' → w'.cell? ⟨w.heap.size, 0, none⟩ = some (.slice ka K kcap) ∧ w'.cell? ⟨w.heap.size, 1, none⟩ = some (.int .i64 (n : Int))) := Lib.hid fun w' hx => by
    have h := (BoxV.of_row (heap_alloc_last w (.cells #[.slice ka K kcap, .int .i64 (n : Int), .int .i64 c.outs, .int .i64 c.cells, .int .i64 c.stack, .slice ia c.init.length icap, .slice ba c.body.length bcap] 25))).ext hx
    exact ⟨h.cells 0 _ rfl, h.cells 1 _ rfl⟩
  generalize w.alloc (.cells #[.slice ka K kcap, .int .i64 (n : Int), .int .i64 c.outs, .int .i64 c.cells, .int .i64 c.stack, .slice ia c.init.length icap, .slice ba c.body.length bcap] 25) = w1 at hx1 HB1 ⊢
  have HX1 := Lib.hid hx1
  have p1 := (HB1.out w1 (Ext.refl w1)).2
  clear hx1 q0 q1 q2 q3 q4 q5 q6
  go_wp2
  go_loopw [8] (fun x wr => ∃ k : Nat, k ≤ n ∧ x = .int .i64 k ∧ Ext w1 wr ∧ Hid (okTo c ins k = true)) (fun x _ => n - (intOf x).toNat)
  case atStart => exact ⟨0, Nat.zero_le _, rfl, Ext.refl _, Lib.hid rfl⟩
  case round =>
    obtain ⟨k, hkn, rfl, hxr, HT⟩ := hrel
    by_cases hlt : k < n
    · have hki : k < ins.length := by rw [← HN.out]; exact hlt
      have hkk : k < c.kinds.length := by rw [← HKN.out]; omega
      have hkK : (k : Int) < (K : Int) := by omega
      have hkn' : (k : Int) < (n : Int) := by omega
      have hk0 : (0 : Int) ≤ (k : Int) := by omega
      obtain ⟨x, hx⟩ : ∃ x, ins[k]? = some x := ⟨_, List.getElem?_eq_getElem hki⟩
      obtain ⟨y, hy⟩ : ∃ y, c.kinds[k]? = some y := ⟨_, List.getElem?_eq_getElem hkk⟩
      obtain ⟨b, o, rfl, c1⟩ := HC.out k (.int .i64 x) (by simp [hx])
      obtain ⟨b2, o2, rfl, c2⟩ := HK.out k (.int .i64 y) (by simp [hy])
      replace c1 := (HX1.out.trans hxr).cell c1
      replace c2 := (HX1.out.trans hxr).cell c2
      have p0 := (HB1.out wr hxr).1
      have HS : Hid (okTo c ins (k + 1) = isk y x) := Lib.hid (by rw [okTo_succ, HT.out]; simp [List.getD, hx, hy])
      clear hx hy
      cases hi : isk y x with
      | false =>
        go_wp2
        (refine region_drew (by kernel_rfl) (by kernel_rfl) ?_; (repeat (go_big_quiet_step (exact in_drew (refIs_any _ _ _)))); refine wpQuiet_nil ?_; rintro _ ⟨nq, rfl⟩)
        go_wp2
        go_ret3
        exact ⟨rfl, (HX1.out.trans hxr).trans (by repeat first | exact Ext.refl _ | assumption | refine Ext.drew ?_ | refine Ext.drewN ?_ _ | refine Ext.extBy ?_ _ | refine Ext.alloc ?_ _ | refine Ext.setCell ?_ (by simp; try omega) _ | (refine Ext.trans ?_ (by assumption)))⟩
      | true =>
        have HS' : Hid (okTo c ins (k + 1) = true) := Lib.hid (HS.out.trans hi)
        go_wp2
        (refine region_drew (by kernel_rfl) (by kernel_rfl) ?_; (repeat (go_big_quiet_step (exact in_drew (refIs_any _ _ _)))); refine wpQuiet_nil ?_; rintro _ ⟨nq, rfl⟩)
        go_wp2
        go_roundw
        case rel => exact ⟨k + 1, by omega, by go_num, (by repeat first | exact Ext.refl _ | assumption | refine Ext.drew ?_ | refine Ext.drewN ?_ _ | refine Ext.extBy ?_ _ | refine Ext.alloc ?_ _ | refine Ext.setCell ?_ (by simp; try omega) _ | (refine Ext.trans ?_ (by assumption))), HS'⟩
        case measure => simp [intOf]; omega
    · have : k = n := by omega
      subst this
      exact absurd (HT.out.symm.trans HO.out) (by decide)
end Go.Proofs.Ytipfcfaigbeakaa

namespace Go.Proofs.Ytipfcfaigbeakaa
open Go.RowKit
set_option linter.unusedSimpArgs false
set_option linter.unusedVariables false
set_option maxRecDepth 100000

theorem runv_unv (op k a : Int) : runv op k a = unv op k a := by
  cases hi : isk k a
  · simp [runv, unv, hi]
  · by_cases h1 : op = 1
    · subst h1
      by_cases hk : k = 1
      · subst hk; simp [runv, unv, hi, law_not, law_not1 hi]
      · simp [runv, unv, hi, hk, law_not]
    · by_cases h2 : op = 2
      · subst h2
        by_cases hk : k = 1 <;> simp [runv, unv, hi, hk]
      · simp [runv, unv, hi, h1, h2]
/-- What the loop keeps: the code's box, the slots' row, the stack's row, all new and apart. -/
structure RQ (w : World) (X b K : Nat) (cl : List Value) (tv : Value) (s t : List Int) (wr : World) : Prop where
  ext : Ext w wr
  box : BoxV X cl wr
  val : wr.ownsRow w.heap.size 3 1 (.slice (some ⟨b, 0, none⟩) K K) K (i64s s)
  stk : wr.ownsRow w.heap.size 3 1 tv t.length (i64s t)
  nb : tv.ownBlock ≠ some b
  nX : tv.ownBlock ≠ some X
  bX : b ≠ X
  lX : w.heap.size ≤ X
section
variable {w wr w' : World} {X b K : Nat} {cl : List Value} {tv : Value} {s t : List Int}
theorem RQ.more (h : RQ w X b K cl tv s t wr) (hx : Ext wr w') : RQ w X b K cl tv s t w' :=
  ⟨h.ext.trans hx, h.box.ext hx, ownsRow_ext h.val hx, ownsRow_ext h.stk hx, h.nb, h.nX, h.bX, h.lX⟩
theorem RQ.len (h : RQ w X b K cl tv s t wr) : s.length = K := by have := h.val.1; simpa using this
/-- The stack's row is written, or made anew. -/
theorem RQ.grown (h : RQ w X b K cl tv s t wr) {tv' : Value} {t' : List Int} (hr : w'.ownsRow w.heap.size 3 1 tv' t'.length (i64s t')) (hk : Kb tv.ownBlock.toList wr w') (hn : tv'.ownBlock = tv.ownBlock ∨ ∃ b', wr.heap.size ≤ b' ∧ tv'.ownBlock = some b') : RQ w X b K cl tv' s t' w' := by
  have hS : ∀ k ∈ tv.ownBlock.toList, w.heap.size ≤ k := fun k hk => (h.stk.lt k (Option.mem_toList.1 hk)).1
  refine ⟨hk.ext h.ext hS, h.box.kb hk (fun e => h.nX (Option.mem_toList.1 e)), hk.row h.val (fun k hk e => h.nb (by rw [Option.mem_toList.1 hk]; exact e.symm ▸ rfl)), hr, ?_, ?_, h.bX, h.lX⟩
  · rcases hn with e | ⟨b', hb', e⟩
    · rw [e]; exact h.nb
    · rw [e]; intro e2; have := (h.val.lt b rfl).2; have := Option.some.inj e2; omega
  · rcases hn with e | ⟨b', hb', e⟩
    · rw [e]; exact h.nX
    · rw [e]; intro e2; have := h.box.lt; have := Option.some.inj e2; omega
/-- The stack is cut. -/
theorem RQ.cut {tb : Nat} {n cap : Nat} (h : RQ w X b K cl (.slice (some ⟨tb, 0, none⟩) n cap) s t wr) (m : Nat) (hm : m ≤ t.length) (hn : n = t.length) : RQ w X b K cl (.slice (some ⟨tb, 0, none⟩) m cap) s (t.take m) wr := by
  subst hn
  have := own_shorter h.stk m hm
  rw [show (i64s t).take m = i64s (t.take m) from (List.map_take).symm] at this
  refine ⟨h.ext, h.box, h.val, ?_, h.nb, h.nX, h.bX, h.lX⟩
  rw [List.length_take, Nat.min_eq_left hm]; exact this
/-- A place of the stack is written. -/
theorem RQ.top {tb cap : Nat} (h : RQ w X b K cl (.slice (some ⟨tb, 0, none⟩) t.length cap) s t wr) (j : Nat) (hj : j < t.length) (v : Int) : RQ w X b K cl (.slice (some ⟨tb, 0, none⟩) t.length cap) s (t.set j v) (wr.setCell ⟨tb, j, none⟩ (.int .i64 v)) := by
  have := own_set1 h.stk j hj (.int .i64 v)
  rw [show (i64s t).set j (.int .i64 v) = i64s (t.set j v) from by simp [List.map_set]] at this
  refine h.grown ?_ (Kb.set wr tb j (by simp [Value.ownBlock]) _) (.inl rfl)
  rw [List.length_set]; exact this
/-- A slot is written. -/
theorem RQ.slot (h : RQ w X b K cl tv s t wr) (j : Nat) (hj : j < K) (v : Int) : RQ w X b K cl tv (s.set j v) t (wr.setCell ⟨b, j, none⟩ (.int .i64 v)) := by
  have := own_set1 h.val j hj (.int .i64 v)
  rw [show (i64s s).set j (.int .i64 v) = i64s (s.set j v) from by simp [List.map_set]] at this
  have hk : Kb [b] wr (wr.setCell ⟨b, j, none⟩ (.int .i64 v)) := Kb.set wr b j (by simp) _
  exact ⟨hk.ext h.ext (fun k hk => by rw [List.mem_singleton.1 hk]; exact (h.val.lt b rfl).1), h.box.other h.bX j _, this, hk.row h.stk (fun k hk => by rw [List.mem_singleton.1 hk]; exact h.nb), h.nb, h.nX, h.bX, h.lX⟩
/-- A value is pushed. -/
theorem RQ.pushed (h : RQ w X b K cl tv s t wr) {o : Obj} {M : Nat} {x : Int} {v1 : Value} (hM : M = t.length) (hown : w'.ownsRow w.heap.size 3 1 v1 (M + 1) (i64s t ++ [.int .i64 x])) (hg : (wr.alloc o).grownBy w' tv.ownBlock) (hat : v1.ownBlock = tv.ownBlock ∨ v1.ownBlock = some (wr.alloc o).heap.size) : RQ w X b K cl v1 s (t ++ [x]) w' := by
  subst hM
  refine (h.more ((Ext.refl wr).alloc o)).grown ?_ (Kb.grown hg (fun g e => Option.mem_toList.2 e)) (hat.imp id fun e => ⟨_, Nat.le_refl _, e⟩)
  rw [List.length_append, List.length_singleton, show i64s (t ++ [x]) = i64s t ++ [.int .i64 x] from List.map_append]
  exact hown
/-- A piece of a row of numbers, as a slice. -/
theorem own_sub {w : World} {base b K : Nat} {s : List Int} (h : w.ownsRow base 3 1 (.slice (some ⟨b, 0, none⟩) K K) K (i64s s)) (hK : K ≤ 1000000) (k m : Nat) (p : Addr) (hp : k < K → p = ⟨b, k, none⟩) (hk : k ≤ m) (hm : m ≤ K) :
    SlC w (.slice (some p) (m - k) (K - k)) (m - k) (i64s ((s.drop k).take (m - k))) := by
  refine ⟨some p, K - k, rfl, by omega, by unfold maxLen; omega, fun j u hu => ?_⟩
  have := own_piece h k m p (fun h => hp (by omega)) hk hm j u (by simpa [List.map_take, List.map_drop] using hu)
  have hj : j < m - k := by have := (List.getElem?_eq_some_iff.1 hu).1; simp at this; omega
  have e := hp (by omega)
  subst e
  exact ⟨b, k, rfl, by rw [show (⟨b, k, none⟩ : Addr).add j = ⟨b, k + j, none⟩ by by_cases h0 : j = 0 <;> simp [Addr.add, h0]] at this; exact this⟩
theorem set_last (r : List Int) (x v : Int) : (r ++ [x]).set r.length v = r ++ [v] := by simp
end
end Go.Proofs.Ytipfcfaigbeakaa

/-
  The walks of the program's code: a program's bytes.
  Conditions: what is written is no longer than a slice may be.
-/
import Derived.Test.YtipfcfaigbeakaaJNumber
import Derived.Test.YtipfcfaigbeakaaMCodeRefG
import Derived.Lib.SlBytesConst
namespace Go.Proofs.Ytipfcfaigbeakaa
open Go.RowKit
set_option maxRecDepth 100000

/-- What is written so far, and a block X of three numbers beside it. -/
def WrtX (base : Nat) (W0 : World) (X : Nat) (n0 n1 n2 : Int) (v : Value) (l : List Int) (w : World) : Prop :=
  Wrt base W0 v l w ∧ X < w.heap.size ∧ v.ownBlock ≠ some X ∧ w.cell? ⟨X, 0, none⟩ = some (.int .i64 n0) ∧ w.cell? ⟨X, 1, none⟩ = some (.int .i64 n1) ∧ w.cell? ⟨X, 2, none⟩ = some (.int .i64 n2)
theorem WrtX.new {base : Nat} {W0 : World} {v : Value} {l : List Int} {w : World} (h : Wrt base W0 v l w) (n0 n1 n2 : Int) (t : TypeId) : WrtX base W0 w.heap.size n0 n1 n2 v l (w.alloc (.cells #[.int .i64 n0, .int .i64 n1, .int .i64 n2] t)) :=
  ⟨h.step ((Ext.refl w).alloc _), by simp, fun e => by have := (h.1.lt _ e).2; omega, by go_simp, by go_simp, by go_simp⟩
theorem WrtX.step {base : Nat} {W0 : World} {X : Nat} {n0 n1 n2 : Int} {v : Value} {l : List Int} {w w' : World} (h : WrtX base W0 X n0 n1 n2 v l w) (hx : Ext w w') : WrtX base W0 X n0 n1 n2 v l w' :=
  ⟨h.1.step hx, Nat.lt_of_lt_of_le h.2.1 hx.size, h.2.2.1, hx.cell h.2.2.2.1, hx.cell h.2.2.2.2.1, hx.cell h.2.2.2.2.2⟩
theorem WrtX.three {base : Nat} {W0 : World} {X : Nat} {n0 n1 n2 : Int} {v : Value} {l : List Int} {w w' : World} (h : WrtX base W0 X n0 n1 n2 v l w) (hx : Ext w w') :
    w'.cell? ⟨X, 0, none⟩ = some (.int .i64 n0) ∧ w'.cell? ⟨X, 1, none⟩ = some (.int .i64 n1) ∧ w'.cell? ⟨X, 2, none⟩ = some (.int .i64 n2) := (h.step hx).2.2.2
theorem WrtX.number {base : Nat} {W0 : World} {X : Nat} {n0 n1 n2 : Int} {v : Value} {l : List Int} {w w1 : World} (h : WrtX base W0 X n0 n1 n2 v l w) (hx : Ext w w1) (hl : (numsB l).length ≤ 4000000000) {n : Int} (hn : I64 n) :
    Calls Try.prog 77 #[v, .int .i64 n] w1 fun e w' => ∃ v', e = .returned v' ∧ WrtX base W0 X n0 n1 n2 v' (l ++ [n]) w' := by
  have h1 := h.step hx
  refine (h1.1.number hl hn).mono ?_
  rintro e w' ⟨v', rfl, hW, hg, ho⟩
  refine ⟨v', rfl, hW, Nat.lt_of_lt_of_le h1.2.1 hg.size, ?_, hg.cell h1.2.2.2.1 (Ne.symm h1.2.2.1), hg.cell h1.2.2.2.2.1 (Ne.symm h1.2.2.1), hg.cell h1.2.2.2.2.2 (Ne.symm h1.2.2.1)⟩
  rcases ho with ho | ⟨g, ho, hge⟩
  · rw [ho]; exact h1.2.2.1
  · rw [ho]; intro e; have := Option.some.inj e; have := h1.2.1; omega
theorem len3 : ∀ (l : List InsV), (l.flatMap fun q => [q.op, q.n, q.k]).length = l.length * 3
  | [] => rfl
  | q :: l => by rw [List.flatMap_cons, List.length_append, len3 l, List.length_cons]; simp; omega
theorem marked_cell (w : World) (arr : Array Value) (e : TypeId) (fr : Nat × Nat) (nb j : Nat) (hn : nb = w.heap.size) : (w.alloc (.cells arr e fr)).cell? ⟨nb, j, none⟩ = arr[j]? := cell_of_row _ nb j arr e fr (heap_alloc_at _ _ _ hn)
set_option maxHeartbeats 2000000 in
theorem written_any (c : CodeV) (kv iv bv : Value) (w : World) (h : CodeIn w kv iv bv c) (hwf : CodeWf c) (hbl : c.body.length ≤ 60000) (hkl : c.kinds.length ≤ 8000) (hil : c.init.length ≤ 8000) :
    Calls Try.prog 48 #[codeA c kv iv bv] w fun e w' => ∃ v, e = .returned v ∧ w'.ownsRow w.heap.size 5 1 v (codeB c).length (u8s (codeB c)) ∧ Ext w w' := by
  obtain ⟨⟨ak, ck, rfl, hk1, hk2, hkc⟩, ⟨ai, ci, rfl, hi1, hi2, hic⟩, ⟨ab, cb, rfl, hb1, hb2, hbc⟩⟩ := id h
  have HK := Lib.hid hkc
  have HI := Lib.hid hic
  have HB := Lib.hid hbc
  have hln := nat64 hk1 hk2
  have hin := nat64 hi1 hi2
  have hbn := nat64 hb1 hb2
  clear hkc hic hbc hk1 hk2 hi1 hi2 hb1 hb2
  have i0 : ∀ (x0 x1 x2 x3 x4 : Value) w, (Instr.index 118 (.agg #[x0, x1, x2, x3, x4]) (.int .i64 0)).run Try.prog w = .ok x0 w := fun _ _ _ _ _ _ => by kernel_rfl
  have i1 : ∀ (x0 x1 x2 x3 x4 : Value) w, (Instr.index 118 (.agg #[x0, x1, x2, x3, x4]) (.int .i64 1)).run Try.prog w = .ok x1 w := fun _ _ _ _ _ _ => by kernel_rfl
  have i2 : ∀ (x0 x1 x2 x3 x4 : Value) w, (Instr.index 118 (.agg #[x0, x1, x2, x3, x4]) (.int .i64 2)).run Try.prog w = .ok x2 w := fun _ _ _ _ _ _ => by kernel_rfl
  have i3 : ∀ (x0 x1 x2 x3 x4 : Value) w, (Instr.index 118 (.agg #[x0, x1, x2, x3, x4]) (.int .i64 3)).run Try.prog w = .ok x3 w := fun _ _ _ _ _ _ => by kernel_rfl
  have i4 : ∀ (x0 x1 x2 x3 x4 : Value) w, (Instr.index 118 (.agg #[x0, x1, x2, x3, x4]) (.int .i64 4)).run Try.prog w = .ok x4 w := fun _ _ _ _ _ _ => by kernel_rfl
  have kc : Sem.run Try.prog (convert 38 38 (.slice (some ⟨w.heap.size + 1, 0, none⟩) 4 4)) ((w.alloc (.cells #[.slice ak c.kinds.length ck, .int .i64 c.ins, .int .i64 c.outs, .int .i64 c.cells, .int .i64 c.stack, .slice ai c.init.length ci, .slice ab c.body.length cb] 25)).alloc (.cells #[.int .u8 77, .int .u8 84, .int .u8 82, .int .u8 49] 5)) = .ok (.slice (some ⟨w.heap.size + 1, 0, none⟩) 4 4) ((w.alloc (.cells #[.slice ak c.kinds.length ck, .int .i64 c.ins, .int .i64 c.outs, .int .i64 c.cells, .int .i64 c.stack, .slice ai c.init.length ci, .slice ab c.body.length cb] 25)).alloc (.cells #[.int .u8 77, .int .u8 84, .int .u8 82, .int .u8 49] 5 (4, 5))) := by
    have := Lib.run_convert_bytes_const (P := Try.prog) (w.alloc (.cells #[.slice ak c.kinds.length ck, .int .i64 c.ins, .int .i64 c.outs, .int .i64 c.cells, .int .i64 c.stack, .slice ai c.init.length ci, .slice ab c.body.length cb] 25)) 38 5 #[.int .u8 77, .int .u8 84, .int .u8 82, .int .u8 49] 4 4 Try.underlying38 Try.underlying5
    have hs : (w.alloc (.cells #[.slice ak c.kinds.length ck, .int .i64 c.ins, .int .i64 c.outs, .int .i64 c.cells, .int .i64 c.stack, .slice ai c.init.length ci, .slice ab c.body.length cb] 25)).heap.size = w.heap.size + 1 := by simp
    rw [hs] at this
    exact this
  simp only [codeA]
  go_enter Try.func48, Try.ntmps48
  go_wp2
  refine wp_loop_rounds 6 ?_
  rw [rounds_succ]
  go_wp2_with (go_at_call 77; refine (number_full (w.heap.size + 2) (w.heap.size + 1) 4 (u8s [77, 84, 82, 49]) _ (by unfold I64; omega) _ rfl (fun j u hu => by rw [marked_cell _ _ _ _ _ _ (by simp)]; simpa using hu) (by simp) (by decide)).mono ?_; rintro e w1 ⟨v1, rfl, hown1, hb1⟩)
  have hs1 : w.heap.size + 2 ≤ w1.heap.size := by have := hb1.size; simp at this; omega
  have hW1 : Wrt (w.heap.size + 2) _ v1 [(c.kinds.length : Int)] w1 := ⟨by simpa [numsB] using hown1, hb1, hs1⟩
  have hI1 : I64 (c.kinds.length : Int) := by unfold I64; omega
  clear hown1 hb1
  rw [rounds_succ]
  go_wp2_with (go_at_call 77; refine (hW1.number (Nat.le_trans (numsB_len _ (by simp; exact hI1)) (by simp)) hwf.ins).mono ?_; rintro e w2 ⟨v2, rfl, hW2, -⟩)
  rw [rounds_succ]
  go_wp2_with (go_at_call 77; refine (hW2.number (Nat.le_trans (numsB_len _ (by simp; exact ⟨hI1, hwf.ins⟩)) (by simp)) hwf.outs).mono ?_; rintro e w3 ⟨v3, rfl, hW3, -⟩)
  rw [rounds_succ]
  go_wp2_with (go_at_call 77; refine (hW3.number (Nat.le_trans (numsB_len _ (by simp; exact ⟨hI1, hwf.ins, hwf.outs⟩)) (by simp)) hwf.cells).mono ?_; rintro e w4 ⟨v4, rfl, hW4, -⟩)
  rw [rounds_succ]
  go_wp2_with (go_at_call 77; refine (hW4.number (Nat.le_trans (numsB_len _ (by simp; exact ⟨hI1, hwf.ins, hwf.outs, hwf.cells⟩)) (by simp)) hwf.stack).mono ?_; rintro e w5 ⟨v5, rfl, hW5, -⟩)
  have hE5 : Ext (cbox w c (.slice ak c.kinds.length ck) (.slice ai c.init.length ci) (.slice ab c.body.length cb)) w5 := ((Ext.refl _).alloc _).trans (Below.mono hW5.2.1 (by simp))
  have hbx := BoxIs.of hE5
  obtain ⟨q0, q1, q2, q3, q4, q5, q6⟩ := id hbx
  have j0 : ∀ (x0 x1 : Value) w, (Instr.index 120 (.agg #[x0, x1]) (.int .i64 0)).run Try.prog w = .ok x0 w := fun _ _ _ => by kernel_rfl
  have j1 : ∀ (x0 x1 : Value) w, (Instr.index 120 (.agg #[x0, x1]) (.int .i64 1)).run Try.prog w = .ok x1 w := fun _ _ _ => by kernel_rfl
  clear i0 i1 i2 i3 i4 hW1 hW2 hW3 hW4 kc
  rw [rounds_succ]
  go_wp2
  refine wp_loop_rounds 3 ?_
  rw [rounds_succ]
  go_wp2
  have HALL : Hid (∀ n ∈ ([(c.kinds.length : Int), c.ins, c.outs, c.cells, c.stack] : List Int), I64 n) := Lib.hid (by simp; exact ⟨hI1, hwf.ins, hwf.outs, hwf.cells, hwf.stack⟩)
  go_loopw [3, 43] (fun b i wr => ∃ j : Nat, j ≤ c.kinds.length ∧ i = .int .i64 j ∧ Wrt (w.heap.size + 2) ((w.alloc (.cells #[.slice ak c.kinds.length ck, .int .i64 c.ins, .int .i64 c.outs, .int .i64 c.cells, .int .i64 c.stack, .slice ai c.init.length ci, .slice ab c.body.length cb] 25)).alloc (.cells #[.int .u8 77, .int .u8 84, .int .u8 82, .int .u8 49] 5 (4, 5))) b ([(c.kinds.length : Int), c.ins, c.outs, c.cells, c.stack] ++ c.kinds.take j) wr) (fun _ i _ => c.kinds.length - (intOf i).toNat)
  case atStart => exact ⟨0, Nat.zero_le _, rfl, by simpa using hW5⟩
  case round =>
    obtain ⟨j, hj, rfl, hW⟩ := hrel
    have hwr : Ext w _ := (((Ext.refl w).alloc _).alloc _).trans (Below.mono hW.2.1 (by simp))
    by_cases hlt : j < c.kinds.length
    · obtain ⟨x, hx⟩ : ∃ x, c.kinds[j]? = some x := ⟨_, List.getElem?_eq_getElem hlt⟩
      obtain ⟨b, o, rfl, hcell⟩ := HK.out j (.int .i64 x) (by simp [hx])
      have g1 := hwr.cell hcell
      have hxI := hwf.kinds x (List.mem_of_getElem? hx)
      have HTK : Hid (c.kinds.take (j + 1) = c.kinds.take j ++ [x]) := Lib.hid (by rw [List.take_add_one, hx]; rfl)
      have HLN : Hid ((numsB ([(c.kinds.length : Int), c.ins, c.outs, c.cells, c.stack] ++ c.kinds.take j)).length ≤ 4000000000) := Lib.hid (Nat.le_trans (numsB_len _ (fun n hn => (List.mem_append.1 hn).elim (HALL.out n) (fun h => hwf.kinds n (List.mem_of_mem_take h)))) (by simp; omega))
      clear hx hcell
      go_wp2_with (go_at_call 77; refine (hW.number HLN.out hxI).mono ?_; rintro e w6 ⟨v6, rfl, hW6, -⟩)
      go_roundw
      case rel => exact ⟨j + 1, by omega, by go_num, by rw [HTK.out, ← List.append_assoc]; exact hW6⟩
      case measure => simp [intOf]; omega
    · obtain rfl : j = c.kinds.length := by omega
      rw [List.take_length] at hW
      go_wp2
      rw [rounds_succ]
      go_wp2
      have HALL2 : Hid (∀ n ∈ ([(c.kinds.length : Int), c.ins, c.outs, c.cells, c.stack] ++ c.kinds : List Int), I64 n) := Lib.hid (fun n hn => (List.mem_append.1 hn).elim (HALL.out n) (hwf.kinds n))
      go_loopw [3, 43] (fun b i wr => ∃ j : Nat, j ≤ c.init.length ∧ i = .int .i64 j ∧ Wrt (w.heap.size + 2) ((w.alloc (.cells #[.slice ak c.kinds.length ck, .int .i64 c.ins, .int .i64 c.outs, .int .i64 c.cells, .int .i64 c.stack, .slice ai c.init.length ci, .slice ab c.body.length cb] 25)).alloc (.cells #[.int .u8 77, .int .u8 84, .int .u8 82, .int .u8 49] 5 (4, 5))) b (([(c.kinds.length : Int), c.ins, c.outs, c.cells, c.stack] ++ c.kinds) ++ c.init.take j) wr) (fun _ i _ => c.init.length - (intOf i).toNat)
      case atStart => exact ⟨0, Nat.zero_le _, rfl, by simpa using hW⟩
      case round =>
        obtain ⟨j, hj, rfl, hW⟩ := hrel
        have hwr : Ext w _ := (((Ext.refl w).alloc _).alloc _).trans (Below.mono hW.2.1 (by simp))
        by_cases hlt : j < c.init.length
        · obtain ⟨x, hx⟩ : ∃ x, c.init[j]? = some x := ⟨_, List.getElem?_eq_getElem hlt⟩
          obtain ⟨b, o, rfl, hcell⟩ := HI.out j (.int .i64 x) (by simp [hx])
          have g1 := hwr.cell hcell
          have hxI := hwf.init x (List.mem_of_getElem? hx)
          have HTK : Hid (c.init.take (j + 1) = c.init.take j ++ [x]) := Lib.hid (by rw [List.take_add_one, hx]; rfl)
          have HLN : Hid ((numsB (([(c.kinds.length : Int), c.ins, c.outs, c.cells, c.stack] ++ c.kinds) ++ c.init.take j)).length ≤ 4000000000) := Lib.hid (Nat.le_trans (numsB_len _ (fun n hn => (List.mem_append.1 hn).elim (HALL2.out n) (fun h => hwf.init n (List.mem_of_mem_take h)))) (by simp; omega))
          clear hx hcell
          go_wp2_with (go_at_call 77; refine (hW.number HLN.out hxI).mono ?_; rintro e w6 ⟨v6, rfl, hW6, -⟩)
          go_roundw
          case rel => exact ⟨j + 1, by omega, by go_num, by rw [HTK.out, ← List.append_assoc]; exact hW6⟩
          case measure => simp [intOf]; omega
        · obtain rfl : j = c.init.length := by omega
          rw [List.take_length] at hW
          have hbx := BoxIs.of (((Ext.refl (cbox w c (.slice ak c.kinds.length ck) (.slice ai c.init.length ci) (.slice ab c.body.length cb))).alloc _).trans (Below.mono hW.2.1 (by simp)))
          obtain ⟨p0, p1, p2, p3, p4, p5, p6⟩ := id hbx
          clear q0 q1 q2 q3 q4 q5 q6
          have hI2 : I64 (c.body.length : Int) := by unfold I64; omega
          have HALL3 : Hid (∀ n ∈ ([(c.kinds.length : Int), c.ins, c.outs, c.cells, c.stack] ++ c.kinds ++ c.init : List Int), I64 n) := Lib.hid (fun n hn => (List.mem_append.1 hn).elim (HALL2.out n) (hwf.init n))
          go_wp2
          rw [rounds_succ]
          go_wp2_with (go_at_call 77; refine (hW.number (Nat.le_trans (numsB_len _ HALL3.out) (by simp; omega)) hI2).mono ?_; rintro e w7 ⟨v7, rfl, hW7, -⟩; have r6 := (BoxIs.of (((Ext.refl (cbox w c (.slice ak c.kinds.length ck) (.slice ai c.init.length ci) (.slice ab c.body.length cb))).alloc _).trans (Below.mono hW7.2.1 (by simp)))).2.2.2.2.2.2)
          have HALL4 : Hid (∀ n ∈ (([(c.kinds.length : Int), c.ins, c.outs, c.cells, c.stack] ++ c.kinds ++ c.init ++ [(c.body.length : Int)]) : List Int), I64 n) := Lib.hid (fun n hn => (List.mem_append.1 hn).elim (HALL3.out n) (fun h => by rw [List.mem_singleton.1 h]; exact hI2))
          clear p0 p1 p2 p3 p4 p5 p6 r6
          go_loopw [3, 60] (fun b i wr => ∃ j : Nat, j ≤ c.body.length ∧ i = .int .i64 j ∧ Wrt (w.heap.size + 2) ((w.alloc (.cells #[.slice ak c.kinds.length ck, .int .i64 c.ins, .int .i64 c.outs, .int .i64 c.cells, .int .i64 c.stack, .slice ai c.init.length ci, .slice ab c.body.length cb] 25)).alloc (.cells #[.int .u8 77, .int .u8 84, .int .u8 82, .int .u8 49] 5 (4, 5))) b (([(c.kinds.length : Int), c.ins, c.outs, c.cells, c.stack] ++ c.kinds ++ c.init ++ [(c.body.length : Int)]) ++ (c.body.take j).flatMap fun q => [q.op, q.n, q.k]) wr) (fun _ i _ => c.body.length - (intOf i).toNat)
          case atStart => exact ⟨0, Nat.zero_le _, rfl, by simpa using hW7⟩
          case round =>
            obtain ⟨j, hj, rfl, hW⟩ := hrel
            have hwr : Ext w _ := (((Ext.refl w).alloc _).alloc _).trans (Below.mono hW.2.1 (by simp))
            by_cases hlt : j < c.body.length
            · obtain ⟨q, hq⟩ : ∃ q, c.body[j]? = some q := ⟨_, List.getElem?_eq_getElem hlt⟩
              have hcs := insCells_at c.body j q hq
              obtain ⟨b, o, rfl, g0⟩ := HB.out (j * 3) _ hcs.1
              obtain ⟨b', o', e0, g1⟩ := HB.out (j * 3 + 1) _ hcs.2.1
              simp only [Option.some.injEq, Addr.mk.injEq] at e0
              obtain ⟨rfl, rfl, -⟩ := e0
              obtain ⟨b', o', e0, g2⟩ := HB.out (j * 3 + 2) _ hcs.2.2
              simp only [Option.some.injEq, Addr.mk.injEq] at e0
              obtain ⟨rfl, rfl, -⟩ := e0
              replace g0 := hwr.cell g0
              replace g1 := hwr.cell g1
              replace g2 := hwr.cell g2
              rw [← Nat.add_assoc] at g1 g2
              have hqI := hwf.body q (List.mem_of_getElem? hq)
              have hI3 := hqI.1
              have hI4 := hqI.2.1
              have hI5 := hqI.2.2
              have HTK : Hid ((c.body.take (j + 1)).flatMap (fun q => [q.op, q.n, q.k]) = (c.body.take j).flatMap (fun q => [q.op, q.n, q.k]) ++ [q.op] ++ [q.n] ++ [q.k]) := Lib.hid (by rw [List.take_add_one, hq]; simp)
              have HLN : Hid ((numsB (([(c.kinds.length : Int), c.ins, c.outs, c.cells, c.stack] ++ c.kinds ++ c.init ++ [(c.body.length : Int)]) ++ (c.body.take j).flatMap fun q => [q.op, q.n, q.k])).length ≤ 3000000000) := Lib.hid (Nat.le_trans (numsB_len _ (fun n hn => (List.mem_append.1 hn).elim (HALL4.out n) (fun h => by
                obtain ⟨q', hq', hn'⟩ := List.mem_flatMap.1 h
                have hb := hwf.body q' (List.mem_of_mem_take hq')
                simp only [List.mem_cons, List.not_mem_nil, or_false] at hn'
                rcases hn' with rfl | rfl | rfl
                · exact hb.1
                · exact hb.2.1
                · exact hb.2.2))) (by have := len3 (c.body.take j)
                                      simp only [List.length_append, this, List.length_take]; simp; omega))
              have HLN1 : Hid ((numsB ((([(c.kinds.length : Int), c.ins, c.outs, c.cells, c.stack] ++ c.kinds ++ c.init ++ [(c.body.length : Int)]) ++ (c.body.take j).flatMap fun q => [q.op, q.n, q.k]) ++ [q.op])).length ≤ 3500000000) := Lib.hid (by rw [numsB_snoc, List.length_append]; have := HLN.out; have := numB_len hI3; omega)
              have HLN2 : Hid ((numsB (((([(c.kinds.length : Int), c.ins, c.outs, c.cells, c.stack] ++ c.kinds ++ c.init ++ [(c.body.length : Int)]) ++ (c.body.take j).flatMap fun q => [q.op, q.n, q.k]) ++ [q.op]) ++ [q.n])).length ≤ 3600000000) := Lib.hid (by rw [numsB_snoc, List.length_append]; have := HLN1.out; have := numB_len hI4; omega)
              obtain ⟨wo, rfl⟩ : ∃ wo : World, wo = wr := ⟨_, rfl⟩
              have hX0 := WrtX.new hW q.op q.n q.k 33
              clear hq hcs
              go_upto_region 20 with fail
              go_region_held3 (fun w' => w'.cell? ⟨wo.heap.size, 0, none⟩ = some (.int .i64 q.op) ∧ w'.cell? ⟨wo.heap.size, 1, none⟩ = some (.int .i64 q.n) ∧ w'.cell? ⟨wo.heap.size, 2, none⟩ = some (.int .i64 q.k))
                (first | exact hX3.three (by repeat first | exact Ext.refl _ | assumption | refine Ext.drew ?_ | refine Ext.drewN ?_ _ | refine Ext.extBy ?_ _ | refine Ext.alloc ?_ _ | refine Ext.setCell ?_ (by simp; try omega) _ | (refine Ext.trans ?_ (by assumption))) | exact hX2.three (by repeat first | exact Ext.refl _ | assumption | refine Ext.drew ?_ | refine Ext.drewN ?_ _ | refine Ext.extBy ?_ _ | refine Ext.alloc ?_ _ | refine Ext.setCell ?_ (by simp; try omega) _ | (refine Ext.trans ?_ (by assumption))) | exact hX1.three (by repeat first | exact Ext.refl _ | assumption | refine Ext.drew ?_ | refine Ext.drewN ?_ _ | refine Ext.extBy ?_ _ | refine Ext.alloc ?_ _ | refine Ext.setCell ?_ (by simp; try omega) _ | (refine Ext.trans ?_ (by assumption))) | exact hX0.three (by repeat first | exact Ext.refl _ | assumption | refine Ext.drew ?_ | refine Ext.drewN ?_ _ | refine Ext.extBy ?_ _ | refine Ext.alloc ?_ _ | refine Ext.setCell ?_ (by simp; try omega) _ | (refine Ext.trans ?_ (by assumption))))
                (first | (go_at_call 77; refine (hX2.number (by repeat first | exact Ext.refl _ | assumption | refine Ext.drew ?_ | refine Ext.drewN ?_ _ | refine Ext.extBy ?_ _ | refine Ext.alloc ?_ _ | refine Ext.setCell ?_ (by simp; try omega) _ | (refine Ext.trans ?_ (by assumption))) (Nat.le_trans HLN2.out (by decide)) hI5).mono ?_; rintro e w3 ⟨v3, rfl, hX3⟩) | (go_at_call 77; refine (hX1.number (by repeat first | exact Ext.refl _ | assumption | refine Ext.drew ?_ | refine Ext.drewN ?_ _ | refine Ext.extBy ?_ _ | refine Ext.alloc ?_ _ | refine Ext.setCell ?_ (by simp; try omega) _ | (refine Ext.trans ?_ (by assumption))) (Nat.le_trans HLN1.out (by decide)) hI4).mono ?_; rintro e w2 ⟨v2, rfl, hX2⟩) | (go_at_call 77; refine (hX0.number (by repeat first | exact Ext.refl _ | assumption | refine Ext.drew ?_ | refine Ext.drewN ?_ _ | refine Ext.extBy ?_ _ | refine Ext.alloc ?_ _ | refine Ext.setCell ?_ (by simp; try omega) _ | (refine Ext.trans ?_ (by assumption))) (Nat.le_trans HLN.out (by decide)) hI3).mono ?_; rintro e w1 ⟨v1, rfl, hX1⟩))
              all_goals
                go_wp2_with fail
                go_roundw
                case rel => exact ⟨j + 1, by omega, by go_num, by rw [HTK.out]; simpa only [List.append_assoc] using (hX3.step (by repeat first | exact Ext.refl _ | assumption | refine Ext.drew ?_ | refine Ext.drewN ?_ _ | refine Ext.extBy ?_ _ | refine Ext.alloc ?_ _ | refine Ext.setCell ?_ (by simp; try omega) _ | (refine Ext.trans ?_ (by assumption)))).1⟩
                case measure => simp [intOf]; omega
            · obtain rfl : j = c.body.length := by omega
              rw [List.take_length] at hW
              go_wp2
              go_ret
              refine ⟨_, rfl, ?_, hwr⟩
              have e1 : u8s (codeB c) = u8s ([77, 84, 82, 49] ++ numsB (([(c.kinds.length : Int), c.ins, c.outs, c.cells, c.stack] ++ c.kinds ++ c.init ++ [(c.body.length : Int)]) ++ c.body.flatMap fun (q : InsV) => [q.op, q.n, q.k])) := rfl
              have e2 : (codeB c).length = 4 + (numsB (([(c.kinds.length : Int), c.ins, c.outs, c.cells, c.stack] ++ c.kinds ++ c.init ++ [(c.body.length : Int)]) ++ c.body.flatMap fun (q : InsV) => [q.op, q.n, q.k])).length := by
                show ([77, 84, 82, 49] ++ numsB (([(c.kinds.length : Int), c.ins, c.outs, c.cells, c.stack] ++ c.kinds ++ c.init ++ [(c.body.length : Int)]) ++ c.body.flatMap fun (q : InsV) => [q.op, q.n, q.k])).length = _
                rw [List.length_append]; rfl
              rw [e1, e2]
              exact ownsRow_base hW.1 (by omega)
end Go.Proofs.Ytipfcfaigbeakaa

/-
  The walks of the document's own writer: a program's bytes.
  No condition.
-/
import Derived.Test.YtipfcfaigbeakaaMCodeRefN
import Derived.Test.YtipfcfaigbeakaaMCodeRefH
import Derived.Test.YtipfcfaigbeakaaJLaw
import Derived.Test.YtipfcfaigbeakaaJKit
import Derived.Deep.RegionHeld3
import Derived.Lib.SlBytesConst
namespace Go.Proofs.Ytipfcfaigbeakaa
open Go.RowKit
set_option linter.unusedSimpArgs false
set_option linter.unusedVariables false
set_option maxRecDepth 100000

/-- What lies beside the block of v stays. -/
def Past (v v' : Value) (w w' : World) : Prop := w.heap.size ≤ w'.heap.size ∧ ∀ g, g < w.heap.size → v.ownBlock ≠ some g → w'.heap[g]? = w.heap[g]? ∧ v'.ownBlock ≠ some g
theorem Past.grown {v v' : Value} {w w' : World} (hg : w.grownBy w' v.ownBlock) (hat : v'.ownBlock = v.ownBlock ∨ v'.ownBlock = some w.heap.size) : Past v v' w w' := by
  refine ⟨hg.size, fun g hl hne => ⟨hg.block g hl (Ne.symm hne), ?_⟩⟩
  rcases hat with h | h
  · rw [h]; exact hne
  · rw [h]; intro e; have := Option.some.inj e; omega
theorem Past.new {v v' : Value} {w w' : World} {e : TypeId} {k n : Nat} {cs : List Value} (ho : w'.ownsRow w.heap.size e k v' n cs) (hx : Ext w w') : Past v v' w w' :=
  ⟨hx.size, fun g hl _ => ⟨Below.block hx g hl, fun e => by have := (ho.lt g e).1; omega⟩⟩
theorem Past.ext {v : Value} {w w' : World} (hx : Ext w w') : Past v v w w' := ⟨hx.size, fun g hl hne => ⟨Below.block hx g hl, hne⟩⟩
/-- A slice that lies beside the block of v. -/
def Pend (v s : Value) (n : Nat) (cs : List Value) (w : World) : Prop := SlC w s n cs ∧ ∀ a m c, s = .slice (some a) m c → v.ownBlock ≠ some a.block ∧ a.block < w.heap.size
theorem Pend.past {v v' s : Value} {n : Nat} {cs : List Value} {w w' : World} (h : Pend v s n cs w) (hp : Past v v' w w') : Pend v' s n cs w' := by
  obtain ⟨⟨a, cap, rfl, h1, h2, hc⟩, hb⟩ := h
  refine ⟨⟨a, cap, rfl, h1, h2, fun j u hu => ?_⟩, fun a' m c e => ?_⟩
  · obtain ⟨b, o, rfl, hcell⟩ := hc j u hu
    obtain ⟨hne, hl⟩ := hb _ _ _ rfl
    exact ⟨b, o, rfl, (World.cell?_of_block (a := ⟨b, o + j, none⟩) (hp.2 b hl hne).1).trans hcell⟩
  · obtain ⟨hne, hl⟩ := hb _ _ _ e
    exact ⟨(hp.2 _ hl hne).2, Nat.lt_of_lt_of_le hl hp.1⟩
theorem Pend.ext {v s : Value} {n : Nat} {cs : List Value} {w w' : World} (h : Pend v s n cs w) (hx : Ext w w') : Pend v s n cs w' := h.past (Past.ext hx)
/-- A row that was made behind v's. -/
theorem Pend.new {v s : Value} {n base k : Nat} {t e : TypeId} {cs xs : List Value} {k' n' : Nat} {w w' : World} (hv : w.ownsRow base t k v n xs) (ho : w'.ownsRow w.heap.size e k' s n' cs) : Pend v s n' cs w' := by
  refine ⟨SlC.of_owns ho, fun a m c e => ?_⟩
  subst e
  have h1 := ho.lt a.block rfl
  exact ⟨fun h => by have := (hv.lt _ h).2; omega, h1.2⟩
theorem Pend.lit {v : Value} {n base k nb m : Nat} {t e : TypeId} {xs : List Value} {w : World} {arr : Array Value} (hv : w.ownsRow base t k v n xs) (hn : nb = w.heap.size) (hm : m ≤ maxLen) : Pend v (.slice (some ⟨nb, 0, none⟩) m m) m arr.toList (w.alloc (.cells arr e)) := by
  refine ⟨SlC.fresh w arr e m nb hn hm, fun a m' c e => ?_⟩
  simp only [Value.slice.injEq, Option.some.injEq] at e
  obtain ⟨rfl, -, -⟩ := e
  refine ⟨fun h => ?_, by simp; omega⟩
  have := (hv.lt _ h).2
  simp at this; omega
theorem own_full {w : World} {g base n k : Nat} {arr : Array Value} {e : TypeId} (hg : w.heap[g]? = some (.cells arr e (0, 0))) (hb : base ≤ g) (hn : arr.size = n * k) (hm : n ≤ maxLen) : w.ownsRow base e k (.slice (some ⟨g, 0, none⟩) n n) n arr.toList :=
  ⟨by simpa using hn, .inr ⟨g, n, arr, rfl, hb, hg, Nat.le_refl _, hm, hn, by rw [List.take_of_length_le (by simp [hn])]⟩⟩
/-- What is written so far: the head as it was made, or a row of the call's own. -/
def WB (base : Nat) (v : Value) (l : List Int) (w : World) : Prop :=
  w.ownsRow base 5 1 v (4 + (numsB l).length) (u8s ([77, 84, 82, 49] ++ numsB l)) ∨ (l = [] ∧ ∃ g, v = .slice (some ⟨g, 0, none⟩) 4 4 ∧ ∀ (j : Nat) (u : Value), (u8s [77, 84, 82, 49])[j]? = some u → w.cell? ⟨g, j, none⟩ = some u)
theorem numB_pos (n : Int) : 0 < (numB n).length := by
  unfold numB
  by_cases h : zig n < 128
  · rw [digs_small h]; simp
  · rw [digs_big h]; simp
/-- A number's bytes appended to what is written so far. -/
theorem wpList_append_WB {P : Program} {ops : Array Oper} {rest : List Oper} {o : Oper} {a : Act} {wr : World} {Q : Exit → Act → World → Prop} (hP : P = Try.prog) (hgd : o.guard = none) (s x : Operand)
    (ho : o.op = .call { callee := .builtin .append, args := #[s, x], argTypes := #[38, 38] }) (base : Nat) (v : Value) (l : List Int) (hs : a.eval s = v) (hw : WB base v l wr) (xv : Value) (n : Int) (hxv : a.eval x = xv)
    (hx : SlC wr xv (numB n).length (u8s (numB n))) (hl : (numsB l).length ≤ 4000000000) (hn : I64 n) (hb : base ≤ wr.heap.size)
    (h : ∀ v' w', w'.ownsRow base 5 1 v' (4 + (numsB (l ++ [n])).length) (u8s ([77, 84, 82, 49] ++ numsB (l ++ [n]))) → Below base wr w' → Past v v' wr w' → wpList P ops Q rest (a.put o.dst v') w') :
    wpList P ops Q (o :: rest) a wr := by
  subst hP
  have hln := numB_len hn
  have e1 : 4 + (numsB l).length + (numB n).length = 4 + (numsB (l ++ [n])).length := by rw [numsB_snoc, List.length_append]; omega
  have e2 : u8s ([77, 84, 82, 49] ++ numsB l) ++ u8s (numB n) = u8s ([77, 84, 82, 49] ++ numsB (l ++ [n])) := by rw [numsB_snoc, ← List.map_append, List.append_assoc]
  have h1 : ∀ u ∈ u8s (numB n), u.oneCell' = true := by
    intro u hu
    obtain ⟨y, _, rfl⟩ := List.mem_map.1 hu
    rfl
  rcases hw with hown | ⟨rfl, g, rfl, hc⟩
  · refine wpList_append_slc wr hgd s x 38 ho base 5 (.int .u8 0) 1 1 Try.underlying38 infoByte rfl (by decide) v _ _ hs hown xv (numB n).length (u8s (numB n)) hxv hx (by simp) h1 (by unfold maxLen; omega) (by omega) hb ?_
    intro v' w' hown' hg hat
    rw [e1, e2] at hown'
    exact h v' w' hown' (below_grown (Below.refl base wr) (Nat.le_refl _) hb hown hg) (Past.grown hg hat)
  · refine wpList_grow_slc hgd s x 38 5 ho (.int .u8 0) 1 1 Try.underlying38 infoByte rfl (by decide) (some ⟨g, 0, none⟩) 4 (u8s [77, 84, 82, 49]) hs (fun h => by cases h) rfl (fun b hb j u hu => ?_) xv (numB n).length (u8s (numB n)) hxv hx (by simp) h1 (numB_pos n) (by unfold maxLen; omega) (by omega) ?_
    · cases hb
      exact add_cell (o := 0) (by rw [Nat.zero_add]; exact hc j u hu)
    · intro v' w' hown' hx'
      have hown2 := ownsRow_base hown' hb
      have e3 : 4 + (numB n).length = 4 + (numsB ([] ++ [n])).length := by rw [← e1]; rfl
      have e4 : u8s [77, 84, 82, 49] ++ u8s (numB n) = u8s ([77, 84, 82, 49] ++ numsB ([] ++ [n])) := by rw [← e2]; rfl
      rw [e3, e4] at hown2
      exact h v' w' hown2 (hx'.below hb) (Past.new hown' hx')
theorem WB.past {base : Nat} {v : Value} {l : List Int} {w w' : World} (h : WB base v l w) (hx : Ext w w') : WB base v l w' := by
  rcases h with h | ⟨rfl, g, rfl, hc⟩
  · exact .inl (ownsRow_ext h hx)
  · exact .inr ⟨rfl, g, rfl, fun j u hu => hx.cell (hc j u hu)⟩
theorem WrtX.past {base : Nat} {W0 : World} {X : Nat} {n0 n1 n2 n : Int} {v v' : Value} {l : List Int} {w w' : World} (h : WrtX base W0 X n0 n1 n2 v l w) (ho : w'.ownsRow base 5 1 v' (4 + (numsB (l ++ [n])).length) (u8s ([77, 84, 82, 49] ++ numsB (l ++ [n])))) (hb : Below base w w') (hp : Past v v' w w') :
    WrtX base W0 X n0 n1 n2 v' (l ++ [n]) w' := by
  obtain ⟨⟨_, h2, h3⟩, hX, hne, c0, c1, c2⟩ := h
  obtain ⟨hblk, hne'⟩ := hp.2 X hX hne
  exact ⟨⟨ho, Below.trans h2 hb, Nat.le_trans h3 hp.1⟩, Nat.lt_of_lt_of_le hX hp.1, hne', (World.cell?_of_block (a := ⟨X, 0, none⟩) hblk).trans c0, (World.cell?_of_block (a := ⟨X, 1, none⟩) hblk).trans c1, (World.cell?_of_block (a := ⟨X, 2, none⟩) hblk).trans c2⟩
theorem step_append_WX {P : Program} {ops : Array Oper} {o : Oper} {a : Act} {K : Act → World → Prop} {Q : Exit → Act → World → Prop} {E : Prop} (hP : P = Try.prog) (hgd : o.guard = none) (s x : Operand)
    (ho : o.op = .call { callee := .builtin .append, args := #[s, x], argTypes := #[38, 38] }) {base : Nat} {W0 : World} {X : Nat} {n0 n1 n2 : Int} {v : Value} {l : List Int} {w : World} (hX : WrtX base W0 X n0 n1 n2 v l w) (hs : a.eval s = v) (xv : Value) (n : Int) (hxv : a.eval x = xv)
    (hp : Pend v xv (numB n).length (u8s (numB n)) w) (hl : (numsB l).length ≤ 4000000000) (hn : I64 n) (h : ∀ v' w', WrtX base W0 X n0 n1 n2 v' (l ++ [n]) w' → Past v v' w w' → K (a.put o.dst v') w') :
    if Region.wanted o (yielded ops a.tmps) = true then Oper.wp P o a w K Q else E := by
  subst hP
  have hln := numB_len hn
  have e1 : 4 + (numsB l).length + (numB n).length = 4 + (numsB (l ++ [n])).length := by rw [numsB_snoc, List.length_append]; omega
  have e2 : u8s ([77, 84, 82, 49] ++ numsB l) ++ u8s (numB n) = u8s ([77, 84, 82, 49] ++ numsB (l ++ [n])) := by rw [numsB_snoc, ← List.map_append, List.append_assoc]
  have h1 : ∀ u ∈ u8s (numB n), u.oneCell' = true := by
    intro u hu
    obtain ⟨y, _, rfl⟩ := List.mem_map.1 hu
    rfl
  refine step_append_slc w hgd s x 38 ho base 5 (.int .u8 0) 1 1 Try.underlying38 infoByte rfl (by decide) v _ _ hs hX.1.1 xv (numB n).length (u8s (numB n)) hxv hp.1 (by simp) h1 (by unfold maxLen; omega) (by omega) hX.1.2.2 ?_
  intro v' w' hown' hg hat
  rw [e1, e2] at hown'
  have hpa := Past.grown hg hat
  exact h v' w' (hX.past hown' (below_grown (Below.refl base w) (Nat.le_refl _) hX.1.2.2 hX.1.1 hg) hpa) hpa
/-- What the document's writer puts down number by number. -/
def headN (c : CodeV) : List Int := [(c.kinds.length : Int), c.ins, c.outs, c.cells, c.stack] ++ c.kinds ++ c.init ++ [(c.body.length : Int)]
theorem headN_len (c : CodeV) : (headN c).length = 5 + c.kinds.length + c.init.length + 1 := by simp [headN]; omega
theorem headN_le {c : CodeV} (hk : c.kinds.length ≤ 8000) (hi : c.init.length ≤ 8000) : (headN c).length ≤ 16006 := by rw [headN_len]; omega
theorem headN_I64 {c : CodeV} (hwf : CodeWf c) (hk : c.kinds.length ≤ 8000) (hb : c.body.length ≤ 60000) : ∀ n ∈ headN c, I64 n := by
  have hI1 : I64 (c.kinds.length : Int) := by unfold I64; omega
  have hI2 : I64 (c.body.length : Int) := by unfold I64; omega
  intro n hn
  simp only [headN, List.mem_append, List.mem_cons, List.not_mem_nil, or_false] at hn
  rcases hn with ((h | h) | h) | h
  · rcases h with h | h | h | h | h
    · rw [h]; exact hI1
    · rw [h]; exact hwf.ins
    · rw [h]; exact hwf.outs
    · rw [h]; exact hwf.cells
    · rw [h]; exact hwf.stack
  · exact hwf.kinds n h
  · exact hwf.init n h
  · rw [h]; exact hI2
theorem headN_numsB {c : CodeV} (hwf : CodeWf c) (hk : c.kinds.length ≤ 8000) (hi : c.init.length ≤ 8000) (hb : c.body.length ≤ 60000) (j : Nat) : (numsB ((headN c).take j)).length ≤ 160100 := by
  refine Nat.le_trans (numsB_len _ (fun n hn => headN_I64 hwf hk hb n (List.mem_of_mem_take hn))) ?_
  have := headN_len c
  rw [List.length_take]; omega
theorem bodyN_numsB {c : CodeV} (hwf : CodeWf c) (hk : c.kinds.length ≤ 8000) (hi : c.init.length ≤ 8000) (hb : c.body.length ≤ 60000) (j : Nat) : (numsB (headN c ++ (c.body.take j).flatMap fun q => [q.op, q.n, q.k])).length ≤ 3000000000 := by
  refine Nat.le_trans (numsB_len _ (fun n hn => (List.mem_append.1 hn).elim (headN_I64 hwf hk hb n) (fun h => ?_))) ?_
  · obtain ⟨q', hq', hn'⟩ := List.mem_flatMap.1 h
    have hb := hwf.body q' (List.mem_of_mem_take hq')
    simp only [List.mem_cons, List.not_mem_nil, or_false] at hn'
    rcases hn' with h | h | h
    · rw [h]; exact hb.1
    · rw [h]; exact hb.2.1
    · rw [h]; exact hb.2.2
  · have h1 := headN_len c
    have h2 := len3 (c.body.take j)
    simp only [List.length_append, h2, List.length_take]
    omega
set_option maxHeartbeats 4000000 in
theorem refWrite_some (c : CodeV) (kv iv bv : Value) (w : World) (h : CodeIn w kv iv bv c) (hwf : CodeWf c) (h0 : chk c = 0) :
    Calls Try.prog 22 #[codeA c kv iv bv] w fun e w' => ∃ v, e = .returned (.tuple #[v, .int .i64 0]) ∧ w'.ownsRow w.heap.size 5 1 v (codeB c).length (u8s (codeB c)) ∧ Ext w w' := by
  obtain ⟨hbl, hkl, hil⟩ := chk_sizes h0
  have HC : Hid (∀ w', Ext w w' → Calls Try.prog 19 #[codeA c kv iv bv] w' fun e w1 => e = .returned (.int .i64 0) ∧ Ext w' w1) := Lib.hid fun w' hx => by
    have := refCheck_any c kv iv bv w' (h.ext hx)
    rw [h0] at this
    exact this
  obtain ⟨⟨ak, ck, rfl, hk1, hk2, hkc⟩, ⟨ai, ci, rfl, hi1, hi2, hic⟩, ⟨ab, cb, rfl, hb1, hb2, hbc⟩⟩ := id h
  have HI := Lib.hid h
  have hln := nat64 hk1 hk2
  have hin := nat64 hi1 hi2
  have hbn := nat64 hb1 hb2
  clear hkc hic hbc h h0 hk1 hk2 hi1 hi2 hb1 hb2
  simp only [codeA] at HC ⊢
  go_enter Try.func22, Try.ntmps22
  go_upto_region 4 with (first | (go_at_call 19; refine (HC.out _ (by repeat first | exact Ext.refl _ | assumption | refine Ext.drew ?_ | refine Ext.drewN ?_ _ | refine Ext.extBy ?_ _ | refine Ext.alloc ?_ _ | refine Ext.setCell ?_ (by simp; try omega) _ | (refine Ext.trans ?_ (by assumption)))).mono ?_; rintro e w1 ⟨rfl, hx1⟩; (first | (with_reducible obtain ⟨t1, rfl⟩ := Ext.tok2 hx1) | (obtain ⟨t1, rfl⟩ := Ext.tok hx1))))
  have hE1 : Ext (cbox w c (.slice ak c.kinds.length ck) (.slice ai c.init.length ci) (.slice ab c.body.length cb)) _ := Ext.by _ t1
  obtain ⟨q0, q1, q2, q3, q4, q5, q6⟩ := BoxIs.of hE1
  have hz1 : ((cbox w c (.slice ak c.kinds.length ck) (.slice ai c.init.length ci) (.slice ab c.body.length cb)).extBy t1).heap.size = w.heap.size + 1 + t1.n := by simp
  generalize (cbox w c (.slice ak c.kinds.length ck) (.slice ai c.init.length ci) (.slice ab c.body.length cb)).extBy t1 = w1 at q0 q1 q2 q3 q4 q5 q6 hE1 hz1 ⊢
  clear hz1
  have kc := Lib.run_convert_bytes_const (P := Try.prog) w1 38 5 #[.int .u8 77, .int .u8 84, .int .u8 82, .int .u8 49] 4 4 Try.underlying38 Try.underlying5
  go_upto_region 5 with fail
  have HBY : Hid (∀ w', Ext (w1.alloc (.cells #[.int .u8 77, .int .u8 84, .int .u8 82, .int .u8 49] 5 (4, 5))) w' → ∀ (j : Nat) (u : Value), (u8s [77, 84, 82, 49])[j]? = some u → w'.cell? ⟨w1.heap.size, j, none⟩ = some u) := Lib.hid fun w' hx j u hu => hx.cell (by rw [marked_cell _ _ _ _ _ _ rfl]; simpa using hu)
  have HBX : Hid (∀ w', Ext (w1.alloc (.cells #[.int .u8 77, .int .u8 84, .int .u8 82, .int .u8 49] 5 (4, 5))) w' → BoxIs w c (.slice ak c.kinds.length ck) (.slice ai c.init.length ci) (.slice ab c.body.length cb) w') := Lib.hid fun w' hx => BoxIs.of ((hE1.alloc _).trans hx)
  have HWX : Ext w (w1.alloc (.cells #[.int .u8 77, .int .u8 84, .int .u8 82, .int .u8 49] 5 (4, 5))) := (((Ext.refl w).alloc _).trans hE1).alloc _
  have hzx : (w1.alloc (.cells #[.int .u8 77, .int .u8 84, .int .u8 82, .int .u8 49] 5 (4, 5))).heap.size = w1.heap.size + 1 := by simp
  obtain ⟨q0, q1, q2, q3, q4, q5, q6⟩ := HBX.out _ (Ext.refl _)
  generalize w1.alloc (.cells #[.int .u8 77, .int .u8 84, .int .u8 82, .int .u8 49] 5 (4, 5)) = x at HBY HBX HWX hzx q0 q1 q2 q3 q4 q5 q6 ⊢
  obtain ⟨g0, hg0⟩ : ∃ g0, g0 = w1.heap.size := ⟨_, rfl⟩
  rw [← hg0] at HBY hzx ⊢
  have HZX := Lib.hid hzx
  clear kc hE1 hg0 hzx
  go_upto_region 6 with fail
  have hown2 : ((x.alloc (.cells #[.int .i64 (c.kinds.length : Int), .int .i64 c.ins, .int .i64 c.outs, .int .i64 c.cells, .int .i64 c.stack] 3)).drew).ownsRow x.heap.size 3 1 (.slice (some ⟨x.heap.size, 0, none⟩) 5 5) 5 [.int .i64 (c.kinds.length : Int), .int .i64 c.ins, .int .i64 c.outs, .int .i64 c.cells, .int .i64 c.stack] := ownsRow_ext (own_full (arr := #[.int .i64 (c.kinds.length : Int), .int .i64 c.ins, .int .i64 c.outs, .int .i64 c.cells, .int .i64 c.stack]) (heap_alloc_last x _) (Nat.le_refl _) rfl (by decide)) (Ext.refl _).drew
  have hlit2 : Pend (.slice (some ⟨x.heap.size, 0, none⟩) 5 5) (.slice (some ⟨x.heap.size + 1, 0, none⟩) 1 1) 1 [.int .i64 (c.body.length : Int)] (((x.alloc (.cells #[.int .i64 (c.kinds.length : Int), .int .i64 c.ins, .int .i64 c.outs, .int .i64 c.cells, .int .i64 c.stack] 3)).alloc (.cells #[.int .i64 (c.body.length : Int)] 3)).drew) :=
    (Pend.lit (arr := #[.int .i64 (c.body.length : Int)]) (own_full (arr := #[.int .i64 (c.kinds.length : Int), .int .i64 c.ins, .int .i64 c.outs, .int .i64 c.cells, .int .i64 c.stack]) (heap_alloc_last x _) (Nat.le_refl _) rfl (by decide) : (x.alloc (.cells #[.int .i64 (c.kinds.length : Int), .int .i64 c.ins, .int .i64 c.outs, .int .i64 c.cells, .int .i64 c.stack] 3)).ownsRow x.heap.size 3 1 (.slice (some ⟨x.heap.size, 0, none⟩) 5 5) 5 _) (by simp) (by decide)).ext (Ext.refl _).drew
  go_cut [6] (fun lv wx => wx.ownsRow x.heap.size 3 1 lv (headN c).length (i64s (headN c)) ∧ Ext x wx)
  case first =>
    go_region_held3 (fun w' => w'.cell? ⟨w.heap.size, 0, none⟩ = some (.slice ak c.kinds.length ck) ∧ w'.cell? ⟨w.heap.size, 5, none⟩ = some (.slice ai c.init.length ci) ∧ w'.cell? ⟨w.heap.size, 6, none⟩ = some (.slice ab c.body.length cb))
      (first | exact ⟨(HBX.out _ (by repeat first | exact Ext.refl _ | assumption | refine Ext.drew ?_ | refine Ext.drewN ?_ _ | refine Ext.extBy ?_ _ | refine Ext.alloc ?_ _ | refine Ext.setCell ?_ (by simp; try omega) _ | (refine Ext.trans ?_ (by assumption)))).1, (HBX.out _ (by repeat first | exact Ext.refl _ | assumption | refine Ext.drew ?_ | refine Ext.drewN ?_ _ | refine Ext.extBy ?_ _ | refine Ext.alloc ?_ _ | refine Ext.setCell ?_ (by simp; try omega) _ | (refine Ext.trans ?_ (by assumption)))).2.2.2.2.2.1, (HBX.out _ (by repeat first | exact Ext.refl _ | assumption | refine Ext.drew ?_ | refine Ext.drewN ?_ _ | refine Ext.extBy ?_ _ | refine Ext.alloc ?_ _ | refine Ext.setCell ?_ (by simp; try omega) _ | (refine Ext.trans ?_ (by assumption)))).2.2.2.2.2.2⟩)
      (first
        | (refine step_append_slc _ rfl (.tmp 29) (.tmp 31) 22 rfl x.heap.size 3 (.int .i64 0) 1 8 Try.underlying22 infoInt rfl (by decide) (.slice (some ⟨x.heap.size, 0, none⟩) 5 5) 5 [.int .i64 (c.kinds.length : Int), .int .i64 c.ins, .int .i64 c.outs, .int .i64 c.cells, .int .i64 c.stack] rfl (by first | exact hown2 | exact hown2.alloc _) _ c.kinds.length (i64s c.kinds) rfl (HI.out.kinds.ext (by repeat first | exact Ext.refl _ | assumption | refine Ext.drew ?_ | refine Ext.drewN ?_ _ | refine Ext.extBy ?_ _ | refine Ext.alloc ?_ _ | refine Ext.setCell ?_ (by simp; try omega) _ | (refine Ext.trans ?_ (by assumption)))) (by simp) (one_i64s c.kinds) (by unfold maxLen; omega) (by omega) (by first | (simp; done) | (simp; omega)) ?_; intro v3 w3 hown3 hg3 hat3; have hE3 : Ext x w3 := below_grown (base := x.heap.size) (show Below x.heap.size x _ from (by repeat first | exact Ext.refl _ | assumption | refine Ext.drew ?_ | refine Ext.drewN ?_ _ | refine Ext.extBy ?_ _ | refine Ext.alloc ?_ _ | refine Ext.setCell ?_ (by simp; try omega) _ | (refine Ext.trans ?_ (by assumption)))) (Nat.le_refl _) (by first | (simp; done) | (simp; omega)) (by first | exact hown2 | exact hown2.alloc _) hg3; have hp3 := Past.grown hg3 hat3; (first | have hpl := Pend.past hlit2 hp3 | skip))
        | (refine step_append_slc _ rfl (.tmp 32) (.tmp 34) 22 rfl x.heap.size 3 (.int .i64 0) 1 8 Try.underlying22 infoInt rfl (by decide) v3 (5 + c.kinds.length) ([.int .i64 (c.kinds.length : Int), .int .i64 c.ins, .int .i64 c.outs, .int .i64 c.cells, .int .i64 c.stack] ++ i64s c.kinds) rfl (by first | exact hown3 | exact hown3.alloc _) _ c.init.length (i64s c.init) rfl (HI.out.init.ext (by repeat first | exact Ext.refl _ | assumption | refine Ext.drew ?_ | refine Ext.drewN ?_ _ | refine Ext.extBy ?_ _ | refine Ext.alloc ?_ _ | refine Ext.setCell ?_ (by simp; try omega) _ | (refine Ext.trans ?_ (by assumption)))) (by simp) (one_i64s c.init) (by unfold maxLen; omega) (by omega) (by have := hE3.size; first | omega | (simp; omega)) ?_; intro v4 w4 hown4 hg4 hat4; have hE4 : Ext x w4 := below_grown (base := x.heap.size) (show Below x.heap.size x _ from (by repeat first | exact Ext.refl _ | assumption | refine Ext.drew ?_ | refine Ext.drewN ?_ _ | refine Ext.extBy ?_ _ | refine Ext.alloc ?_ _ | refine Ext.setCell ?_ (by simp; try omega) _ | (refine Ext.trans ?_ (by assumption)))) (Nat.le_refl _) (by have := hE3.size; first | omega | (simp; omega)) (by first | exact hown3 | exact hown3.alloc _) hg4; have hp4 := Past.grown hg4 hat4; (first | have hpl := Pend.past hpl hp4 | have hpl := Pend.past (Pend.lit (arr := #[.int .i64 (c.body.length : Int)]) hown3 rfl (show 1 ≤ maxLen by decide)) hp4 | skip))
        | (refine step_append_slc _ rfl (.tmp 35) (.tmp 39) 22 rfl x.heap.size 3 (.int .i64 0) 1 8 Try.underlying22 infoInt rfl (by decide) v4 (5 + c.kinds.length + c.init.length) ([.int .i64 (c.kinds.length : Int), .int .i64 c.ins, .int .i64 c.outs, .int .i64 c.cells, .int .i64 c.stack] ++ i64s c.kinds ++ i64s c.init) rfl (by first | exact hown4 | exact hown4.alloc _) _ 1 [.int .i64 (c.body.length : Int)] rfl (by first | exact hpl.1 | exact SlC.fresh _ #[.int .i64 (c.body.length : Int)] _ 1 _ rfl (by decide)) (by simp) (by simp [Value.oneCell']) (by unfold maxLen; omega) (by omega) (by have := hE4.size; first | omega | (simp; omega)) ?_; intro v5 w5 hown5 hg5 hat5; have hE5 : Ext x w5 := below_grown (base := x.heap.size) (show Below x.heap.size x _ from (by repeat first | exact Ext.refl _ | assumption | refine Ext.drew ?_ | refine Ext.drewN ?_ _ | refine Ext.extBy ?_ _ | refine Ext.alloc ?_ _ | refine Ext.setCell ?_ (by simp; try omega) _ | (refine Ext.trans ?_ (by assumption)))) (Nat.le_refl _) (by have := hE4.size; first | omega | (simp; omega)) (by first | exact hown4 | exact hown4.alloc _) hg5))
    all_goals
      go_wp2_with fail
      go_meet
      refine ⟨?_, hE5⟩
      have e1 : (headN c).length = 5 + c.kinds.length + c.init.length + 1 := by simp [headN]; omega
      have e2 : i64s (headN c) = [.int .i64 (c.kinds.length : Int), .int .i64 c.ins, .int .i64 c.outs, .int .i64 c.cells, .int .i64 c.stack] ++ i64s c.kinds ++ i64s c.init ++ [.int .i64 (c.body.length : Int)] := by simp [headN]
      rw [e1, e2]
      exact hown5
  case rest =>
    obtain ⟨hl6, hx6⟩ := hcut
    have hLn := headN_len c
    obtain ⟨la, lc, rfl, hl1, hl2, hlc⟩ := SlC.of_owns hl6
    obtain ⟨lb, lo, rfl, -⟩ := hlc 0 (.int .i64 (c.kinds.length : Int)) rfl
    have hlb := hl6.lt lb rfl
    have hll := nat64 hl1 hl2
    clear hl1 hl2
    have HPD : Pend (.slice (some ⟨g0, 0, none⟩) 4 4) (.slice (some ⟨lb, lo, none⟩) (headN c).length lc) (headN c).length (i64s (headN c)) wc := by
      refine ⟨SlC.of_owns hl6, fun a m c' e => ?_⟩
      simp only [Value.slice.injEq, Option.some.injEq] at e
      obtain ⟨rfl, -, -⟩ := e
      refine ⟨fun h => ?_, hlb.2⟩
      have e1 : g0 = lb := Option.some.inj h
      have := HZX.out
      omega
    have HALL : Hid (∀ n ∈ headN c, I64 n) := Lib.hid (headN_I64 hwf hkl hbl)
    have HNL : Hid (∀ j, (numsB ((headN c).take j)).length ≤ 160100) := Lib.hid (headN_numsB hwf hkl hil hbl)
    have HWB : Hid (WB x.heap.size (.slice (some ⟨g0, 0, none⟩) 4 4) [] wc) := Lib.hid (.inr ⟨rfl, g0, rfl, HBY.out wc hx6⟩)
    have HLN := Lib.hid hLn
    have hlm : (headN c).length ≤ 16006 := headN_le hkl hil
    clear hlc hl6 hlb hLn q0 q1 q2 q3 q4 q5 q6 hlit2 hown2
    go_wp2
    go_loopw [5, 7] (fun b i wr => ∃ j : Nat, j ≤ (headN c).length ∧ i = .int .i64 j ∧ WB x.heap.size b ((headN c).take j) wr ∧ Pend b (.slice (some ⟨lb, lo, none⟩) (headN c).length lc) (headN c).length (i64s (headN c)) wr ∧ Ext x wr) (fun _ i _ => (headN c).length - (intOf i).toNat)
    case atStart => exact ⟨0, Nat.zero_le _, rfl, HWB.out, HPD, hx6⟩
    case round =>
      obtain ⟨j, hj, rfl, hWB, hPD, hxr⟩ := hrel
      by_cases hlt : j < (headN c).length
      · obtain ⟨n, hn⟩ : ∃ n, (headN c)[j]? = some n := ⟨_, List.getElem?_eq_getElem hlt⟩
        obtain ⟨la', lc', e1, -, -, hlc⟩ := id hPD.1
        simp only [Value.slice.injEq] at e1
        obtain ⟨rfl, -, rfl⟩ := e1
        obtain ⟨lb', lo', e2, hcell⟩ := hlc j (.int .i64 n) (by simp [hn])
        simp only [Option.some.injEq, Addr.mk.injEq] at e2
        obtain ⟨rfl, rfl, -⟩ := e2
        have hnI := HALL.out n (List.mem_of_getElem? hn)
        have HTK : Hid ((headN c).take (j + 1) = (headN c).take j ++ [n]) := Lib.hid (by rw [List.take_add_one, hn]; rfl)
        have hsz := hxr.size
        clear hn hlc
        go_wp2_with (first
          | (go_at_call 49; refine (refNumber_any n hnI _).mono ?_; rintro e w6 ⟨v6, rfl, ho6, hx6'⟩)
          | (at_builtin; go_must (refine wpList_append_WB rfl rfl _ _ rfl x.heap.size _ ((headN c).take j) rfl (hWB.past hx6') _ n rfl (SlC.of_owns ho6) (Nat.le_trans (HNL.out j) (by decide)) hnI (by have := hx6'.size; omega) ?_; intro v7 w7 hown7 hb7 hp7)))
        go_roundw
        case rel => exact ⟨j + 1, by omega, by go_num, .inl (by rw [HTK.out]; exact hown7), (hPD.ext hx6').past hp7, Below.trans (hxr.trans hx6') hb7⟩
        case measure => simp [intOf]; omega
      · obtain rfl : j = (headN c).length := by omega
        rw [List.take_length] at hWB
        have hown := hWB.resolve_right (fun h => by have := congrArg List.length h.1; rw [headN_len] at this; simp at this)
        obtain ⟨bv, hbv⟩ : ∃ bv, bv = u5 := ⟨_, rfl⟩
        have hW0 : Wrt x.heap.size x u5 (headN c) wr := ⟨hown, hxr, hxr.size⟩
        obtain ⟨p0, p1, p2, p3, p4, p5, p6⟩ := HBX.out _ hxr
        have HALB : Hid (∀ j, (numsB (headN c ++ (c.body.take j).flatMap fun q => [q.op, q.n, q.k])).length ≤ 3000000000) := Lib.hid (bodyN_numsB hwf hkl hil hbl)
        clear hWB hPD hbv HNL HLN HALL hown
        go_wp2
        go_loopw [5, 8] (fun b i wr => ∃ j : Nat, j ≤ c.body.length ∧ i = .int .i64 j ∧ Wrt x.heap.size x b (headN c ++ (c.body.take j).flatMap fun q => [q.op, q.n, q.k]) wr) (fun _ i _ => c.body.length - (intOf i).toNat)
        case atStart => exact ⟨0, Nat.zero_le _, rfl, by simpa using hW0⟩
        case round =>
          clear hW0 hxr p0 p1 p2 p3 p4 p5 p6
          obtain ⟨j, hj, rfl, hW⟩ := hrel
          have hxr : Ext x _ := hW.2.1
          obtain ⟨p0, p1, p2, p3, p4, p5, p6⟩ := HBX.out _ hxr
          clear p0 p1 p2 p3 p4 p5
          by_cases hlt : j < c.body.length
          · obtain ⟨q, hq⟩ : ∃ q, c.body[j]? = some q := ⟨_, List.getElem?_eq_getElem hlt⟩
            have hcs := insCells_at c.body j q hq
            obtain ⟨ab', cb', e1, -, -, hbc⟩ := id (HI.out.body.ext (HWX.trans hxr))
            simp only [Value.slice.injEq] at e1
            obtain ⟨rfl, -, rfl⟩ := e1
            obtain ⟨b, o, rfl, g0'⟩ := hbc (j * 3) _ hcs.1
            obtain ⟨b', o', e0, g1'⟩ := hbc (j * 3 + 1) _ hcs.2.1
            simp only [Option.some.injEq, Addr.mk.injEq] at e0
            obtain ⟨rfl, rfl, -⟩ := e0
            obtain ⟨b', o', e0, g2'⟩ := hbc (j * 3 + 2) _ hcs.2.2
            simp only [Option.some.injEq, Addr.mk.injEq] at e0
            obtain ⟨rfl, rfl, -⟩ := e0
            rw [← Nat.add_assoc] at g1' g2'
            have hqI := hwf.body q (List.mem_of_getElem? hq)
            have hI3 := hqI.1
            have hI4 := hqI.2.1
            have hI5 := hqI.2.2
            have HTK : Hid ((c.body.take (j + 1)).flatMap (fun q => [q.op, q.n, q.k]) = (c.body.take j).flatMap (fun q => [q.op, q.n, q.k]) ++ [q.op] ++ [q.n] ++ [q.k]) := Lib.hid (by rw [List.take_add_one, hq]; simp)
            have HL0 : Hid ((numsB (headN c ++ (c.body.take j).flatMap fun q => [q.op, q.n, q.k])).length ≤ 3000000000) := Lib.hid (HALB.out j)
            have HL1 : Hid ((numsB ((headN c ++ (c.body.take j).flatMap fun q => [q.op, q.n, q.k]) ++ [q.op])).length ≤ 3000000010) := Lib.hid (by rw [numsB_snoc, List.length_append]; exact Nat.add_le_add HL0.out (numB_len hI3))
            have HL2 : Hid ((numsB ((headN c ++ (c.body.take j).flatMap fun q => [q.op, q.n, q.k]) ++ [q.op] ++ [q.n])).length ≤ 3000000020) := Lib.hid (by rw [numsB_snoc, List.length_append]; exact Nat.add_le_add HL1.out (numB_len hI4))
            obtain ⟨wo, rfl⟩ : ∃ wo : World, wo = wr := ⟨_, rfl⟩
            have hX0 := WrtX.new hW q.op q.n q.k 33
            clear hq hcs hbc hqI
            go_upto_region 15 with fail
            have hX := hX0.step (Ext.refl _).drew
            clear hX0 hW
            go_region_held3 (fun w' => w'.cell? ⟨wo.heap.size, 0, none⟩ = some (.int .i64 q.op) ∧ w'.cell? ⟨wo.heap.size, 1, none⟩ = some (.int .i64 q.n) ∧ w'.cell? ⟨wo.heap.size, 2, none⟩ = some (.int .i64 q.k))
              (exact hX.three (Ext.refl _))
              (first
                | (refine step_append_WX rfl rfl (.tmp 66) (.tmp 69) rfl hX rfl _ q.op rfl hp1 (Nat.le_trans HL0.out (by decide)) hI3 ?_; intro v2 w2 hX2 hP2; (first | replace hp2 := hp2.past hP2 | skip); (first | replace hp3 := hp3.past hP2 | skip); clear hX; have hX := hX2; clear hX2)
                | (refine step_append_WX rfl rfl (.tmp 70) (.tmp 73) rfl hX rfl _ q.n rfl hp2 (Nat.le_trans HL1.out (by decide)) hI4 ?_; intro v2 w2 hX2 hP2; (first | replace hp3 := hp3.past hP2 | skip); clear hX; have hX := hX2; clear hX2)
                | (refine step_append_WX rfl rfl (.tmp 74) (.tmp 77) rfl hX rfl _ q.k rfl hp3 (Nat.le_trans HL2.out (by decide)) hI5 ?_; intro v2 w2 hX2 hP2; clear hX; have hX := hX2; clear hX2)
                | (go_at_call 49; (with_reducible refine (refNumber_any q.op hI3 _).mono ?_); rintro e wk ⟨vk, rfl, hok, hxk⟩; have hp1 := Pend.new hX.1.1 hok; clear hok; replace hX := hX.step hxk)
                | (go_at_call 49; (with_reducible refine (refNumber_any q.n hI4 _).mono ?_); rintro e wk ⟨vk, rfl, hok, hxk⟩; have hp2 := Pend.new hX.1.1 hok; clear hok; (first | replace hp1 := hp1.ext hxk | skip); replace hX := hX.step hxk)
                | (go_at_call 49; (with_reducible refine (refNumber_any q.k hI5 _).mono ?_); rintro e wk ⟨vk, rfl, hok, hxk⟩; have hp3 := Pend.new hX.1.1 hok; clear hok; (first | replace hp1 := hp1.ext hxk | skip); (first | replace hp2 := hp2.ext hxk | skip); replace hX := hX.step hxk))
            all_goals
              go_wp2_with fail
              go_roundw
              case rel => exact ⟨j + 1, by omega, by go_num, by rw [HTK.out]; simpa only [List.append_assoc] using hX.1⟩
              case measure => simp [intOf]; omega
          · obtain rfl : j = c.body.length := by omega
            rw [List.take_length] at hW
            go_wp2
            go_ret2
            refine ⟨_, rfl, ?_, HWX.trans hxr⟩
            have e1 : u8s (codeB c) = u8s ([77, 84, 82, 49] ++ numsB (headN c ++ c.body.flatMap fun (q : InsV) => [q.op, q.n, q.k])) := rfl
            have e2 : (codeB c).length = 4 + (numsB (headN c ++ c.body.flatMap fun (q : InsV) => [q.op, q.n, q.k])).length := by
              show ([77, 84, 82, 49] ++ numsB (headN c ++ c.body.flatMap fun (q : InsV) => [q.op, q.n, q.k])).length = _
              rw [List.length_append]; rfl
            rw [e1, e2]
            exact ownsRow_base hW.1 HWX.size
/-- The document's writer writes what the program's does. -/
theorem refWrite_any (c : CodeV) (kv iv bv : Value) (w : World) (h : CodeIn w kv iv bv c) (hwf : CodeWf c) :
    Calls Try.prog 22 #[codeA c kv iv bv] w fun e w' => ∃ v, e = .returned (.tuple #[v, .int .i64 (chk c)]) ∧ w'.ownsRow w.heap.size 5 1 v (outB c).length (u8s (outB c)) ∧ Ext w w' := by
  by_cases h0 : chk c = 0
  · have e : outB c = codeB c := by unfold outB; rw [if_pos h0]
    rw [e, h0]
    exact refWrite_some c kv iv bv w h hwf h0
  · have e : outB c = [] := by unfold outB; rw [if_neg h0]
    rw [e]
    have HC : Hid (∀ w', Ext w w' → Calls Try.prog 19 #[codeA c kv iv bv] w' fun e w1 => e = .returned (.int .i64 (chk c)) ∧ Ext w' w1) := Lib.hid fun w' hx => refCheck_any c kv iv bv w' (h.ext hx)
    obtain ⟨y, hy⟩ : ∃ y, y = chk c := ⟨_, rfl⟩
    rw [← hy] at HC h0 ⊢
    have hb : (y != 0) = true := by simpa using h0
    clear hy e
    simp only [codeA] at HC ⊢
    go_enter Try.func22, Try.ntmps22
    go_wp2_with (first | (go_at_call 19; refine (HC.out _ (by repeat first | exact Ext.refl _ | assumption | refine Ext.drew ?_ | refine Ext.drewN ?_ _ | refine Ext.extBy ?_ _ | refine Ext.alloc ?_ _ | refine Ext.setCell ?_ (by simp; try omega) _ | (refine Ext.trans ?_ (by assumption)))).mono ?_; rintro e w1 ⟨rfl, hx1⟩; (first | (with_reducible obtain ⟨t1, rfl⟩ := Ext.tok2 hx1) | (obtain ⟨t1, rfl⟩ := Ext.tok hx1))))
    go_ret2
    exact ⟨_, rfl, own_nil _ _ _ _, (by repeat first | exact Ext.refl _ | assumption | refine Ext.drew ?_ | refine Ext.drewN ?_ _ | refine Ext.extBy ?_ _ | refine Ext.alloc ?_ _ | refine Ext.setCell ?_ (by simp; try omega) _ | (refine Ext.trans ?_ (by assumption)))⟩
end Go.Proofs.Ytipfcfaigbeakaa

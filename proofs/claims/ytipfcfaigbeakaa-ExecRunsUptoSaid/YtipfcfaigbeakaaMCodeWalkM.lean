/-
  The walks of the program's code: a step of the checker, of whatever kind; a program is asked.
  Conditions: the rows lie as the caller made them.
-/
import Derived.Test.YtipfcfaigbeakaaMCodeWalkL
import Derived.Deep.OwnRows
namespace Go.Proofs.Ytipfcfaigbeakaa
open Go.RowKit
set_option maxRecDepth 100000

def stepFn (op : Int) : FuncId := if op = 1 then 67 else if op = 2 then 68 else if op = 3 then 69 else if op = 4 then 70 else if op = 5 then 71 else if op = 6 then 72 else if op = 7 then 73 else if op = 8 then 74 else 75
theorem stepFn_at {op : Int} (h : 1 ≤ op ∧ op ≤ 9) : stepCells[op.toNat]? = some (.func (.func (stepFn op)) #[] #[]) := by
  rcases (show op = 1 ∨ op = 2 ∨ op = 3 ∨ op = 4 ∨ op = 5 ∨ op = 6 ∨ op = 7 ∨ op = 8 ∨ op = 9 by omega) with rfl | rfl | rfl | rfl | rfl | rfl | rfl | rfl | rfl <;> rfl
theorem stepFn_enter {op : Int} (h : 1 ≤ op ∧ op ≤ 9) (args : Array Value) (w : World) : Sem.run Try.prog (callFunc (stepFn op) args) w = .ok (.enter (stepFn op) args) w := by
  rcases (show op = 1 ∨ op = 2 ∨ op = 3 ∨ op = 4 ∨ op = 5 ∨ op = 6 ∨ op = 7 ∨ op = 8 ∨ op = 9 by omega) with rfl | rfl | rfl | rfl | rfl | rfl | rfl | rfl | rfl <;> kernel_rfl
theorem last_op {c : CodeV} (hf : Formed c) {i : Nat} {q : InsV} (hq : c.body[i]? = some q) (h9 : q.op ≠ 9) : i + 1 < c.body.length := by
  have hi := (List.getElem?_eq_some_iff.1 hq).1
  refine Decidable.byContradiction fun hn => ?_
  have e : i = c.body.length - 1 := by omega
  have := hf.last
  rw [List.getLast?_eq_getElem?, ← e, hq] at this
  simp at this
  exact h9 this
theorem kind_bd {c : CodeV} (hf : Formed c) : ∀ k ∈ c.kinds, 0 ≤ k ∧ k < 256 := by
  intro k hk
  obtain ⟨j, hj⟩ := List.getElem?_of_mem hk
  have h1 := hf.kinds j k hj
  have h2 := width_cases k
  have := width_bd (k := k) (by omega)
  omega
theorem step_any {W0 : World} {c : CodeV} {kv iv bv : Value} {X A I : Nat} {w : World} {i : Nat} {st : Known} (hin : CodeIn W0 kv iv bv c) (hf : Formed c) (hkl : c.kinds.length ≤ 8000) (hn : c.body.length ≤ 60000) (h : Ck W0 X A I c.body.length (xcs c kv iv bv) w i st) (q : InsV) (hq : c.body[i]? = some q) (v : Value) (l : List Int) (hv : Stk .u8 A I w v l) (hl : l.length ≤ 64) :
    Calls Try.prog (stepFn q.op) #[.pointer (some ⟨X, 0, none⟩), .int .i64 i, insA q, v] w (Flo W0 X A I c.body.length (xcs c kv iv bv) i (oneV c q i st l) w) := by
  have ho := hf.ops i q hq
  have hl1 := last_op hf hq
  unfold stepFn
  rcases (show q.op = 1 ∨ q.op = 2 ∨ q.op = 3 ∨ q.op = 4 ∨ q.op = 5 ∨ q.op = 6 ∨ q.op = 7 ∨ q.op = 8 ∨ q.op = 9 by omega) with e | e | e | e | e | e | e | e | e
  · rw [if_pos e]; exact stepPush_any h q e (hl1 (by omega)) hn v l hv hl
  · rw [if_neg (by omega), if_pos e]; exact stepLoad_any h hin.kinds (kind_bd hf) hkl q e (hl1 (by omega)) hn v l hv hl
  · rw [if_neg (by omega), if_neg (by omega), if_pos e]; exact stepSave_any h hin.kinds hf.ins hkl q e (hl1 (by omega)) hn v l hv hl
  · rw [if_neg (by omega), if_neg (by omega), if_neg (by omega), if_pos e]; exact stepUn_any h q e (hl1 (by omega)) hn v l hv hl
  · rw [if_neg (by omega), if_neg (by omega), if_neg (by omega), if_neg (by omega), if_pos e]; exact stepBin_any h q e (hl1 (by omega)) hn v l hv hl
  · rw [if_neg (by omega), if_neg (by omega), if_neg (by omega), if_neg (by omega), if_neg (by omega), if_pos e]; exact stepCast_any h q e (hl1 (by omega)) hn v l hv hl
  · rw [if_neg (by omega), if_neg (by omega), if_neg (by omega), if_neg (by omega), if_neg (by omega), if_neg (by omega), if_pos e]; exact stepJump_any h hin.body q hq e hn v l hv
  · rw [if_neg (by omega), if_neg (by omega), if_neg (by omega), if_neg (by omega), if_neg (by omega), if_neg (by omega), if_neg (by omega), if_pos e]; exact stepBranch_any h hin.body q hq e hn v l hv
  · rw [if_neg (by omega), if_neg (by omega), if_neg (by omega), if_neg (by omega), if_neg (by omega), if_neg (by omega), if_neg (by omega), if_neg (by omega)]; exact stepEnd_any h q e v l hv hl hf.stack

theorem formed_any (c : CodeV) (kv iv bv : Value) (w : World) (h : CodeIn w kv iv bv c) (hkl : c.kinds.length ≤ 8000) (hbl : c.body.length ≤ 60000) :
    Calls Try.prog 42 #[codeA c kv iv bv] w fun e w' => e = .returned (.bool (formedV c)) ∧ Ext w w' := by
  by_cases hz : c.ins < 0 ∨ c.outs < 0 ∨ c.cells < 0 ∨ c.stack < 0
  · rw [not_formed fun hf => by have h1 := hf.ins; have h2 := hf.outs; have h3 := hf.cells; have h4 := hf.stack; omega]
    exact formed_neg c kv iv bv w h hz
  · by_cases hb : (c.kinds.length : Int) < c.ins + c.outs + c.cells
    · rw [not_formed fun hf => by have h1 := hf.sum; omega]
      exact formed_big c kv iv bv w h hkl (by omega) (by omega) (by omega) (by omega) hb
    · exact formed_go c kv iv bv w h hkl hbl (by omega) (by omega) (by omega) (by omega) hb

set_option maxHeartbeats 1000000 in
theorem check_long (c : CodeV) (kv iv bv : Value) (w : World) (h : CodeIn w kv iv bv c) (hz : 60000 < c.body.length ∨ 8000 < c.kinds.length ∨ 64 < c.stack) :
    Calls Try.prog 17 #[codeA c kv iv bv] w fun e w' => e = .returned (.int .i64 2) ∧ Ext w w' := by
  obtain ⟨kinds, ins, outs, cells, init, stack, body⟩ := c
  obtain ⟨⟨ak, ck, rfl, hk1, hk2, _⟩, ⟨ai, ci, rfl, hi1, hi2, _⟩, ⟨ab, cb, rfl, hb1, hb2, _⟩⟩ := h
  simp only [codeA] at *
  have hln := nat64 hk1 hk2
  have hbn := nat64 hb1 hb2
  obtain ⟨n, hn⟩ : ∃ n, n = kinds.length := ⟨_, rfl⟩
  rw [← hn] at hz hk1 hln ⊢
  obtain ⟨nb, hnb⟩ : ∃ n, n = body.length := ⟨_, rfl⟩
  rw [← hnb] at hz hb1 hbn ⊢
  clear hn hnb
  by_cases h1 : (60000 : Int) < nb
  · clear hz
    go_enter Try.func17, Try.ntmps17
    go_wp2
    go_ret
    exact ⟨rfl, (by repeat first | exact Ext.refl _ | assumption | refine Ext.drew ?_ | refine Ext.drewN ?_ _ | refine Ext.extBy ?_ _ | refine Ext.alloc ?_ _ | refine Ext.setCell ?_ (by simp; try omega) _ | (refine Ext.trans ?_ (by assumption)))⟩
  · by_cases h2 : (8000 : Int) < n
    · clear hz
      go_enter Try.func17, Try.ntmps17
      go_wp2
      go_ret
      exact ⟨rfl, (by repeat first | exact Ext.refl _ | assumption | refine Ext.drew ?_ | refine Ext.drewN ?_ _ | refine Ext.extBy ?_ _ | refine Ext.alloc ?_ _ | refine Ext.setCell ?_ (by simp; try omega) _ | (refine Ext.trans ?_ (by assumption)))⟩
    · have h3 : 64 < stack := by omega
      clear hz
      go_enter Try.func17, Try.ntmps17
      go_wp2
      go_ret
      exact ⟨rfl, (by repeat first | exact Ext.refl _ | assumption | refine Ext.drew ?_ | refine Ext.drewN ?_ _ | refine Ext.extBy ?_ _ | refine Ext.alloc ?_ _ | refine Ext.setCell ?_ (by simp; try omega) _ | (refine Ext.trans ?_ (by assumption)))⟩

end Go.Proofs.Ytipfcfaigbeakaa

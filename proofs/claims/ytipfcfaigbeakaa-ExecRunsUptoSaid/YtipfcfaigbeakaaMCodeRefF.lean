/-
  The walks of the document's own checker: a step, of whatever kind; a program that is refused ahead of its steps.
  Conditions: the rows lie as the caller made them.
-/
import Derived.Test.YtipfcfaigbeakaaMCodeRefE
import Derived.Test.YtipfcfaigbeakaaJCode
namespace Go.Proofs.Ytipfcfaigbeakaa
open Go.RowKit
set_option maxRecDepth 100000

theorem stepV_1 (c : CodeV) (n k : Int) (l : List Int) : stepV c ⟨1, n, k⟩ l = if isk k n = true then some (l ++ [k]) else none := by simp [stepV]
theorem stepV_4 (c : CodeV) (n k : Int) (l : List Int) : stepV c ⟨4, n, k⟩ l = if (unv n k 0).2 = true then (popV l k).map (fun m => m ++ [k]) else none := by simp [stepV]
theorem stepV_5 (c : CodeV) (n k : Int) (l : List Int) : stepV c ⟨5, n, k⟩ l = (popV l k).bind fun m => (popV m k).bind fun r => (bkind n k).map fun k => r ++ [k] := by simp [stepV]
theorem stepV_6 (c : CodeV) (n k : Int) (l : List Int) : stepV c ⟨6, n, k⟩ l = if 0 < width k then (popV l n).map (fun m => m ++ [k]) else none := by simp [stepV]
theorem stepV_7 (c : CodeV) (n k : Int) (l : List Int) : stepV c ⟨7, n, k⟩ l = if k = 0 then some l else none := by simp [stepV]
theorem stepV_8 (c : CodeV) (n k : Int) (l : List Int) : stepV c ⟨8, n, k⟩ l = if k = 0 then popV l 1 else none := by simp [stepV]
theorem stepV_9 (c : CodeV) (n k : Int) (l : List Int) : stepV c ⟨9, n, k⟩ l = if n = 0 ∧ k = 0 ∧ l = [] then some l else none := by simp [stepV]

theorem refStep_any (A I : Nat) (c : CodeV) (kv iv bv v : Value) (q : InsV) (l : List Int) (w : World) (hf : Formed c) (hq : 1 ≤ q.op ∧ q.op ≤ 9) (hA : A < w.heap.size) (hI : I < w.heap.size) (hv : Stk .i64 A I w v l) (hl : l.length ≤ 64) (hkv : SlC w kv c.kinds.length (i64s c.kinds)) :
    Calls Try.prog 46 #[codeA c kv iv bv, insA q, v] w (StepR A I w (stepV c q l)) := by
  obtain ⟨op, n, k⟩ := q
  have hkb := kind_bd hf
  have hin := hf.ins
  rcases (show op = 1 ∨ op = 2 ∨ op = 3 ∨ op = 4 ∨ op = 5 ∨ op = 6 ∨ op = 7 ∨ op = 8 ∨ op = 9 by simp only at hq; omega) with rfl | rfl | rfl | rfl | rfl | rfl | rfl | rfl | rfl
  · rw [stepV_1]; exact refStep_push A I c kv iv bv v n k l w hA hI hv hl
  · rw [stepV_2]
    by_cases hz : k ≠ 0 ∨ n < 0 ∨ (c.kinds.length : Int) ≤ n
    · rw [show (if k = 0 then (kindAt c n).map (fun k => l ++ [k]) else none) = none by
        by_cases h1 : k = 0
        · rw [if_pos h1, kindAt_out (by omega)]; rfl
        · rw [if_neg h1]]
      exact refStep_load_no A I c kv iv bv v n k l w hv hkv hz
    · have h1 : k = 0 := by omega
      have h2 : 0 ≤ n := by omega
      have hlt : n.toNat < c.kinds.length := by omega
      have hkk : c.kinds[n.toNat]? = some c.kinds[n.toNat] := List.getElem?_eq_getElem hlt
      rw [if_pos h1, kindAt_in h2 hkk]
      exact refStep_load A I c kv iv bv v n k _ l w hA hI hv hl hkv h1 h2 hkk (hkb _ (List.getElem_mem hlt))
  · rw [stepV_3]
    by_cases hz : k ≠ 0 ∨ n < c.ins ∨ (c.kinds.length : Int) ≤ n
    · rw [show (if k = 0 ∧ c.ins ≤ n then (kindAt c n).bind (popV l) else none) = none by
        by_cases h1 : k = 0 ∧ c.ins ≤ n
        · rw [if_pos h1, kindAt_out (by omega)]; rfl
        · rw [if_neg h1]]
      exact refStep_save_no A I c kv iv bv v n k l w hv hkv hz
    · have h1 : k = 0 := by omega
      have h2 : 0 ≤ n := by omega
      have hlt : n.toNat < c.kinds.length := by omega
      have hkk : c.kinds[n.toNat]? = some c.kinds[n.toNat] := List.getElem?_eq_getElem hlt
      subst h1
      rw [if_pos ⟨rfl, by omega⟩, kindAt_in h2 hkk, Option.bind_some]
      rcases List.eq_nil_or_concat l with rfl | ⟨r, x, rfl⟩
      · rw [popV_nil]; exact refStep_save_nil A I c kv iv bv v n w hv hkv (by omega) (by omega)
      · rw [List.concat_eq_append] at *
        rw [popV_snoc]
        exact refStep_save A I c kv iv bv v n x _ r w (by simp at hl; omega) hv hkv (by omega) h2 hkk
  · rw [stepV_4]
    rcases List.eq_nil_or_concat l with rfl | ⟨r, x, rfl⟩
    · rw [popV_nil, show (if (unv n k 0).2 = true then (Option.map (fun m => m ++ [k]) none : Option (List Int)) else none) = none by split <;> rfl]
      exact refStep_un_nil A I c kv iv bv v n k w hv
    · rw [List.concat_eq_append] at *
      rw [popV_snoc, show (if (unv n k 0).2 = true then (Option.map (fun m => m ++ [k]) (if x = k then some r else none) : Option (List Int)) else none) = (if x = k ∧ (unv n k 0).2 = true then some (r ++ [x]) else none) by
        by_cases h1 : (unv n k 0).2 = true
        · by_cases h2 : x = k
          · rw [if_pos h1, if_pos h2, if_pos ⟨h2, h1⟩, h2]; rfl
          · rw [if_pos h1, if_neg h2, if_neg (fun h => h2 h.1)]; rfl
        · rw [if_neg h1, if_neg (fun h => h1 h.2)]]
      exact refStep_un A I c kv iv bv v n k x r w (by simp at hl; omega) hv
  · rw [stepV_5]
    rcases List.eq_nil_or_concat l with rfl | ⟨r, x, rfl⟩
    · rw [popV_nil]; exact refStep_bin_nil A I c kv iv bv v n k w hv
    · rw [List.concat_eq_append] at *
      rw [popV_snoc]
      rcases List.eq_nil_or_concat r with rfl | ⟨r, y, rfl⟩
      · rw [show ((if x = k then some [] else none : Option (List Int)).bind fun m => (popV m k).bind fun r => (bkind n k).map fun k => r ++ [k]) = none by
          by_cases h : x = k
          · rw [if_pos h, Option.bind_some, popV_nil]; rfl
          · rw [if_neg h]; rfl]
        exact refStep_bin_one A I c kv iv bv v n k x w hv
      · rw [List.concat_eq_append] at *
        rw [show ((if x = k then some (r ++ [y]) else none : Option (List Int)).bind fun m => (popV m k).bind fun r => (bkind n k).map fun k => r ++ [k]) = (if x = k ∧ y = k ∧ (binv n k 0 0).2.2 = true then some (r ++ [(binv n k 0 0).2.1]) else none) by
          by_cases h : x = k
          · rw [if_pos h, Option.bind_some, popV_snoc]
            by_cases h2 : y = k
            · rw [if_pos h2, Option.bind_some]
              unfold bkind
              by_cases h3 : (binv n k 0 0).2.2 = true
              · rw [if_pos h3, if_pos ⟨h, h2, h3⟩]; rfl
              · rw [if_neg h3, if_neg (fun e => h3 e.2.2)]; rfl
            · rw [if_neg h2, if_neg (fun e => h2 e.2.1)]; rfl
          · rw [if_neg h, if_neg (fun e => h e.1)]; rfl]
        exact refStep_bin A I c kv iv bv v n k x y r w hA hI (by simp at hl; omega) hv
  · rw [stepV_6]
    rcases List.eq_nil_or_concat l with rfl | ⟨r, x, rfl⟩
    · rw [popV_nil, show (if 0 < width k then (Option.map (fun m => m ++ [k]) none : Option (List Int)) else none) = none by split <;> rfl]
      exact refStep_cast_nil A I c kv iv bv v n k w hv
    · rw [List.concat_eq_append] at *
      rw [popV_snoc, show (if 0 < width k then (Option.map (fun m => m ++ [k]) (if x = n then some r else none) : Option (List Int)) else none) = (if x = n ∧ 0 < width k then some (r ++ [k]) else none) by
        by_cases h1 : 0 < width k
        · by_cases h2 : x = n
          · rw [if_pos h1, if_pos h2, if_pos ⟨h2, h1⟩]; rfl
          · rw [if_pos h1, if_neg h2, if_neg (fun h => h2 h.1)]; rfl
        · rw [if_neg h1, if_neg (fun h => h1 h.2)]]
      exact refStep_cast A I c kv iv bv v n k x r w hA hI (by simp at hl; omega) hv
  · rw [stepV_7]; exact refStep_jump A I c kv iv bv v n k l w hl hv
  · rw [stepV_8]
    rcases List.eq_nil_or_concat l with rfl | ⟨r, x, rfl⟩
    · rw [popV_nil, show (if k = 0 then (none : Option (List Int)) else none) = none by split <;> rfl]
      exact refStep_branch_nil A I c kv iv bv v n k w hv
    · rw [List.concat_eq_append] at *
      rw [popV_snoc, show (if k = 0 then (if x = 1 then some r else none : Option (List Int)) else none) = (if k = 0 ∧ x = 1 then some r else none) by
        by_cases h1 : k = 0
        · by_cases h2 : x = 1
          · rw [if_pos h1, if_pos h2, if_pos ⟨h1, h2⟩]
          · rw [if_pos h1, if_neg h2, if_neg (fun h => h2 h.2)]
        · rw [if_neg h1, if_neg (fun h => h1 h.1)]]
      exact refStep_branch A I c kv iv bv v n k x r w (by simp at hl; omega) hv
  · rw [stepV_9]; exact refStep_end A I c kv iv bv v n k l w hl hv

set_option maxHeartbeats 1000000 in
theorem refCheck_long (c : CodeV) (kv iv bv : Value) (w : World) (h : CodeIn w kv iv bv c) (hz : 60000 < c.body.length ∨ 8000 < c.kinds.length ∨ 64 < c.stack) :
    Calls Try.prog 19 #[codeA c kv iv bv] w fun e w' => e = .returned (.int .i64 2) ∧ Ext w w' := by
  obtain ⟨kinds, ins, outs, cells, init, stack, body⟩ := c
  obtain ⟨⟨ak, ck, rfl, hk1, hk2, _⟩, ⟨ai, ci, rfl, hi1, hi2, _⟩, ⟨ab, cb, rfl, hb1, hb2, _⟩⟩ := h
  simp only [codeA] at *
  have hln := nat64 hk1 hk2
  have hbn := nat64 hb1 hb2
  obtain ⟨n, hn⟩ : ∃ n, n = kinds.length := ⟨_, rfl⟩
  rw [← hn] at hz hk1 hln ⊢
  obtain ⟨nb, hnb⟩ : ∃ n, n = body.length := ⟨_, rfl⟩
  rw [← hnb] at hz hb1 hbn ⊢
  clear hn hnb
  by_cases h1 : (60000 : Int) < nb
  · clear hz
    go_enter Try.func19, Try.ntmps19
    go_wp2
    go_ret
    exact ⟨rfl, (by repeat first | exact Ext.refl _ | assumption | refine Ext.drew ?_ | refine Ext.drewN ?_ _ | refine Ext.extBy ?_ _ | refine Ext.alloc ?_ _ | refine Ext.setCell ?_ (by simp; try omega) _ | (refine Ext.trans ?_ (by assumption)))⟩
  · by_cases h2 : (8000 : Int) < n
    · clear hz
      go_enter Try.func19, Try.ntmps19
      go_wp2
      go_ret
      exact ⟨rfl, (by repeat first | exact Ext.refl _ | assumption | refine Ext.drew ?_ | refine Ext.drewN ?_ _ | refine Ext.extBy ?_ _ | refine Ext.alloc ?_ _ | refine Ext.setCell ?_ (by simp; try omega) _ | (refine Ext.trans ?_ (by assumption)))⟩
    · have h3 : 64 < stack := by omega
      clear hz
      go_enter Try.func19, Try.ntmps19
      go_wp2
      go_ret
      exact ⟨rfl, (by repeat first | exact Ext.refl _ | assumption | refine Ext.drew ?_ | refine Ext.drewN ?_ _ | refine Ext.extBy ?_ _ | refine Ext.alloc ?_ _ | refine Ext.setCell ?_ (by simp; try omega) _ | (refine Ext.trans ?_ (by assumption)))⟩

set_option maxHeartbeats 2000000 in
theorem refCheck_neg (c : CodeV) (kv iv bv : Value) (w : World) (h : CodeIn w kv iv bv c) (hbl : c.body.length ≤ 60000) (hkl : c.kinds.length ≤ 8000) (hst : c.stack ≤ 64) (hz : c.ins < 0 ∨ c.outs < 0 ∨ c.cells < 0 ∨ c.stack < 0 ∨ (c.kinds.length : Int) < c.ins + c.outs + c.cells) :
    Calls Try.prog 19 #[codeA c kv iv bv] w fun e w' => e = .returned (.int .i64 40) ∧ Ext w w' := by
  obtain ⟨kinds, ins, outs, cells, init, stack, body⟩ := c
  obtain ⟨⟨ak, ck, rfl, hk1, hk2, _⟩, ⟨ai, ci, rfl, hi1, hi2, _⟩, ⟨ab, cb, rfl, hb1, hb2, _⟩⟩ := h
  simp only [codeA] at *
  have hln := nat64 hk1 hk2
  have hbn := nat64 hb1 hb2
  obtain ⟨n, hn⟩ : ∃ n, n = kinds.length := ⟨_, rfl⟩
  rw [← hn] at hz hk1 hln hkl ⊢
  obtain ⟨nb, hnb⟩ : ∃ n, n = body.length := ⟨_, rfl⟩
  rw [← hnb] at hbl hb1 hbn ⊢
  clear hn hnb hk1 hk2 hb1 hb2 hi1 hi2
  by_cases h1 : ins < 0
  · clear hz
    go_enter Try.func19, Try.ntmps19
    go_wp2
    go_ret
    exact ⟨rfl, (by repeat first | exact Ext.refl _ | assumption | refine Ext.drew ?_ | refine Ext.drewN ?_ _ | refine Ext.extBy ?_ _ | refine Ext.alloc ?_ _ | refine Ext.setCell ?_ (by simp; try omega) _ | (refine Ext.trans ?_ (by assumption)))⟩
  by_cases h2 : outs < 0
  · clear hz
    go_enter Try.func19, Try.ntmps19
    go_wp2
    go_ret
    exact ⟨rfl, (by repeat first | exact Ext.refl _ | assumption | refine Ext.drew ?_ | refine Ext.drewN ?_ _ | refine Ext.extBy ?_ _ | refine Ext.alloc ?_ _ | refine Ext.setCell ?_ (by simp; try omega) _ | (refine Ext.trans ?_ (by assumption)))⟩
  by_cases h3 : cells < 0
  · clear hz
    go_enter Try.func19, Try.ntmps19
    go_wp2
    go_ret
    exact ⟨rfl, (by repeat first | exact Ext.refl _ | assumption | refine Ext.drew ?_ | refine Ext.drewN ?_ _ | refine Ext.extBy ?_ _ | refine Ext.alloc ?_ _ | refine Ext.setCell ?_ (by simp; try omega) _ | (refine Ext.trans ?_ (by assumption)))⟩
  by_cases h4 : stack < 0
  · clear hz
    go_enter Try.func19, Try.ntmps19
    go_wp2
    go_ret
    exact ⟨rfl, (by repeat first | exact Ext.refl _ | assumption | refine Ext.drew ?_ | refine Ext.drewN ?_ _ | refine Ext.extBy ?_ _ | refine Ext.alloc ?_ _ | refine Ext.setCell ?_ (by simp; try omega) _ | (refine Ext.trans ?_ (by assumption)))⟩
  have h0 : (n : Int) < ins + outs + cells := by omega
  clear hz
  by_cases h5 : (n : Int) < ins
  · go_enter Try.func19, Try.ntmps19
    go_wp2
    go_ret
    exact ⟨rfl, (by repeat first | exact Ext.refl _ | assumption | refine Ext.drew ?_ | refine Ext.drewN ?_ _ | refine Ext.extBy ?_ _ | refine Ext.alloc ?_ _ | refine Ext.setCell ?_ (by simp; try omega) _ | (refine Ext.trans ?_ (by assumption)))⟩
  by_cases h6 : (n : Int) < outs
  · go_enter Try.func19, Try.ntmps19
    go_wp2
    go_ret
    exact ⟨rfl, (by repeat first | exact Ext.refl _ | assumption | refine Ext.drew ?_ | refine Ext.drewN ?_ _ | refine Ext.extBy ?_ _ | refine Ext.alloc ?_ _ | refine Ext.setCell ?_ (by simp; try omega) _ | (refine Ext.trans ?_ (by assumption)))⟩
  by_cases h7 : (n : Int) < cells
  · go_enter Try.func19, Try.ntmps19
    go_wp2
    go_ret
    exact ⟨rfl, (by repeat first | exact Ext.refl _ | assumption | refine Ext.drew ?_ | refine Ext.drewN ?_ _ | refine Ext.extBy ?_ _ | refine Ext.alloc ?_ _ | refine Ext.setCell ?_ (by simp; try omega) _ | (refine Ext.trans ?_ (by assumption)))⟩
  go_enter Try.func19, Try.ntmps19
  go_wp2
  go_ret
  exact ⟨rfl, (by repeat first | exact Ext.refl _ | assumption | refine Ext.drew ?_ | refine Ext.drewN ?_ _ | refine Ext.extBy ?_ _ | refine Ext.alloc ?_ _ | refine Ext.setCell ?_ (by simp; try omega) _ | (refine Ext.trans ?_ (by assumption)))⟩
end Go.Proofs.Ytipfcfaigbeakaa

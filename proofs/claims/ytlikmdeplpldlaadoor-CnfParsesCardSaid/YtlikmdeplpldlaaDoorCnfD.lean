/-
  The walks of the program's own asking: its range over clauses.
  Conditions: the formula lies in memory.
-/
import Derived.RangeFuncNested
import Derived.RangeFuncBound
import Derived.RangeFuncCalls
import Derived.RangeFuncLeaves
import Derived.Shelf.Abstract
import Derived.Shelf.RegionOpen
import Derived.OwnWalkIn
import Derived.TacticsInMore
import Derived.LoopNIn
import Derived.LoopIn
import Derived.Test.YtlikmdeplpldlaaDoorCnfC
namespace Go.Proofs.YtlikmdeplpldlaaDoor
open Go.RowKit Go.Shelf
set_option linter.unusedSimpArgs false
set_option linter.unusedVariables false
set_option maxRecDepth 100000

attribute [local go_sem] Oper.semAt_some

theorem clauses_any (x : Int) (cv : Value) (w : World) (F : Fence) (n : Nat) (hf : F.fn 25) (hro : F.round = none) :
    CallsIn F n Tryd.prog 25 #[.agg #[.int .i64 x, cv]] w fun e w' => e = .returned (.func (.func 39) #[] #[.pointer (some ⟨w.heap.size, 0, none⟩)]) ∧ w' = w.alloc (.cells #[.int .i64 x, cv] 24) := by
  refine callsIn_of_wp Tryd.func25 rfl hf ?_ hro
  simp only [Tryd.ntmps25, List.size_toArray, List.length_cons, List.length_nil, Nat.reduceAdd, Nat.reduceSub, Array.replicate_succ, Array.replicate_zero, List.push_toArray, List.append_toArray, List.nil_append, List.cons_append]
  gi_wp2
  go_ret
  exact ⟨rfl, rfl⟩
/-- The first places. -/
def fins (N k : Nat) : List (Fin N) := (List.finRange N).take k
theorem fins_succ {N k : Nat} (hk : k < N) : fins N (k + 1) = fins N k ++ [⟨k, hk⟩] := by
  unfold fins
  rw [List.take_add_one, List.getElem?_eq_getElem (by simpa using hk)]
  simp
theorem fins_len {N k : Nat} (hk : k ≤ N) : (fins N k).length = k := by simp [fins]; omega
theorem fins_all (N : Nat) : fins N N = List.finRange N := by unfold fins; exact List.take_of_length_le (by simp)
theorem fins_pre (N k : Nat) : fins N k <+: List.finRange N := List.take_prefix _ _
set_option maxHeartbeats 2000000 in
theorem cl1_in (F : Fence) (n : Nat) (hf : F.fn 39) (hro : F.round = none) (hn : 1 ≤ n) (l Bs n₀ : Nat) (a : Option Addr) (N cap : Nat) (vs : List Value) (hvl : vs.length = N) (hN : N ≤ 1000000) (J Jx : List (Fin N) → World → Prop)
    (hY : ∀ pre (i : Fin N) W, J pre W → pre.length < N → YieldAt F (n - 1) Tryd.prog l #[vs.getD i.1 (.slice none 0 0)] W fun e W' => (e = .returned (.bool true) ∧ J (pre ++ [i]) W' ∧ Below n₀ W W') ∨ (e = .returned (.bool false) ∧ Jx (pre ++ [i]) W'))
    (W : World) (hBs : W.cell? ⟨Bs, 1, none⟩ = some (.slice a N cap)) (hc : ∀ j u, vs[j]? = some u → ∃ b o, a = some ⟨b, o, none⟩ ∧ b < n₀ ∧ W.cell? ⟨b, o + j, none⟩ = some u) (h0 : J [] W) :
    CallsIn F n Tryd.prog 39 #[.func (.yield l) #[] #[], .pointer (some ⟨Bs, 0, none⟩)] W fun e W' => (∃ v, e = .returned v) ∧ ((∃ ys, ys = List.finRange N ∧ J ys W') ∨ (∃ pre, pre <+: List.finRange N ∧ Jx pre W')) := by
  have HC := Lib.hid hc
  have HY := Lib.hid hY
  clear hc hY
  refine callsIn_of_wp Tryd.func39 rfl hf ?_ hro
  simp only [Tryd.ntmps39, List.size_toArray, List.length_cons, List.length_nil, Nat.reduceAdd, Nat.reduceSub, Array.replicate_succ, Array.replicate_zero, List.push_toArray, List.append_toArray, List.nil_append, List.cons_append]
  gi_wp2
  gi_loopw [8] (fun i wr => ∃ k : Nat, k ≤ N ∧ i = .int .i64 k ∧ J (fins N k) wr ∧ Below n₀ W wr) (fun i _ => N - (intOf i).toNat)
  case atStart => exact ⟨0, Nat.zero_le _, rfl, h0, Below.refl _ _⟩
  case round =>
    obtain ⟨k, hk, rfl, hJs, hnx⟩ := hrel
    by_cases hlt : k < N
    · obtain ⟨y, hy⟩ : ∃ y, vs[k]? = some y := ⟨_, List.getElem?_eq_getElem (by omega)⟩
      obtain ⟨b, o, rfl, hb, g0⟩ := HC.out k y hy
      have g1 := (hnx.cell (p := ⟨b, o + k, none⟩) hb).trans g0
      have hyz := HY.out _ ⟨k, hlt⟩ wr hJs (by rw [fins_len hk]; exact hlt)
      rw [show vs.getD k (.slice none 0 0) = y by simp [List.getD, hy]] at hyz
      obtain ⟨fn, tmps, assign, body, hyy, hR⟩ := hyz
      have hki : (k : Int) < (N : Int) := Int.ofNat_lt.2 hlt
      clear hy g0
      gi_wp2
      refine hR.mono ?_
      rintro e W3 (⟨rfl, hJ3, hk3⟩ | ⟨rfl, hJx3⟩)
      · gi_wp2
        go_roundw
        case rel => exact ⟨k + 1, by omega, by simp, by rw [fins_succ hlt]; exact hJ3, hnx.trans hk3⟩
        case measure => simp [intOf]; omega
      · gi_wp2
        refine bodyPost_ret (results_none rfl _ _ _) rfl ?_
        exact ⟨⟨_, rfl⟩, .inr ⟨_, by rw [← fins_succ hlt]; exact fins_pre _ _, hJx3⟩⟩
    · obtain rfl : k = N := by omega
      have hki : ¬ (k : Int) < (k : Int) := by omega
      rw [fins_all] at hJs
      gi_wp2
      go_end0
      exact ⟨⟨_, rfl⟩, .inl hJs⟩
end Go.Proofs.YtlikmdeplpldlaaDoor

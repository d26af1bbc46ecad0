/-
  The reference's walks that count a net's inputs, and tell its gates' values.
  Conditions: the net and the inputs lie in memory, the net is small.
-/
import Derived.Test.YtlikmdeplpldlaaDoorCnfL
import Derived.OwnWalk
namespace Go.Proofs.YtlikmdeplpldlaaDoor
open Go.RowKit
set_option linter.unusedSimpArgs false
set_option linter.unusedVariables false
set_option maxRecDepth 100000

/-- The next gate's value. -/
def nextV (u ins : List Bool) (k : Nat) (q : GateV) : Bool := if q.op = 2 then ins.getD k false else if q.op = 3 then wireV u q.a && wireV u q.b else false
theorem insN_cons (q : GateV) (l : List GateV) : insN (q :: l) = insN l + if q.op = 2 then 1 else 0 := by
  unfold insN
  by_cases h : q.op = 2
  · simp [h]
  · simp [h]
theorem evalN_snoc : ∀ (l : List GateV) (q : GateV) (v ins : List Bool), evalN (l ++ [q]) v ins = evalN l v ins ++ [nextV (evalN l v ins) ins (insN l) q]
  | [], q, v, ins => by
    simp only [List.nil_append, evalN, nextV, insN]
    split
    · cases ins <;> simp
    · split <;> rfl
  | x :: l, q, v, ins => by
    rw [List.cons_append, insN_cons]
    unfold evalN
    split
    · rw [evalN_snoc l q]
      unfold nextV
      cases ins with
      | nil => simp
      | cons i ins => simp
    · split
      · rw [evalN_snoc l q, Nat.add_zero]
      · rw [evalN_snoc l q, Nat.add_zero]
theorem evalN_take {l : List GateV} {j : Nat} {q : GateV} (hq : l[j]? = some q) (ins : List Bool) : evalN (l.take (j + 1)) [] ins = evalN (l.take j) [] ins ++ [nextV (evalN (l.take j) [] ins) ins (insN (l.take j)) q] := by
  rw [List.take_add_one, hq]; exact evalN_snoc _ _ _ _
theorem insN_append (l m : List GateV) : insN (l ++ m) = insN l + insN m := by unfold insN; simp
theorem insN_take {l : List GateV} {j : Nat} {q : GateV} (hq : l[j]? = some q) : insN (l.take (j + 1)) = insN (l.take j) + if q.op = 2 then 1 else 0 := by
  rw [List.take_add_one, hq, insN_append, Option.toList_some, insN_cons, show insN [] = 0 from rfl, Nat.zero_add]
theorem insN_le (l : List GateV) (j : Nat) : insN (l.take j) ≤ insN l := by
  conv => rhs; rw [← List.take_append_drop j l, insN_append]
  omega
theorem insN_len (l : List GateV) : insN l ≤ l.length := by unfold insN; exact List.length_filter_le _ _
theorem evalN_len0 (l : List GateV) (j : Nat) (hj : j ≤ l.length) (ins : List Bool) : (evalN (l.take j) [] ins).length = j := by rw [evalN_len]; simp; omega
/-- Values so far, and nought behind. -/
def padV (n j : Nat) (A : List Bool) : List Bool := A ++ List.replicate (n - j) false
theorem padV_len {n j : Nat} {A : List Bool} (hA : A.length = j) (hj : j ≤ n) : (padV n j A).length = n := by unfold padV; simp; omega
theorem padV_set {n j : Nat} {A : List Bool} (hA : A.length = j) (hj : j < n) (b : Bool) : (bools (padV n j A)).set j (.bool b) = bools (padV n (j + 1) (A ++ [b])) := by
  unfold bools padV
  rw [List.map_append, List.set_append_right _ _ (by simp [hA]), List.length_map, hA, Nat.sub_self]
  rw [show n - j = (n - (j + 1)) + 1 by omega, List.replicate_succ]
  simp
theorem padV_skip {n j : Nat} {A : List Bool} (hj : j < n) : padV n j A = padV n (j + 1) (A ++ [false]) := by
  unfold padV
  rw [show n - j = (n - (j + 1)) + 1 by omega, List.replicate_succ]
  simp
theorem padV_wire {n j : Nat} {A : List Bool} {w : Int} (hA : A.length = j) (h0 : 0 ≤ w) (h1 : w < 2 * (j : Int)) : wireV (padV n j A) w = wireV A w :=
  wireV_old (fun k hk => by unfold padV; exact List.getElem?_append_left hk) ⟨h0, by rw [hA]; exact h1⟩

/-- What Inputs tells. -/
def InsP (W : World) (R : Nat) (e : Ending) (w' : World) : Prop := ∃ a c, e = .returned (.slice a R c) ∧ Ext W w'
set_option maxHeartbeats 4000000 in
theorem inputsR_any (l : List GateV) (gv : Value) (w : World) (h : GatesIn w gv l) (hl : l.length ≤ 200000) :
    Calls Tryd.prog 33 #[.agg #[gv]] w (InsP w (insN l)) := by
  obtain ⟨R, hR⟩ : ∃ R, R = insN l := ⟨_, rfl⟩
  rw [← hR]
  have HRR := Lib.hid hR
  obtain ⟨a, cap, rfl, -, -, hc⟩ := id h
  have HC := Lib.hid hc
  obtain ⟨n, hn⟩ : ∃ n, n = l.length := ⟨_, rfl⟩
  have HN := Lib.hid hn
  rw [← hn] at hl ⊢
  clear h hc hR hn
  go_enter Tryd.func33, Tryd.ntmps33
  go_upto_region 1 with fail
  have hbX := BoxV.of_row (heap_alloc_last w (.cells #[.slice a n cap] 35))
  have hE : Ext w (w.alloc (.cells #[.slice a n cap] 35)) := (Ext.refl w).alloc _
  generalize hw1 : w.alloc (.cells #[.slice a n cap] 35) = w1 at hbX hE ⊢
  have hX1 : w.heap.size < w1.heap.size := by rw [← hw1, World.size_alloc]; omega
  clear hw1
  generalize hXX : w.heap.size = X at hbX ⊢
  have hXe : w.heap.size = X := hXX
  rw [hXX] at hX1
  clear hXX
  have p0 := hbX.cells 0 _ rfl
  have HE := Lib.hid hE
  clear hbX
  go_wp2
  go_loopw [3, 4] (fun o i wr => ∃ (j : Nat) (xs : List Value) (ov : Value), j ≤ n ∧ i = .int .i64 j ∧ o = ov ∧ Hid (wr.ownsRow w1.heap.size 3 1 ov (insN (l.take j)) xs ∧ Ext w1 wr) ∧ ∃ x y z, ov = .slice x y z) (fun _ i _ => n - (intOf i).toNat)
  case atStart => exact ⟨0, [], _, Nat.zero_le _, rfl, rfl, Lib.hid ⟨own_nil _ _ _ _, Ext.refl _⟩, _, _, _, rfl⟩
  case round =>
    obtain ⟨j, xs, ov, hj, rfl, rfl, HO, ox, oy, oz, rfl⟩ := hrel
    have q0 := HO.out.2.cell p0
    by_cases hlt : j < n
    · have hji : (j : Int) < (n : Int) := Int.ofNat_lt.2 hlt
      obtain ⟨q, hq⟩ : ∃ q, l[j]? = some q := ⟨_, List.getElem?_eq_getElem (by have := HN.out; omega)⟩
      obtain ⟨b3, o3, rfl, g0⟩ := HC.out (j * 3) _ (gateCells_at l j q hq).1
      replace g0 := HO.out.2.cell (HE.out.cell g0)
      have HTK := Lib.hid (insN_take hq)
      have hin : insN (l.take j) ≤ 200000 := by have := insN_le l j; have := insN_len l; have := HN.out; omega
      have hs1 := HO.out.2.size
      obtain ⟨op, qa, qb⟩ := q
      dsimp only at g0
      clear hq
      by_cases h2 : op = 2
      · have HK : Hid (insN (l.take (j + 1)) = insN (l.take j) + 1) := Lib.hid (by rw [HTK.out]; simp [h2])
        subst h2
        go_wp2_with (at_builtin; (refine wpList_append_slc _ rfl (.tmp 19) (.tmp 21) 36 rfl w1.heap.size 3 (.int .i64 0) 1 8 Tryd.underlying36 infoInt rfl (by decide) (.slice ox oy oz) (insN (l.take j)) xs rfl (ownsRow_ext HO.out.1 (by repeat first | exact Ext.refl _ | assumption | refine Ext.drew ?_ | refine Ext.drewN ?_ _ | refine Ext.extBy ?_ _ | refine Ext.alloc ?_ _ | refine Ext.setCell ?_ (by simp; try omega) _ | (refine Ext.trans ?_ (by assumption)))) _ 1 [.int .i64 (j : Int)] rfl (SlC.fresh _ #[.int .i64 (j : Int)] _ 1 _ (by simp) (by decide)) rfl (by simp [Value.oneCell']) (by unfold maxLen; omega) (by omega) (by simp; omega) ?_; intro v3 w6 hown3 hg3 hat3; obtain ⟨x3, y3, z3, rfl⟩ := own_slice3 hown3; have HP := Lib.hid (And.intro hown3 (below_grown (B := w1.heap.size) (base := w1.heap.size) (HO.out.2.alloc _) (Nat.le_refl _) (by simp; omega) (ownsRow_ext HO.out.1 (by repeat first | exact Ext.refl _ | assumption | refine Ext.drew ?_ | refine Ext.drewN ?_ _ | refine Ext.extBy ?_ _ | refine Ext.alloc ?_ _ | refine Ext.setCell ?_ (by simp; try omega) _ | (refine Ext.trans ?_ (by assumption)))) hg3)); clear hown3 hg3 hat3))
        exact ⟨⟨j + 1, _, _, by omega, by go_num, rfl, by rw [HK.out]; exact Lib.hid HP.out, _, _, _, rfl⟩, by simp [intOf]; omega⟩
      · have HK : Hid (insN (l.take (j + 1)) = insN (l.take j)) := Lib.hid (by rw [HTK.out]; simp [h2])
        have h2b : (op == 2) = false := by simpa using h2
        clear h2
        go_wp2
        exact ⟨⟨j + 1, _, _, by omega, by go_num, rfl, by rw [HK.out]; exact HO, _, _, _, rfl⟩, by simp [intOf]; omega⟩
    · have hji : ¬ (j : Int) < (n : Int) := fun e => hlt (Int.ofNat_lt.1 e)
      have hRj : oy = R := by
        have h1 := HO.out.1
        rw [List.take_of_length_le (by have := HN.out; omega), ← HRR.out] at h1
        obtain ⟨a', c', e⟩ := own_n h1
        simp only [Value.slice.injEq] at e
        exact e.2.1
      subst hRj
      go_wp2
      go_ret
      exact ⟨_, _, rfl, HE.out.trans HO.out.2⟩
end Go.Proofs.YtlikmdeplpldlaaDoor

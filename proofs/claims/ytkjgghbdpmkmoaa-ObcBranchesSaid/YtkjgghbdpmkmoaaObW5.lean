/-
  The walk: whether step code is not too long.
  Condition: the step code and its checker lie in memory.
-/
import Derived.Test.YtkjgghbdpmkmoaaObW4
namespace Go.Proofs.Ytkjgghbdpmkmoaa
open Go.RowKit
set_option linter.unusedSimpArgs false
set_option linter.unusedVariables false
set_option maxRecDepth 100000

theorem index4 (a b c d : Value) (w : World) : Sem.run Try.prog (Instr.index 72 (.agg #[a, b, c, d]) (.int .i64 0)) w = .ok a w ∧ Sem.run Try.prog (Instr.index 72 (.agg #[a, b, c, d]) (.int .i64 1)) w = .ok b w ∧ Sem.run Try.prog (Instr.index 72 (.agg #[a, b, c, d]) (.int .i64 2)) w = .ok c w ∧ Sem.run Try.prog (Instr.index 72 (.agg #[a, b, c, d]) (.int .i64 3)) w = .ok d w := by
  exact ⟨by kernel_rfl, by kernel_rfl, by kernel_rfl, by kernel_rfl⟩
theorem min_run (a b : Int) (w : World) : Sem.run Try.prog (Builtin.min_ #[3, 3] 3 #[.int .i64 a, .int .i64 b]) w = .ok (.int .i64 (min a b)) w := by
  by_cases h : a ≤ b
  · rw [Int.min_eq_left h]
    simp [Builtin.min_, Builtin.min2, h]
    intro h2
    omega
  · rw [Int.min_eq_right (by omega)]
    simp [Builtin.min_, Builtin.min2, h]
set_option maxHeartbeats 8000000 in
theorem long_any (W0 : World) (s : SP) (x : S5) (X M : Nat) (L : List (ByteArray × Value)) (w : World) (hs : SPIn W0 s x) (hck : CK W0 x X M L 0 w) :
    Calls Try.prog 14 #[.pointer (some ⟨X, 0, none⟩)] w (RetCK W0 x X M L ((fitsB s.body 1 0).1, longS s) w) := by
  obtain ⟨R, hR⟩ : ∃ R, R = ((fitsB s.body 1 0).1, longS s) := ⟨_, rfl⟩
  rw [← hR]
  obtain ⟨Q, hQ⟩ : ∃ Q, Q = RetCK W0 x X M L R w := ⟨_, rfl⟩
  rw [← hQ]
  have HQ := Lib.hid hQ
  have HR := Lib.hid hR
  have HS := Lib.hid hs
  obtain ⟨iv, ov, vv, cv, bv⟩ := x
  obtain ⟨p1, c1, e1, -, hc1⟩ := hs.ins.slice
  obtain ⟨p2, c2, e2, -, hc2⟩ := hs.outs.slice
  obtain ⟨p3, c3, e3, -, hc3⟩ := hs.vars.slice
  obtain ⟨p4, c4, e4, -, hc4⟩ := hs.cells.slice
  obtain ⟨p5, c5, e5, -, -⟩ := hs.body.slice
  simp only at e1 e2 e3 e4 e5
  subst e1 e2 e3 e4 e5
  obtain ⟨n1, h1⟩ : ∃ n, n = s.ins.length := ⟨_, rfl⟩
  obtain ⟨n2, h2⟩ : ∃ n, n = s.outs.length := ⟨_, rfl⟩
  obtain ⟨n3, h3⟩ : ∃ n, n = s.vars.length := ⟨_, rfl⟩
  obtain ⟨n4, h4⟩ : ∃ n, n = s.cells.length := ⟨_, rfl⟩
  obtain ⟨n5, h5⟩ : ∃ n, n = s.body.length := ⟨_, rfl⟩
  have HN := Lib.hid (And.intro h1 (And.intro h2 (And.intro h3 (And.intro h4 h5))))
  have HCK := Lib.hid hck
  have g0 := hck.box.cells 0 _ rfl
  have g1 := hck.box.cells 1 _ rfl
  have g2 := hck.box.cells 2 _ rfl
  have g3 := hck.box.cells 3 _ rfl
  have g4 := hck.box.cells 4 _ rfl
  have gl := hck.box.lt
  simp only [← h1, ← h2, ← h3, ← h4, ← h5] at g0 g1 g2 g3 g4
  obtain ⟨ok, hok⟩ : ∃ b, b = (fitsB s.body 1 0).2 := ⟨_, rfl⟩
  have HF : Hid (∀ w1, Ext w w1 → Calls Try.prog 27 #[.pointer (some ⟨X, 0, none⟩), .slice p5 n5 c5, .int .i64 1] w1 (RetCK W0 ⟨.slice p1 s.ins.length c1, .slice p2 s.outs.length c2, .slice p3 s.vars.length c3, .slice p4 s.cells.length c4, .slice p5 s.body.length c5⟩ X M L ((fitsB s.body 1 0).1, ok) w1)) := Lib.hid (fun w1 hx1 => by
    rw [h5, hok]
    exact fits_at W0 _ X M L _ s.body (Nat.lt_succ_self _) _ 1 0 w1 HS.out.body (hck.next hx1) (by decide) (by decide) (by decide) (by decide))
  have HOK := Lib.hid hok
  clear hR hQ hs hck h1 h2 h3 h4 h5 hok hc1 hc2 hc3 hc4
  go_enter Try.func14, Try.ntmps14
  go_upto_region 4 with fail
  have hi0 := fun w1 => (index4 (.int .i64 (n1 : Int)) (.int .i64 (n2 : Int)) (.int .i64 (n3 : Int)) (.int .i64 (n4 : Int)) w1).1
  have hi1 := fun w1 => (index4 (.int .i64 (n1 : Int)) (.int .i64 (n2 : Int)) (.int .i64 (n3 : Int)) (.int .i64 (n4 : Int)) w1).2.1
  have hi2 := fun w1 => (index4 (.int .i64 (n1 : Int)) (.int .i64 (n2 : Int)) (.int .i64 (n3 : Int)) (.int .i64 (n4 : Int)) w1).2.2.1
  have hi3 := fun w1 => (index4 (.int .i64 (n1 : Int)) (.int .i64 (n2 : Int)) (.int .i64 (n3 : Int)) (.int .i64 (n4 : Int)) w1).2.2.2
  have hmn := fun a w1 => min_run a 8001 w1
  refine wp_loop_rounds 5 ?_
  rw [rounds_succ]; go_wp2
  rw [rounds_succ]; go_wp2
  rw [rounds_succ]; go_wp2
  rw [rounds_succ]; go_wp2
  obtain ⟨m, hm⟩ : ∃ m, m = min (n1 : Int) 8001 + min (n2 : Int) 8001 + min (n3 : Int) 8001 + min (n4 : Int) 8001 := ⟨_, rfl⟩
  have hX : Ext w (w.alloc (.cells #[.slice p1 n1 c1, .slice p2 n2 c2, .slice p3 n3 c3, .slice p4 n4 c4, .slice p5 n5 c5] 28)) := (Ext.refl w).alloc _
  have HXX := Lib.hid hX
  have hmb : Hid (decide (m ≤ 8000) = decide (min s.ins.length 8001 + min s.outs.length 8001 + min s.vars.length 8001 + min s.cells.length 8001 ≤ 8000)) := Lib.hid (by
    obtain ⟨h1, h2, h3, h4, h5⟩ := HN.out
    rw [decide_eq_decide]
    omega)
  rw [rounds_succ]
  clear hX
  have HL : Hid (R = ((fitsB s.body 1 0).1, ok && decide (m ≤ 8000))) := Lib.hid (by
    rw [HR.out, hmb.out, HOK.out]; rfl)
  have HMM := Lib.hid hm
  clear hm
  cases ok with
  | false =>
    go_wp2_with (first | (go_at_call 27; refine (HF.out _ HXX.out).mono ?_; rintro e1 w1 ⟨rfl, H1⟩) | fail)
    rw [HQ.out, HL.out]
    exact ⟨rfl, Lib.hid ⟨(Kb.of_ext HXX.out).trans H1.out.1, H1.out.2⟩⟩
  | true =>
    go_wp2_with (first | (go_at_call 27; refine (HF.out _ HXX.out).mono ?_; rintro e1 w1 ⟨rfl, H1⟩) | fail)
    rw [HQ.out, HL.out, HMM.out]
    exact ⟨by simp, Lib.hid ⟨(Kb.of_ext HXX.out).trans H1.out.1, H1.out.2⟩⟩
end Go.Proofs.Ytkjgghbdpmkmoaa

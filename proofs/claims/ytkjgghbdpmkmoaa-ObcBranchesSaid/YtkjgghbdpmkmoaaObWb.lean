/-
  The walk: whether step code has its forms.
  Condition: the step code and its checker lie in memory.
-/
import Derived.Test.YtkjgghbdpmkmoaaObW9
import Derived.Test.YtkjgghbdpmkmoaaBvWalkA
namespace Go.Proofs.Ytkjgghbdpmkmoaa
open Go.RowKit Go.Maps
set_option linter.unusedSimpArgs false
set_option linter.unusedVariables false
set_option maxRecDepth 100000

/-- No state. -/
def St0 (_ : Unit) (_ : World) : Prop := True
def form3 (_ : Unit) (s : ST) : Unit × Bool := ((), decide (s.form = 1 ∨ s.form = 2 ∨ s.form = 3))
def formE (_ : Unit) (e : CE) : Unit × Bool := ((), decide (kidsN e.form = e.kids.length) && (decide (e.form ≠ 1) || isk e.kind e.n))
set_option maxHeartbeats 4000000 in
theorem forms1_any (w : World) (s : ST) (x : S3) (hs : SIn w s x) :
    Calls Try.prog 30 #[sVal s x] w (RetB [] St0 (form3 () s) w) := by
  obtain ⟨R, hR⟩ : ∃ R, R = form3 () s := ⟨_, rfl⟩
  rw [← hR]
  obtain ⟨Q, hQ⟩ : ∃ Q, Q = RetB [] St0 R w := ⟨_, rfl⟩
  rw [← hQ]
  have HQ := Lib.hid hQ
  have HR := Lib.hid hR
  obtain ⟨hp1, hp2, hp3⟩ := hs.parts
  obtain ⟨kv, tv, ev⟩ := x
  obtain ⟨pk, ck, e1, -, -⟩ := hp1.slice
  obtain ⟨pt, ct, e2, -, -⟩ := hp2.slice
  obtain ⟨pe, ce, e3, -, -⟩ := hp3.slice
  simp only at e1 e2 e3
  subst e1
  subst e2
  subst e3
  obtain ⟨f, hf⟩ : ∃ f, f = s.form := ⟨_, rfl⟩
  obtain ⟨nk, hnk⟩ : ∃ f, f = s.e.kids.length := ⟨_, rfl⟩
  obtain ⟨nt, hnt⟩ : ∃ f, f = s.thn.length := ⟨_, rfl⟩
  obtain ⟨ne, hne⟩ : ∃ f, f = s.els.length := ⟨_, rfl⟩
  have HV := Lib.hid (show sVal s ⟨.slice pk s.e.kids.length ck, .slice pt s.thn.length ct, .slice pe s.els.length ce⟩ = .agg #[.int .i64 f, .string s.name, .int .i64 s.e.form, .int .i64 s.e.sub, .int .i64 s.e.kind, .int .i64 s.e.n, .string s.e.name, .slice pk nk ck, .slice pt nt ct, .slice pe ne ce] by rw [hf, hnk, hnt, hne]; rfl)
  have HE := Lib.hid (show eVal s.e (.slice pk s.e.kids.length ck) = .agg #[.int .i64 s.e.form, .int .i64 s.e.sub, .int .i64 s.e.kind, .int .i64 s.e.n, .string s.e.name, .slice pk nk ck] by rw [hnk]; rfl)
  rw [HV.out]
  have HF := Lib.hid hf
  have hby : BoxV w.heap.size [.int .i64 f, .string s.name, .int .i64 s.e.form, .int .i64 s.e.sub, .int .i64 s.e.kind, .int .i64 s.e.n, .string s.e.name, .slice pk nk ck, .slice pt nt ct, .slice pe ne ce] (w.alloc (.cells #[.int .i64 f, .string s.name, .int .i64 s.e.form, .int .i64 s.e.sub, .int .i64 s.e.kind, .int .i64 s.e.n, .string s.e.name, .slice pk nk ck, .slice pt nt ct, .slice pe ne ce] 37)) := BoxV.of_row (heap_alloc_last w _)
  have hxy : Ext w (w.alloc (.cells #[.int .i64 f, .string s.name, .int .i64 s.e.form, .int .i64 s.e.sub, .int .i64 s.e.kind, .int .i64 s.e.n, .string s.e.name, .slice pk nk ck, .slice pt nt ct, .slice pe ne ce] 37)) := (Ext.refl w).alloc _
  have HXY := Lib.hid hxy
  have HP1 := Lib.hid hp1
  clear hQ hR hp1 hp2 hp3 hf hnk hnt hne hs
  by_cases h1 : f = 1
  · have HC : Hid (R = ((), true)) := Lib.hid (by rw [HR.out]; unfold form3; rw [← HF.out]; simp [h1])
    have q1 : (f == 1) = true := by simpa using h1
    clear h1
    go_enter Try.func30, Try.ntmps30
    go_upto_region 1 with fail
    generalize (w.alloc (.cells #[.int .i64 f, .string s.name, .int .i64 s.e.form, .int .i64 s.e.sub, .int .i64 s.e.kind, .int .i64 s.e.n, .string s.e.name, .slice pk nk ck, .slice pt nt ct, .slice pe ne ce] 37)) = wy at hby hxy HXY ⊢
    generalize w.heap.size = Y at hby ⊢
    have d0 := hby.cells 0 _ rfl
    have d1 := hby.cells 1 _ rfl
    have d2 := hby.cells 2 _ rfl
    have d3 := hby.cells 3 _ rfl
    have d4 := hby.cells 4 _ rfl
    have d5 := hby.cells 5 _ rfl
    have d6 := hby.cells 6 _ rfl
    have d7 := hby.cells 7 _ rfl
    have d8 := hby.cells 8 _ rfl
    have d9 := hby.cells 9 _ rfl
    have hyl := hby.lt
    have HBY := Lib.hid hby
    clear hby hxy
    go_wp2
    rw [HQ.out, HC.out]
    exact ⟨rfl, Lib.hid ⟨Kb.of_ext HXY.out, trivial⟩⟩
  by_cases h2 : f = 2
  · have HC : Hid (R = ((), true)) := Lib.hid (by rw [HR.out]; unfold form3; rw [← HF.out]; simp [h2])
    have q1 : (f == 1) = false := by simpa using h1
    have q2 : (f == 2) = true := by simpa using h2
    clear h1 h2
    go_enter Try.func30, Try.ntmps30
    go_upto_region 1 with fail
    generalize (w.alloc (.cells #[.int .i64 f, .string s.name, .int .i64 s.e.form, .int .i64 s.e.sub, .int .i64 s.e.kind, .int .i64 s.e.n, .string s.e.name, .slice pk nk ck, .slice pt nt ct, .slice pe ne ce] 37)) = wy at hby hxy HXY ⊢
    generalize w.heap.size = Y at hby ⊢
    have d0 := hby.cells 0 _ rfl
    have d1 := hby.cells 1 _ rfl
    have d2 := hby.cells 2 _ rfl
    have d3 := hby.cells 3 _ rfl
    have d4 := hby.cells 4 _ rfl
    have d5 := hby.cells 5 _ rfl
    have d6 := hby.cells 6 _ rfl
    have d7 := hby.cells 7 _ rfl
    have d8 := hby.cells 8 _ rfl
    have d9 := hby.cells 9 _ rfl
    have hyl := hby.lt
    have HBY := Lib.hid hby
    clear hby hxy
    go_wp2
    rw [HQ.out, HC.out]
    exact ⟨rfl, Lib.hid ⟨Kb.of_ext HXY.out, trivial⟩⟩
  have HC : Hid (R = ((), decide (f = 3))) := Lib.hid (by rw [HR.out]; unfold form3; rw [← HF.out]; simp [h1, h2])
  have q1 : (f == 1) = false := by simpa using h1
  have q2 : (f == 2) = false := by simpa using h2
  have q3 : (f == 3) = decide (f = 3) := by by_cases h : f = 3 <;> simp [h]
  obtain ⟨b3, hb3⟩ : ∃ b, b = decide (f = 3) := ⟨_, rfl⟩
  rw [← hb3] at HC q3
  clear h1 h2 hb3
  go_enter Try.func30, Try.ntmps30
  go_upto_region 1 with fail
  generalize (w.alloc (.cells #[.int .i64 f, .string s.name, .int .i64 s.e.form, .int .i64 s.e.sub, .int .i64 s.e.kind, .int .i64 s.e.n, .string s.e.name, .slice pk nk ck, .slice pt nt ct, .slice pe ne ce] 37)) = wy at hby hxy HXY ⊢
  generalize w.heap.size = Y at hby ⊢
  have d0 := hby.cells 0 _ rfl
  have d1 := hby.cells 1 _ rfl
  have d2 := hby.cells 2 _ rfl
  have d3 := hby.cells 3 _ rfl
  have d4 := hby.cells 4 _ rfl
  have d5 := hby.cells 5 _ rfl
  have d6 := hby.cells 6 _ rfl
  have d7 := hby.cells 7 _ rfl
  have d8 := hby.cells 8 _ rfl
  have d9 := hby.cells 9 _ rfl
  have hyl := hby.lt
  have HBY := Lib.hid hby
  clear hby hxy
  go_wp2
  rw [HQ.out, HC.out]
  exact ⟨rfl, Lib.hid ⟨Kb.of_ext HXY.out, trivial⟩⟩
theorem kidsO_any (f : Int) (w : World) : Calls Try.prog 33 #[.int .i64 f] w fun e w' => e = .returned (.int .i64 (kidsN f)) ∧ w = w' := by
  go_enter Try.func33, Try.ntmps33
  go_wp2
  all_goals go_ret
  all_goals refine ⟨?_, rfl⟩
  all_goals simp_all [kidsN]
set_option maxHeartbeats 4000000 in
theorem forms2_any (w : World) (e : CE) (kv : Value) (hk : KIn w e kv) :
    Calls Try.prog 32 #[eVal e kv] w (RetB [] St0 (formE () e) w) := by
  obtain ⟨R, hR⟩ : ∃ R, R = formE () e := ⟨_, rfl⟩
  rw [← hR]
  obtain ⟨Q, hQ⟩ : ∃ Q, Q = RetB [] St0 R w := ⟨_, rfl⟩
  rw [← hQ]
  have HQ := Lib.hid hQ
  have HR := Lib.hid hR
  obtain ⟨p, c, rfl, hkc, hcm⟩ := hk.slice
  obtain ⟨n, hn⟩ : ∃ n, n = e.kids.length := ⟨_, rfl⟩
  rw [← hn]
  obtain ⟨f, hf⟩ : ∃ f, f = e.form := ⟨_, rfl⟩
  obtain ⟨sb, hs⟩ : ∃ s, s = e.sub := ⟨_, rfl⟩
  obtain ⟨k, hk2⟩ : ∃ s, s = e.kind := ⟨_, rfl⟩
  obtain ⟨nn, hnn⟩ : ∃ s, s = e.n := ⟨_, rfl⟩
  obtain ⟨nm, hnm⟩ : ∃ s, s = e.name := ⟨_, rfl⟩
  have HE := Lib.hid (show eVal e (.slice p n c) = .agg #[.int .i64 f, .int .i64 sb, .int .i64 k, .int .i64 nn, .string nm, .slice p n c] by rw [hf, hs, hk2, hnn, hnm]; rfl)
  rw [HE.out]
  have HL := Lib.hid (And.intro hf (And.intro hs (And.intro hk2 (And.intro hnn (And.intro hnm hn)))))
  have hby : BoxV w.heap.size [.int .i64 f, .int .i64 sb, .int .i64 k, .int .i64 nn, .string nm, .slice p n c] (w.alloc (.cells #[.int .i64 f, .int .i64 sb, .int .i64 k, .int .i64 nn, .string nm, .slice p n c] 35)) := BoxV.of_row (heap_alloc_last w _)
  have hxy : Ext w (w.alloc (.cells #[.int .i64 f, .int .i64 sb, .int .i64 k, .int .i64 nn, .string nm, .slice p n c] 35)) := (Ext.refl w).alloc _
  have HXY := Lib.hid hxy
  have HK : Hid (R = ((), decide (kidsN f = (n : Int)) && (decide (f ≠ 1) || isk k nn))) := Lib.hid (by rw [HR.out, hf, hk2, hnn, hn]; rfl)
  have HKN : Hid (∀ w1, Calls Try.prog 33 #[.int .i64 f] w1 fun e w' => e = .returned (.int .i64 (kidsN f)) ∧ w1 = w') := Lib.hid (fun w1 => kidsO_any f w1)
  have HIS : Hid (∀ w1, Calls Try.prog 34 #[.int .i64 k, .int .i64 nn] w1 fun e w' => e = .returned (.bool (isk k nn)) ∧ w1 = w') := Lib.hid (fun w1 => bvIs_any k nn w1)
  obtain ⟨kn, hkn⟩ : ∃ z, z = kidsN f := ⟨_, rfl⟩
  obtain ⟨ik, hik⟩ : ∃ z, z = isk k nn := ⟨_, rfl⟩
  rw [← hkn] at HKN HK
  rw [← hik] at HIS HK
  clear hQ hR hk hn hf hs hk2 hnn hnm hkc hcm hkn hik
  by_cases h1 : kn = (n : Int)
  · have q1 : (kn == (n : Int)) = true := by simpa using h1
    by_cases h2 : f = 1
    · have q2 : (f != 1) = false := by simpa using h2
      have HC : Hid (R = ((), ik)) := Lib.hid (by rw [HK.out]; simp [h1, h2])
      clear h1 h2
      go_enter Try.func32, Try.ntmps32
      go_upto_region 1 with fail
      generalize (w.alloc (.cells #[.int .i64 f, .int .i64 sb, .int .i64 k, .int .i64 nn, .string nm, .slice p n c] 35)) = wy at hby hxy HXY ⊢
      generalize w.heap.size = Y at hby ⊢
      have d0 := hby.cells 0 _ rfl
      have d1 := hby.cells 1 _ rfl
      have d2 := hby.cells 2 _ rfl
      have d3 := hby.cells 3 _ rfl
      have d4 := hby.cells 4 _ rfl
      have d5 := hby.cells 5 _ rfl
      have hyl := hby.lt
      have HBY := Lib.hid hby
      clear hby hxy
      (refine region_drew (by kernel_rfl) (by kernel_rfl) ?_; (repeat (go_big_quiet_step (first | exact in_drew (HKN.out _) | exact in_drew (HIS.out _)))); refine wpQuiet_nil ?_; rintro _ ⟨nq, rfl⟩)
      go_wp2
      rw [HQ.out, HC.out]
      exact ⟨rfl, Lib.hid ⟨Kb.of_ext (HXY.out.drewN _), trivial⟩⟩
    · have q2 : (f != 1) = true := by simpa using h2
      have HC : Hid (R = ((), true)) := Lib.hid (by rw [HK.out]; simp [h1, h2])
      clear h1 h2
      go_enter Try.func32, Try.ntmps32
      go_upto_region 1 with fail
      generalize (w.alloc (.cells #[.int .i64 f, .int .i64 sb, .int .i64 k, .int .i64 nn, .string nm, .slice p n c] 35)) = wy at hby hxy HXY ⊢
      generalize w.heap.size = Y at hby ⊢
      have d0 := hby.cells 0 _ rfl
      have d1 := hby.cells 1 _ rfl
      have d2 := hby.cells 2 _ rfl
      have d3 := hby.cells 3 _ rfl
      have d4 := hby.cells 4 _ rfl
      have d5 := hby.cells 5 _ rfl
      have hyl := hby.lt
      have HBY := Lib.hid hby
      clear hby hxy
      (refine region_drew (by kernel_rfl) (by kernel_rfl) ?_; (repeat (go_big_quiet_step (first | exact in_drew (HKN.out _) | exact in_drew (HIS.out _)))); refine wpQuiet_nil ?_; rintro _ ⟨nq, rfl⟩)
      go_wp2
      rw [HQ.out, HC.out]
      exact ⟨rfl, Lib.hid ⟨Kb.of_ext (HXY.out.drewN _), trivial⟩⟩
  · have q1 : (kn == (n : Int)) = false := by simpa using h1
    have HC : Hid (R = ((), false)) := Lib.hid (by rw [HK.out]; simp [h1])
    clear h1
    go_enter Try.func32, Try.ntmps32
    go_upto_region 1 with fail
    generalize (w.alloc (.cells #[.int .i64 f, .int .i64 sb, .int .i64 k, .int .i64 nn, .string nm, .slice p n c] 35)) = wy at hby hxy HXY ⊢
    generalize w.heap.size = Y at hby ⊢
    have d0 := hby.cells 0 _ rfl
    have d1 := hby.cells 1 _ rfl
    have d2 := hby.cells 2 _ rfl
    have d3 := hby.cells 3 _ rfl
    have d4 := hby.cells 4 _ rfl
    have d5 := hby.cells 5 _ rfl
    have hyl := hby.lt
    have HBY := Lib.hid hby
    clear hby hxy
    (refine region_drew (by kernel_rfl) (by kernel_rfl) ?_; (repeat (go_big_quiet_step (first | exact in_drew (HKN.out _) | exact in_drew (HIS.out _)))); refine wpQuiet_nil ?_; rintro _ ⟨nq, rfl⟩)
    go_wp2
    rw [HQ.out, HC.out]
    exact ⟨rfl, Lib.hid ⟨Kb.of_ext (HXY.out.drewN _), trivial⟩⟩
end Go.Proofs.Ytkjgghbdpmkmoaa

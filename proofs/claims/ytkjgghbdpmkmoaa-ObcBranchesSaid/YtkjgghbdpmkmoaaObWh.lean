/-
  The walk: an expression is evaluated.
  Condition: the expression and the run lie in memory.
-/
import Derived.Test.YtkjgghbdpmkmoaaObRun
import Derived.Test.YtkjgghbdpmkmoaaObWa
import Derived.Test.YtkjgghbdpmkmoaaSMap
namespace Go.Proofs.Ytkjgghbdpmkmoaa
open Go.RowKit Go.Maps
set_option linter.unusedSimpArgs false
set_option linter.unusedVariables false
set_option maxRecDepth 100000

def envL (t : ENV) : List (ByteArray × Value) := t.map fun e => (e.1, .int .i64 e.2)
theorem find_env (n : ByteArray) : ∀ t : ENV, (findS (envL t) n).getD (.int .i64 0) = .int .i64 (getV t n)
  | [] => rfl
  | e :: t => by
    have ih := find_env n t
    by_cases h : e.1 = n
    · subst h
      simp [findS, envL, getV]
    · have h1 : findS (envL (e :: t)) n = findS (envL t) n := findS_other h _ _
      rw [h1, ih]
      unfold getV
      rw [List.find?_cons_of_neg (by simpa using h)]
/-- A run: its block, its maps of kinds and of values. -/
structure RK (W0 : World) (X K V : Nat) (ks vs : ENV) (w : World) : Prop where
  ext : Ext W0 w
  box : BoxV X [.map (some K), .map (some V)] w
  kmap : SM Try.prog 9 K (envL ks) w
  vmap : SM Try.prog 9 V (envL vs) w
  nx : W0.heap.size ≤ X
  nk : W0.heap.size ≤ K
  nv : W0.heap.size ≤ V
  xk : X ≠ K
  xv : X ≠ V
  kv : K ≠ V
theorem zeroI (w : World) : (zeroValue 3).run Try.prog w = .ok (.int .i64 0) w := by kernel_rfl
section
variable {W0 w w' : World} {X K V : Nat} {ks vs : ENV}
theorem RK.next (h : RK W0 X K V ks vs w) (hx : Ext w w') : RK W0 X K V ks vs w' :=
  { h with ext := h.ext.trans hx, box := h.box.ext hx, kmap := h.kmap.ext hx, vmap := h.vmap.ext hx }
theorem RK.lookV (h : RK W0 X K V ks vs w) {n : ByteArray} (hn : n.size ≤ maxLen) : (Instr.lookup 62 (.map (some V)) (.string n) false).run Try.prog w = .ok (.int .i64 (getV vs n)) w := by
  rw [← find_env]
  exact h.vmap.look Try.underlying9 Try.underlying62 (zeroI w) hn
theorem RK.lookK (h : RK W0 X K V ks vs w) {n : ByteArray} (hn : n.size ≤ maxLen) : (Instr.lookup 62 (.map (some K)) (.string n) false).run Try.prog w = .ok (.int .i64 (getV ks n)) w := by
  rw [← find_env]
  exact h.kmap.look Try.underlying9 Try.underlying62 (zeroI w) hn
theorem RK.putV (h : RK W0 X K V ks vs w) {n : ByteArray} (hn : n.size ≤ maxLen) (hl : vs.length ≤ 1000000000000) (v : Int) : ∃ w', (Instr.mapUpdate 62 (.map (some V)) (.string n) (.int .i64 v)).run Try.prog w = .ok () w' ∧ Kb [V] w w' ∧ RK W0 X K V ks ((n, v) :: vs) w' := by
  obtain ⟨w', h1, h2, h3⟩ := h.vmap.put Try.underlying9 Try.underlying62 (by unfold envL maxLen; simp; omega) hn (.int .i64 v)
  have hk : Kb [V] w w' := Kb.grown h3 (fun g hg => by simp at hg; simp [hg])
  exact ⟨w', h1, hk, { h with ext := hk.ext h.ext (by simpa using h.nv), box := h.box.kb hk (by simpa using h.xv), kmap := h.kmap.kb hk (by simpa using h.kv), vmap := h2 }⟩
theorem RK.putK (h : RK W0 X K V ks vs w) {n : ByteArray} (hn : n.size ≤ maxLen) (hl : ks.length ≤ 1000000000000) (v : Int) : ∃ w', (Instr.mapUpdate 62 (.map (some K)) (.string n) (.int .i64 v)).run Try.prog w = .ok () w' ∧ Kb [K] w w' ∧ RK W0 X K V ((n, v) :: ks) vs w' := by
  obtain ⟨w', h1, h2, h3⟩ := h.kmap.put Try.underlying9 Try.underlying62 (by unfold envL maxLen; simp; omega) hn (.int .i64 v)
  have hk : Kb [K] w w' := Kb.grown h3 (fun g hg => by simp at hg; simp [hg])
  exact ⟨w', h1, hk, { h with ext := hk.ext h.ext (by simpa using h.nk), box := h.box.kb hk (by simpa using h.xk), vmap := h.vmap.kb hk (by simpa using h.kv.symm), kmap := h2 }⟩
end
/-- How many kids the run reads. -/
def wantR (f : Int) : Nat := if f = 1 ∨ f = 2 then 0 else if f = 3 ∨ f = 11 then 1 else if f = 5 then 3 else 2
def frR (e : CE) : Prop := partsE (fun e => decide (wantR e.form ≤ e.kids.length)) e = true
theorem frR.here {e : CE} (h : frR e) : wantR e.form ≤ e.kids.length := by
  unfold frR at h
  rw [partsE_eq, Bool.and_eq_true] at h
  simpa using h.1
theorem frR.at {e x : CE} {i : Nat} (h : frR e) (hx : e.kids[i]? = some x) : frR x := by
  unfold frR at h ⊢
  rw [partsE_eq, Bool.and_eq_true] at h
  exact partsL_at h.2 hx
def RetII (r : Int × Int) (w : World) (e : Ending) (w' : World) : Prop := e = .returned (.tuple #[.int .i64 r.1, .int .i64 r.2]) ∧ Hid (Ext w w')
theorem runF_5 (s k : Int) (r : List (Int × Int)) : runF 5 s k r = if (r.getD 0 (0, 0)).1 ≠ 0 then r.getD 1 (0, 0) else r.getD 2 (0, 0) := rfl
theorem runF_3 (s k : Int) (r : List (Int × Int)) : runF 3 s k r = ((unv s (r.getD 0 (0, 0)).2 (r.getD 0 (0, 0)).1).1, (r.getD 0 (0, 0)).2) := rfl
theorem runF_11 (s k : Int) (r : List (Int × Int)) : runF 11 s k r = ((castv (r.getD 0 (0, 0)).2 k (r.getD 0 (0, 0)).1).1, k) := rfl
theorem runF_o {f : Int} (s k : Int) (r : List (Int × Int)) (h5 : f ≠ 5) (h3 : f ≠ 3) (h11 : f ≠ 11) : runF f s k r = ((binv s (r.getD 0 (0, 0)).2 (r.getD 0 (0, 0)).1 (r.getD 1 (0, 0)).1).1, (binv s (r.getD 0 (0, 0)).2 (r.getD 0 (0, 0)).1 (r.getD 1 (0, 0)).1).2.1) := by
  unfold runF
  rw [if_neg h5, if_neg h3, if_neg h11]
theorem runK_getD (ks vs : ENV) {l : List CE} {i : Nat} {x : CE} (h : l[i]? = some x) : (runK ks vs l).getD i (0, 0) = runE ks vs x := by
  unfold List.getD
  rw [runK_get, h]; rfl
set_option maxHeartbeats 16000000 in
theorem exp_at (W0 : World) (X K V : Nat) (ks vs : ENV) (hv : ∀ n, I64 (getV vs n)) :
    ∀ (N : Nat) (e : CE), SizeOf.sizeOf e < N → ∀ (kv : Value) (w : World), RK W0 X K V ks vs w → KIn W0 e kv → okE e → frR e →
    Calls Try.prog 47 #[.pointer (some ⟨X, 0, none⟩), eVal e kv] w (RetII (runE ks vs e) w) := by
  intro N
  induction N with
  | zero => intro e h; omega
  | succ N ih =>
    intro e hN kv w hr hk hok hfr
    have HIH := Lib.hid ih
    have HW := Lib.hid (And.intro hN (And.intro hr (And.intro hk (And.intro hok hfr))))
    obtain ⟨R, hR⟩ : ∃ R, R = runE ks vs e := ⟨_, rfl⟩
    rw [← hR]
    obtain ⟨Q, hQ⟩ : ∃ Q, Q = RetII R w := ⟨_, rfl⟩
    rw [← hQ]
    have HQ := Lib.hid hQ
    obtain ⟨p, c, rfl, hkc, hcm⟩ := hk.slice
    obtain ⟨n, hn⟩ : ∃ n, n = e.kids.length := ⟨_, rfl⟩
    rw [← hn] at hkc ⊢
    have hcI : (c : Int) ≤ 9223372036854775807 := by unfold maxLen at hcm; omega
    obtain ⟨f, hf⟩ : ∃ f, f = e.form := ⟨_, rfl⟩
    obtain ⟨s, hs⟩ : ∃ s, s = e.sub := ⟨_, rfl⟩
    obtain ⟨k, hk2⟩ : ∃ s, s = e.kind := ⟨_, rfl⟩
    obtain ⟨nn, hnn⟩ : ∃ s, s = e.n := ⟨_, rfl⟩
    obtain ⟨nm, hnm⟩ : ∃ s, s = e.name := ⟨_, rfl⟩
    have HR : Hid (R = if f = 1 then (nn, k) else if f = 2 then (getV vs nm, getV ks nm) else runF f s k (runK ks vs e.kids)) := Lib.hid (by rw [hR, runE_eq, hf, hs, hk2, hnm, hnn])
    have HN : Hid (n = e.kids.length ∧ wantR f ≤ n) := Lib.hid ⟨hn, by rw [hf, hn]; exact hfr.here⟩
    have hnsz : nm.size ≤ maxLen := by rw [hnm]; exact hok.name
    have HE := Lib.hid (show eVal e (.slice p n c) = .agg #[.int .i64 f, .int .i64 s, .int .i64 k, .int .i64 nn, .string nm, .slice p n c] by rw [hf, hs, hk2, hnn, hnm]; rfl)
    rw [HE.out]
    have hby : BoxV w.heap.size [.int .i64 f, .int .i64 s, .int .i64 k, .int .i64 nn, .string nm, .slice p n c] (w.alloc (.cells #[.int .i64 f, .int .i64 s, .int .i64 k, .int .i64 nn, .string nm, .slice p n c] 35)) := BoxV.of_row (heap_alloc_last w _)
    have hxy : Ext w (w.alloc (.cells #[.int .i64 f, .int .i64 s, .int .i64 k, .int .i64 nn, .string nm, .slice p n c] 35)) := (Ext.refl w).alloc _
    have hr1 := hr.next hxy
    have HR1 := Lib.hid (And.intro hr1 hxy)
    have hlv := fun n' : Nat => (hr1.next ((Ext.refl _).drewN n')).lookV hnsz
    have hlk := fun n' : Nat => (hr1.next ((Ext.refl _).drewN n')).lookK hnsz
    obtain ⟨va, hva⟩ : ∃ z, z = getV vs nm := ⟨_, rfl⟩
    obtain ⟨ka, hka⟩ : ∃ z, z = getV ks nm := ⟨_, rfl⟩
    rw [← hva] at hlv HR
    rw [← hka] at hlk HR
    have g0 := hr1.box.cells 0 _ rfl
    have g1 := hr1.box.cells 1 _ rfl
    have gl := hr1.box.lt
    have kidF : Hid (0 < n → ∃ b o, p = some ⟨b, o, none⟩ ∧ ∀ i, i < n → ∃ x q m d, e.kids[i]? = some x ∧ (∀ w1, Ext w w1 → w1.cell? ⟨b, o + i * 6, none⟩ = some (.int .i64 x.form) ∧ w1.cell? ⟨b, o + i * 6 + 1, none⟩ = some (.int .i64 x.sub) ∧ w1.cell? ⟨b, o + i * 6 + 2, none⟩ = some (.int .i64 x.kind) ∧ w1.cell? ⟨b, o + i * 6 + 3, none⟩ = some (.int .i64 x.n) ∧ w1.cell? ⟨b, o + i * 6 + 4, none⟩ = some (.string x.name) ∧ w1.cell? ⟨b, o + i * 6 + 5, none⟩ = some (.slice q m d) ∧ b < w1.heap.size ∧ Calls Try.prog 47 #[.pointer (some ⟨X, 0, none⟩), .agg #[.int .i64 x.form, .int .i64 x.sub, .int .i64 x.kind, .int .i64 x.n, .string x.name, .slice q m d]] w1 (RetII (runE ks vs x) w1)) ∧ I64 (runE ks vs x).1) := Lib.hid (fun h0 => by
      rw [← hn] at hk
      obtain ⟨y0, hy0⟩ : ∃ x, e.kids[0]? = some x := ⟨_, List.getElem?_eq_getElem (by omega)⟩
      obtain ⟨-, -, -, b, o, xv0, hp, -⟩ := hk.at hy0
      refine ⟨b, o, hp, fun i hi => ?_⟩
      obtain ⟨x, hx⟩ : ∃ x, e.kids[i]? = some x := ⟨_, List.getElem?_eq_getElem (by omega)⟩
      obtain ⟨-, -, -, b', o', xv, hp', hkx, c0, c1, c2, c3, c4, c5, hbl⟩ := hk.at hx
      rw [hp] at hp'
      simp only [Option.some.injEq, Addr.mk.injEq] at hp'
      obtain ⟨rfl, rfl, -⟩ := hp'
      obtain ⟨q, d, rfl, -, -⟩ := hkx.slice
      refine ⟨x, q, x.kids.length, d, hx, fun w1 hx1 => ?_, runE_64 hv x (hok.kids.at hx)⟩
      have hw := hr.ext.trans hx1
      have hs1 := CE.size_kids e
      have hs2 := size_at hx
      exact ⟨hw.cell c0, hw.cell c1, hw.cell c2, hw.cell c3, hw.cell c4, hw.cell c5, Nat.lt_of_lt_of_le hbl hw.size, ih x (by omega) _ w1 (hr.next hx1) hkx (hok.kids.at hx) (hfr.at hx)⟩)
    clear hQ hR hn hf hs hk2 hnn hnm hr hk hok hN ih hcm hfr hr1 hnsz hva hka
    by_cases h1 : f = 1
    · have q1 : (f == 1) = true := by simpa using h1
      have HC : Hid (R = (nn, k)) := Lib.hid (by rw [HR.out, if_pos h1])
      clear h1
      go_enter Try.func47, Try.ntmps47
      go_upto_region 1 with fail
      generalize (w.alloc (.cells #[.int .i64 f, .int .i64 s, .int .i64 k, .int .i64 nn, .string nm, .slice _ n c] 35)) = wy at *
      generalize w.heap.size = Y at hby ⊢
      have d0 := hby.cells 0 _ rfl
      have d1 := hby.cells 1 _ rfl
      have d2 := hby.cells 2 _ rfl
      have d3 := hby.cells 3 _ rfl
      have d4 := hby.cells 4 _ rfl
      have d5 := hby.cells 5 _ rfl
      have hyl := hby.lt
      clear hby hxy
      go_upto_region 3 with fail
      (refine region_drew (by kernel_rfl) (by kernel_rfl) ?_; (repeat (go_big_quiet_step (fail))); refine wpQuiet_nil ?_; rintro _ ⟨nq, rfl⟩)
      go_wp2
      rw [HQ.out, HC.out]
      exact ⟨rfl, Lib.hid (HR1.out.2.drewN _)⟩
    by_cases h2 : f = 2
    · have q1 : (f == 1) = false := by simpa using h1
      have q2 : (f == 2) = true := by simpa using h2
      have HC : Hid (R = (va, ka)) := Lib.hid (by rw [HR.out, if_neg h1, if_pos h2])
      clear h1 h2
      go_enter Try.func47, Try.ntmps47
      go_upto_region 1 with fail
      generalize (w.alloc (.cells #[.int .i64 f, .int .i64 s, .int .i64 k, .int .i64 nn, .string nm, .slice _ n c] 35)) = wy at *
      generalize w.heap.size = Y at hby ⊢
      have d0 := hby.cells 0 _ rfl
      have d1 := hby.cells 1 _ rfl
      have d2 := hby.cells 2 _ rfl
      have d3 := hby.cells 3 _ rfl
      have d4 := hby.cells 4 _ rfl
      have d5 := hby.cells 5 _ rfl
      have hyl := hby.lt
      clear hby hxy
      go_upto_region 5 with fail
      (refine region_drew (by kernel_rfl) (by kernel_rfl) ?_; (repeat (go_big_quiet_step (fail))); refine wpQuiet_nil ?_; rintro _ ⟨nq, rfl⟩)
      go_wp2
      rw [HQ.out, HC.out]
      exact ⟨rfl, Lib.hid (HR1.out.2.drewN _)⟩
    have HRF : Hid (R = runF f s k (runK ks vs e.kids)) := Lib.hid (by rw [HR.out, if_neg h1, if_neg h2])
    have q1 : (f == 1) = false := by simpa using h1
    have q2 : (f == 2) = false := by simpa using h2
    clear hlv hlk
    by_cases h5 : f = 5
    · have q5 : (f == 5) = true := by simpa using h5
      have hn3 : 3 ≤ n := by have := HN.out.2; rw [h5] at this; simpa [wantR] using this
      have HRF5 : Hid (R = if ((runK ks vs e.kids).getD 0 (0, 0)).1 ≠ 0 then (runK ks vs e.kids).getD 1 (0, 0) else (runK ks vs e.kids).getD 2 (0, 0)) := Lib.hid (by rw [HRF.out, h5, runF_5])
      have hn0' : (0 : Int) < (n : Int) := by omega
      have hn1' : (1 : Int) < (n : Int) := by omega
      have hn2' : (2 : Int) < (n : Int) := by omega
      obtain ⟨b, o, rfl, hkid⟩ := kidF.out (by omega)
      obtain ⟨x0, z0, m0, y0, hx0, hc0, hi0⟩ := hkid 0 (by omega)
      obtain ⟨ra0, hra0⟩ : ∃ r, r = (runE ks vs x0).1 := ⟨_, rfl⟩
      obtain ⟨rk0, hrk0⟩ : ∃ r, r = (runE ks vs x0).2 := ⟨_, rfl⟩
      have hrr0 : runE ks vs x0 = (ra0, rk0) := by rw [hra0, hrk0]
      have HG0 : Hid ((runK ks vs e.kids).getD 0 (0, 0) = (ra0, rk0)) := Lib.hid (by rw [runK_getD ks vs hx0, hrr0])
      have HI0 : Hid (I64 ra0) := Lib.hid (by rw [hra0]; exact hi0)
      have HC0 := Lib.hid hc0
      rw [hrr0] at HC0
      clear hc0 hra0 hrk0 hrr0 hx0 hi0
      obtain ⟨x1, z1, m1, y1, hx1, hc1, hi1⟩ := hkid 1 (by omega)
      obtain ⟨ra1, hra1⟩ : ∃ r, r = (runE ks vs x1).1 := ⟨_, rfl⟩
      obtain ⟨rk1, hrk1⟩ : ∃ r, r = (runE ks vs x1).2 := ⟨_, rfl⟩
      have hrr1 : runE ks vs x1 = (ra1, rk1) := by rw [hra1, hrk1]
      have HG1 : Hid ((runK ks vs e.kids).getD 1 (0, 0) = (ra1, rk1)) := Lib.hid (by rw [runK_getD ks vs hx1, hrr1])
      have HI1 : Hid (I64 ra1) := Lib.hid (by rw [hra1]; exact hi1)
      have HC1 := Lib.hid hc1
      rw [hrr1] at HC1
      clear hc1 hra1 hrk1 hrr1 hx1 hi1
      obtain ⟨x2, z2, m2, y2, hx2, hc2, hi2⟩ := hkid 2 (by omega)
      obtain ⟨ra2, hra2⟩ : ∃ r, r = (runE ks vs x2).1 := ⟨_, rfl⟩
      obtain ⟨rk2, hrk2⟩ : ∃ r, r = (runE ks vs x2).2 := ⟨_, rfl⟩
      have hrr2 : runE ks vs x2 = (ra2, rk2) := by rw [hra2, hrk2]
      have HG2 : Hid ((runK ks vs e.kids).getD 2 (0, 0) = (ra2, rk2)) := Lib.hid (by rw [runK_getD ks vs hx2, hrr2])
      have HI2 : Hid (I64 ra2) := Lib.hid (by rw [hra2]; exact hi2)
      have HC2 := Lib.hid hc2
      rw [hrr2] at HC2
      clear hc2 hra2 hrk2 hrr2 hx2 hi2
      clear h1 h2 h5 hkid
      by_cases hz : ra0 = 0
      · have qz : (ra0 != 0) = false := by simpa using hz
        have HC : Hid (R = (ra2, rk2)) := Lib.hid (by rw [HRF5.out, HG0.out, HG1.out, HG2.out]; simp [hz])
        clear hz
        go_enter Try.func47, Try.ntmps47
        go_upto_region 1 with fail
        generalize (w.alloc (.cells #[.int .i64 f, .int .i64 s, .int .i64 k, .int .i64 nn, .string nm, .slice _ n c] 35)) = wy at *
        generalize w.heap.size = Y at hby ⊢
        have d0 := hby.cells 0 _ rfl
        have d1 := hby.cells 1 _ rfl
        have d2 := hby.cells 2 _ rfl
        have d3 := hby.cells 3 _ rfl
        have d4 := hby.cells 4 _ rfl
        have d5 := hby.cells 5 _ rfl
        have hyl := hby.lt
        clear hby hxy
        obtain ⟨a0, a1, a2, a3, a4, a5, a6, -⟩ := HC0.out _ HR1.out.2
        rw [Nat.zero_mul, Nat.add_zero] at a0 a1 a2 a3 a4 a5
        go_wp2_with (first | (go_at_call 47; refine (HC2.out _ (HR1.out.2.trans H1.out)).2.2.2.2.2.2.2.mono ?_; rintro e2 w2 ⟨rfl, H2⟩; have d0 := H2.out.cell d0; have d1 := H2.out.cell d1; have d2 := H2.out.cell d2; have hyl := Nat.lt_of_lt_of_le hyl H2.out.size) | (go_at_call 47; refine (HC0.out _ HR1.out.2).2.2.2.2.2.2.2.mono ?_; rintro e1 w1 ⟨rfl, H1⟩; have d0 := H1.out.cell d0; have d1 := H1.out.cell d1; have d2 := H1.out.cell d2; have d5 := H1.out.cell d5; have hyl := Nat.lt_of_lt_of_le hyl H1.out.size; obtain ⟨u0, u1, u2, u3, u4, u5, u6, -⟩ := HC2.out _ (HR1.out.2.trans H1.out)) | fail)
        rw [HQ.out, HC.out]
        exact ⟨rfl, Lib.hid (HR1.out.2.trans (H1.out.trans H2.out))⟩
      · have qz : (ra0 != 0) = true := by simpa using hz
        have HC : Hid (R = (ra1, rk1)) := Lib.hid (by rw [HRF5.out, HG0.out, HG1.out, HG2.out]; simp [hz])
        clear hz
        go_enter Try.func47, Try.ntmps47
        go_upto_region 1 with fail
        generalize (w.alloc (.cells #[.int .i64 f, .int .i64 s, .int .i64 k, .int .i64 nn, .string nm, .slice _ n c] 35)) = wy at *
        generalize w.heap.size = Y at hby ⊢
        have d0 := hby.cells 0 _ rfl
        have d1 := hby.cells 1 _ rfl
        have d2 := hby.cells 2 _ rfl
        have d3 := hby.cells 3 _ rfl
        have d4 := hby.cells 4 _ rfl
        have d5 := hby.cells 5 _ rfl
        have hyl := hby.lt
        clear hby hxy
        obtain ⟨a0, a1, a2, a3, a4, a5, a6, -⟩ := HC0.out _ HR1.out.2
        rw [Nat.zero_mul, Nat.add_zero] at a0 a1 a2 a3 a4 a5
        go_wp2_with (first | (go_at_call 47; refine (HC1.out _ (HR1.out.2.trans H1.out)).2.2.2.2.2.2.2.mono ?_; rintro e2 w2 ⟨rfl, H2⟩; have d0 := H2.out.cell d0; have d1 := H2.out.cell d1; have d2 := H2.out.cell d2; have hyl := Nat.lt_of_lt_of_le hyl H2.out.size) | (go_at_call 47; refine (HC0.out _ HR1.out.2).2.2.2.2.2.2.2.mono ?_; rintro e1 w1 ⟨rfl, H1⟩; have d0 := H1.out.cell d0; have d1 := H1.out.cell d1; have d2 := H1.out.cell d2; have d5 := H1.out.cell d5; have hyl := Nat.lt_of_lt_of_le hyl H1.out.size; obtain ⟨u0, u1, u2, u3, u4, u5, u6, -⟩ := HC1.out _ (HR1.out.2.trans H1.out)) | fail)
        rw [HQ.out, HC.out]
        exact ⟨rfl, Lib.hid (HR1.out.2.trans (H1.out.trans H2.out))⟩
    have q5 : (f == 5) = false := by simpa using h5
    by_cases h3 : f = 3
    · have q3 : (f == 3) = true := by simpa using h3
      have hn3 : 1 ≤ n := by have := HN.out.2; rw [h3] at this; simpa [wantR] using this
      have HRF3 : Hid (R = ((unv s ((runK ks vs e.kids).getD 0 (0, 0)).2 ((runK ks vs e.kids).getD 0 (0, 0)).1).1, ((runK ks vs e.kids).getD 0 (0, 0)).2)) := Lib.hid (by rw [HRF.out, h3, runF_3])
      have hn0' : (0 : Int) < (n : Int) := by omega
      obtain ⟨b, o, rfl, hkid⟩ := kidF.out (by omega)
      obtain ⟨x0, z0, m0, y0, hx0, hc0, hi0⟩ := hkid 0 (by omega)
      obtain ⟨ra0, hra0⟩ : ∃ r, r = (runE ks vs x0).1 := ⟨_, rfl⟩
      obtain ⟨rk0, hrk0⟩ : ∃ r, r = (runE ks vs x0).2 := ⟨_, rfl⟩
      have hrr0 : runE ks vs x0 = (ra0, rk0) := by rw [hra0, hrk0]
      have HG0 : Hid ((runK ks vs e.kids).getD 0 (0, 0) = (ra0, rk0)) := Lib.hid (by rw [runK_getD ks vs hx0, hrr0])
      have HI0 : Hid (I64 ra0) := Lib.hid (by rw [hra0]; exact hi0)
      have HC0 := Lib.hid hc0
      rw [hrr0] at HC0
      clear hc0 hra0 hrk0 hrr0 hx0 hi0
      have HC : Hid (R = ((unv s rk0 ra0).1, rk0)) := Lib.hid (by rw [HRF3.out, HG0.out])
      clear h1 h2 h3 h5 hkid
      go_enter Try.func47, Try.ntmps47
      go_upto_region 1 with fail
      generalize (w.alloc (.cells #[.int .i64 f, .int .i64 s, .int .i64 k, .int .i64 nn, .string nm, .slice _ n c] 35)) = wy at *
      generalize w.heap.size = Y at hby ⊢
      have d0 := hby.cells 0 _ rfl
      have d1 := hby.cells 1 _ rfl
      have d2 := hby.cells 2 _ rfl
      have d3 := hby.cells 3 _ rfl
      have d4 := hby.cells 4 _ rfl
      have d5 := hby.cells 5 _ rfl
      have hyl := hby.lt
      clear hby hxy
      obtain ⟨a0, a1, a2, a3, a4, a5, a6, -⟩ := HC0.out _ HR1.out.2
      rw [Nat.zero_mul, Nat.add_zero] at a0 a1 a2 a3 a4 a5
      go_wp2_with (first | (go_at_call 47; refine (HC0.out _ HR1.out.2).2.2.2.2.2.2.2.mono ?_; rintro e1 w1 ⟨rfl, H1⟩; have d0 := H1.out.cell d0; have d1 := H1.out.cell d1; have d2 := H1.out.cell d2; have d5 := H1.out.cell d5; have hyl := Nat.lt_of_lt_of_le hyl H1.out.size) | (go_at_call 45; refine (bvUn_any _ _ _ _).mono ?_; rintro e2 w2 ⟨rfl, hx2⟩; have H2 := Lib.hid hx2; clear hx2) | fail)
      rw [HQ.out, HC.out]
      exact ⟨rfl, Lib.hid (HR1.out.2.trans (H1.out.trans H2.out))⟩
    have q3 : (f == 3) = false := by simpa using h3
    by_cases h11 : f = 11
    · have q11 : (f == 11) = true := by simpa using h11
      have hn3 : 1 ≤ n := by have := HN.out.2; rw [h11] at this; simpa [wantR] using this
      have HRF3 : Hid (R = ((castv ((runK ks vs e.kids).getD 0 (0, 0)).2 k ((runK ks vs e.kids).getD 0 (0, 0)).1).1, k)) := Lib.hid (by rw [HRF.out, h11, runF_11])
      have hn0' : (0 : Int) < (n : Int) := by omega
      obtain ⟨b, o, rfl, hkid⟩ := kidF.out (by omega)
      obtain ⟨x0, z0, m0, y0, hx0, hc0, hi0⟩ := hkid 0 (by omega)
      obtain ⟨ra0, hra0⟩ : ∃ r, r = (runE ks vs x0).1 := ⟨_, rfl⟩
      obtain ⟨rk0, hrk0⟩ : ∃ r, r = (runE ks vs x0).2 := ⟨_, rfl⟩
      have hrr0 : runE ks vs x0 = (ra0, rk0) := by rw [hra0, hrk0]
      have HG0 : Hid ((runK ks vs e.kids).getD 0 (0, 0) = (ra0, rk0)) := Lib.hid (by rw [runK_getD ks vs hx0, hrr0])
      have HI0 : Hid (I64 ra0) := Lib.hid (by rw [hra0]; exact hi0)
      have HC0 := Lib.hid hc0
      rw [hrr0] at HC0
      clear hc0 hra0 hrk0 hrr0 hx0 hi0
      have HC : Hid (R = ((castv rk0 k ra0).1, k)) := Lib.hid (by rw [HRF3.out, HG0.out])
      clear h1 h2 h3 h5 h11 hkid
      go_enter Try.func47, Try.ntmps47
      go_upto_region 1 with fail
      generalize (w.alloc (.cells #[.int .i64 f, .int .i64 s, .int .i64 k, .int .i64 nn, .string nm, .slice _ n c] 35)) = wy at *
      generalize w.heap.size = Y at hby ⊢
      have d0 := hby.cells 0 _ rfl
      have d1 := hby.cells 1 _ rfl
      have d2 := hby.cells 2 _ rfl
      have d3 := hby.cells 3 _ rfl
      have d4 := hby.cells 4 _ rfl
      have d5 := hby.cells 5 _ rfl
      have hyl := hby.lt
      clear hby hxy
      obtain ⟨a0, a1, a2, a3, a4, a5, a6, -⟩ := HC0.out _ HR1.out.2
      rw [Nat.zero_mul, Nat.add_zero] at a0 a1 a2 a3 a4 a5
      go_upto_region 18 with (first | (go_at_call 47; refine (HC0.out _ HR1.out.2).2.2.2.2.2.2.2.mono ?_; rintro e1 w1 ⟨rfl, H1⟩; have d0 := H1.out.cell d0; have d1 := H1.out.cell d1; have d2 := H1.out.cell d2; have d5 := H1.out.cell d5; have hyl := Nat.lt_of_lt_of_le hyl H1.out.size) | (go_at_call 51; refine (bvCast_any _ _ _ _).mono ?_; rintro e2 w2 ⟨rfl, hx2⟩; have H2 := Lib.hid hx2; clear hx2; have d2 := H2.out.cell d2; have hyl := Nat.lt_of_lt_of_le hyl H2.out.size) | fail)
      (refine region_drew (by kernel_rfl) (by kernel_rfl) ?_; (repeat (go_big_quiet_step (fail))); refine wpQuiet_nil ?_; rintro _ ⟨nq, rfl⟩)
      go_wp2
      rw [HQ.out, HC.out]
      exact ⟨rfl, Lib.hid ((HR1.out.2.trans (H1.out.trans H2.out)).drewN _)⟩
    have q11 : (f == 11) = false := by simpa using h11
    have hn3 : 2 ≤ n := by have := HN.out.2; simpa [wantR, h1, h2, h3, h11, h5] using this
    have HRF3 : Hid (R = ((binv s ((runK ks vs e.kids).getD 0 (0, 0)).2 ((runK ks vs e.kids).getD 0 (0, 0)).1 ((runK ks vs e.kids).getD 1 (0, 0)).1).1, (binv s ((runK ks vs e.kids).getD 0 (0, 0)).2 ((runK ks vs e.kids).getD 0 (0, 0)).1 ((runK ks vs e.kids).getD 1 (0, 0)).1).2.1)) := Lib.hid (by rw [HRF.out, runF_o s k _ h5 h3 h11])
    have hn0' : (0 : Int) < (n : Int) := by omega
    have hn1' : (1 : Int) < (n : Int) := by omega
    obtain ⟨b, o, rfl, hkid⟩ := kidF.out (by omega)
    obtain ⟨x0, z0, m0, y0, hx0, hc0, hi0⟩ := hkid 0 (by omega)
    obtain ⟨ra0, hra0⟩ : ∃ r, r = (runE ks vs x0).1 := ⟨_, rfl⟩
    obtain ⟨rk0, hrk0⟩ : ∃ r, r = (runE ks vs x0).2 := ⟨_, rfl⟩
    have hrr0 : runE ks vs x0 = (ra0, rk0) := by rw [hra0, hrk0]
    have HG0 : Hid ((runK ks vs e.kids).getD 0 (0, 0) = (ra0, rk0)) := Lib.hid (by rw [runK_getD ks vs hx0, hrr0])
    have HI0 : Hid (I64 ra0) := Lib.hid (by rw [hra0]; exact hi0)
    have HC0 := Lib.hid hc0
    rw [hrr0] at HC0
    clear hc0 hra0 hrk0 hrr0 hx0 hi0
    obtain ⟨x1, z1, m1, y1, hx1, hc1, hi1⟩ := hkid 1 (by omega)
    obtain ⟨ra1, hra1⟩ : ∃ r, r = (runE ks vs x1).1 := ⟨_, rfl⟩
    obtain ⟨rk1, hrk1⟩ : ∃ r, r = (runE ks vs x1).2 := ⟨_, rfl⟩
    have hrr1 : runE ks vs x1 = (ra1, rk1) := by rw [hra1, hrk1]
    have HG1 : Hid ((runK ks vs e.kids).getD 1 (0, 0) = (ra1, rk1)) := Lib.hid (by rw [runK_getD ks vs hx1, hrr1])
    have HI1 : Hid (I64 ra1) := Lib.hid (by rw [hra1]; exact hi1)
    have HC1 := Lib.hid hc1
    rw [hrr1] at HC1
    clear hc1 hra1 hrk1 hrr1 hx1 hi1

    have HC : Hid (R = ((binv s rk0 ra0 ra1).1, (binv s rk0 ra0 ra1).2.1)) := Lib.hid (by rw [HRF3.out, HG0.out, HG1.out])
    clear h1 h2 h3 h5 h11 hkid
    go_enter Try.func47, Try.ntmps47
    go_upto_region 1 with fail
    generalize (w.alloc (.cells #[.int .i64 f, .int .i64 s, .int .i64 k, .int .i64 nn, .string nm, .slice _ n c] 35)) = wy at *
    generalize w.heap.size = Y at hby ⊢
    have d0 := hby.cells 0 _ rfl
    have d1 := hby.cells 1 _ rfl
    have d2 := hby.cells 2 _ rfl
    have d3 := hby.cells 3 _ rfl
    have d4 := hby.cells 4 _ rfl
    have d5 := hby.cells 5 _ rfl
    have hyl := hby.lt
    clear hby hxy
    obtain ⟨a0, a1, a2, a3, a4, a5, a6, -⟩ := HC0.out _ HR1.out.2
    rw [Nat.zero_mul, Nat.add_zero] at a0 a1 a2 a3 a4 a5
    go_wp2_with (first | (go_at_call 47; refine (HC1.out _ (HR1.out.2.trans H1.out)).2.2.2.2.2.2.2.mono ?_; rintro e2 w2 ⟨rfl, H2⟩; have d0 := H2.out.cell d0; have d1 := H2.out.cell d1; have d2 := H2.out.cell d2; have hyl := Nat.lt_of_lt_of_le hyl H2.out.size) | (go_at_call 47; refine (HC0.out _ HR1.out.2).2.2.2.2.2.2.2.mono ?_; rintro e1 w1 ⟨rfl, H1⟩; have d0 := H1.out.cell d0; have d1 := H1.out.cell d1; have d2 := H1.out.cell d2; have d5 := H1.out.cell d5; have hyl := Nat.lt_of_lt_of_le hyl H1.out.size; obtain ⟨u0, u1, u2, u3, u4, u5, u6, -⟩ := HC1.out _ (HR1.out.2.trans H1.out)) | (go_at_call 50; refine (bvBin_any _ _ _ _ HI1.out _).mono ?_; rintro e3 w3 ⟨rfl, hx3⟩; have H3 := Lib.hid hx3; clear hx3) | fail)
    rw [HQ.out, HC.out]
    exact ⟨rfl, Lib.hid (HR1.out.2.trans (H1.out.trans (H2.out.trans H3.out)))⟩
end Go.Proofs.Ytkjgghbdpmkmoaa

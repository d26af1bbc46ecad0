/-
  The walk: all statements are done.
  Condition: the statements and the run lie in memory.
-/
import Derived.Test.YtkjgghbdpmkmoaaObWi
namespace Go.Proofs.Ytkjgghbdpmkmoaa
open Go.RowKit Go.Maps
set_option linter.unusedSimpArgs false
set_option linter.unusedVariables false
set_option maxRecDepth 100000

/-! ### How many statements there are -/
mutual
def cntS : ST → Nat
  | .mk f _ _ t l => 1 + (if f = 3 then cntL t + cntL l else 0)
def cntL : List ST → Nat
  | [] => 0
  | s :: ss => cntS s + cntL ss
end
theorem doS_eq (ks : ENV) (s : ST) (vs : ENV) : doS ks s vs = if s.form = 3 then (if (runE ks vs s.e).1 ≠ 0 then doL ks s.thn vs else doL ks s.els vs) else (s.name, (runE ks vs s.e).1) :: vs := by
  cases s with
  | mk f nm e t l => rw [doS]; rfl
theorem cntS_eq (s : ST) : cntS s = 1 + (if s.form = 3 then cntL s.thn + cntL s.els else 0) := by
  cases s with
  | mk f nm e t l => rw [cntS]; rfl
theorem doL_step (ks : ENV) {l : List ST} {j : Nat} {s : ST} (h : l[j]? = some s) (vs : ENV) : doL ks (l.drop j) vs = doL ks (l.drop (j + 1)) (doS ks s vs) := by
  obtain ⟨h1, rfl⟩ := List.getElem?_eq_some_iff.1 h
  rw [List.drop_eq_getElem_cons h1, doL]
theorem cntL_step {l : List ST} {j : Nat} {s : ST} (h : l[j]? = some s) : cntL (l.drop j) = cntS s + cntL (l.drop (j + 1)) := by
  obtain ⟨h1, rfl⟩ := List.getElem?_eq_some_iff.1 h
  rw [List.drop_eq_getElem_cons h1, cntL]
theorem getV_cons (n m : ByteArray) (v : Int) (vs : ENV) : getV ((m, v) :: vs) n = if m = n then v else getV vs n := by
  unfold getV
  by_cases h : m = n
  · simp [h]
  · rw [List.find?_cons_of_neg (by simpa using h), if_neg h]
mutual
theorem doS_inv (ks : ENV) : ∀ (s : ST) (vs : ENV), allS runP s → (∀ n, I64 (getV vs n)) → (∀ n, I64 (getV (doS ks s vs) n)) ∧ (doS ks s vs).length ≤ vs.length + cntS s
  | .mk f nm e t l, vs, h, hv => by
    have hh := h.here
    rw [doS, cntS]
    by_cases h3 : f = 3
    · rw [if_pos h3, if_pos h3]
      have hsub := hh.2 h3
      by_cases hc : (runE ks vs e).1 ≠ 0
      · rw [if_pos hc]
        have := doL_inv ks t vs hsub.1 hv
        exact ⟨this.1, by have := this.2; omega⟩
      · rw [if_neg hc]
        have := doL_inv ks l vs hsub.2 hv
        exact ⟨this.1, by have := this.2; omega⟩
    · rw [if_neg h3, if_neg h3]
      refine ⟨fun n => ?_, by simp⟩
      rw [getV_cons]
      by_cases hn : nm = n
      · rw [if_pos hn]
        exact runE_64 hv e hh.1.1.parts.2.2.1
      · rw [if_neg hn]; exact hv n
theorem doL_inv (ks : ENV) : ∀ (l : List ST) (vs : ENV), allL runP l → (∀ n, I64 (getV vs n)) → (∀ n, I64 (getV (doL ks l vs) n)) ∧ (doL ks l vs).length ≤ vs.length + cntL l
  | [], vs, _, hv => by rw [doL, cntL]; exact ⟨hv, by omega⟩
  | s :: ss, vs, h, hv => by
    unfold allL at h
    rw [doL, cntL]
    have h1 := doS_inv ks s vs h.1 hv
    have h2 := doL_inv ks ss (doS ks s vs) h.2 h1.1
    exact ⟨h2.1, by have := h1.2; have := h2.2; omega⟩
end
set_option maxHeartbeats 8000000 in
theorem branch_any (W0 : World) (X K V : Nat) (ks vs : ENV) (hv : ∀ n, I64 (getV vs n)) (w : World) (s : ST) (x : S3) (hr : RK W0 X K V ks vs w) (hs : SIn W0 s x) (hok : runP s)
    (HT : ∀ w1, RK W0 X K V ks vs w1 → Calls Try.prog 22 #[.pointer (some ⟨X, 0, none⟩), x.tv] w1 (RetD W0 X K V ks (doL ks s.thn vs) w1))
    (HL : ∀ w1, RK W0 X K V ks vs w1 → Calls Try.prog 22 #[.pointer (some ⟨X, 0, none⟩), x.ev] w1 (RetD W0 X K V ks (doL ks s.els vs) w1)) :
    Calls Try.prog 41 #[.pointer (some ⟨X, 0, none⟩), sVal s x] w (RetD W0 X K V ks (if (runE ks vs s.e).1 ≠ 0 then doL ks s.thn vs else doL ks s.els vs) w) := by
  obtain ⟨R, hR⟩ : ∃ R, R = if (runE ks vs s.e).1 ≠ 0 then doL ks s.thn vs else doL ks s.els vs := ⟨_, rfl⟩
  rw [← hR]
  obtain ⟨Q, hQ⟩ : ∃ Q, Q = RetD W0 X K V ks R w := ⟨_, rfl⟩
  rw [← hQ]
  have HQ := Lib.hid hQ
  have HR := Lib.hid hR
  obtain ⟨hp1, hp2, hp3⟩ := hs.parts
  obtain ⟨kv, tv, ev⟩ := x
  obtain ⟨pk, ck, e1, -, -⟩ := hp1.slice
  obtain ⟨pt, ct, e2, -, -⟩ := hp2.slice
  obtain ⟨pe, ce, e3, -, -⟩ := hp3.slice
  simp only at e1 e2 e3
  subst e1
  subst e2
  subst e3
  obtain ⟨f, hf⟩ : ∃ f, f = s.form := ⟨_, rfl⟩
  obtain ⟨nk, hnk⟩ : ∃ f, f = s.e.kids.length := ⟨_, rfl⟩
  obtain ⟨nt, hnt⟩ : ∃ f, f = s.thn.length := ⟨_, rfl⟩
  obtain ⟨ne, hne⟩ : ∃ f, f = s.els.length := ⟨_, rfl⟩
  have HV := Lib.hid (show sVal s ⟨.slice pk s.e.kids.length ck, .slice pt s.thn.length ct, .slice pe s.els.length ce⟩ = .agg #[.int .i64 f, .string s.name, .int .i64 s.e.form, .int .i64 s.e.sub, .int .i64 s.e.kind, .int .i64 s.e.n, .string s.e.name, .slice pk nk ck, .slice pt nt ct, .slice pe ne ce] by rw [hf, hnk, hnt, hne]; rfl)
  have HE := Lib.hid (show eVal s.e (.slice pk s.e.kids.length ck) = .agg #[.int .i64 s.e.form, .int .i64 s.e.sub, .int .i64 s.e.kind, .int .i64 s.e.n, .string s.e.name, .slice pk nk ck] by rw [hnk]; rfl)
  rw [HV.out]
  have HF := Lib.hid hf
  have hby : BoxV w.heap.size [.int .i64 f, .string s.name, .int .i64 s.e.form, .int .i64 s.e.sub, .int .i64 s.e.kind, .int .i64 s.e.n, .string s.e.name, .slice pk nk ck, .slice pt nt ct, .slice pe ne ce] (w.alloc (.cells #[.int .i64 f, .string s.name, .int .i64 s.e.form, .int .i64 s.e.sub, .int .i64 s.e.kind, .int .i64 s.e.n, .string s.e.name, .slice pk nk ck, .slice pt nt ct, .slice pe ne ce] 37)) := BoxV.of_row (heap_alloc_last w _)
  have hxy : Ext w (w.alloc (.cells #[.int .i64 f, .string s.name, .int .i64 s.e.form, .int .i64 s.e.sub, .int .i64 s.e.kind, .int .i64 s.e.n, .string s.e.name, .slice pk nk ck, .slice pt nt ct, .slice pe ne ce] 37)) := (Ext.refl w).alloc _
  have HXY := Lib.hid hxy
  have HP1 := Lib.hid hp1
  simp only [← hnt, ← hne] at HT HL
  have hr1 := hr.next hxy
  obtain ⟨va, hva⟩ : ∃ z, z = (runE ks vs s.e).1 := ⟨_, rfl⟩
  obtain ⟨ka, hka⟩ : ∃ z, z = (runE ks vs s.e).2 := ⟨_, rfl⟩
  have HRR : Hid (R = if va ≠ 0 then doL ks s.thn vs else doL ks s.els vs) := Lib.hid (by rw [HR.out, hva])
  have HF1 : Hid (Calls Try.prog 47 #[.pointer (some ⟨X, 0, none⟩), .agg #[.int .i64 s.e.form, .int .i64 s.e.sub, .int .i64 s.e.kind, .int .i64 s.e.n, .string s.e.name, .slice pk nk ck]] (w.alloc (.cells #[.int .i64 f, .string s.name, .int .i64 s.e.form, .int .i64 s.e.sub, .int .i64 s.e.kind, .int .i64 s.e.n, .string s.e.name, .slice pk nk ck, .slice pt nt ct, .slice pe ne ce] 37)) (RetII (va, ka) (w.alloc (.cells #[.int .i64 f, .string s.name, .int .i64 s.e.form, .int .i64 s.e.sub, .int .i64 s.e.kind, .int .i64 s.e.n, .string s.e.name, .slice pk nk ck, .slice pt nt ct, .slice pe ne ce] 37)))) := Lib.hid (by
    rw [← HE.out, hva, hka]
    exact exp_at W0 X K V ks vs hv _ s.e (Nat.lt_succ_self _) _ _ hr1 hp1 hok.1.parts.2.2.1 hok.2.2)
  have HRK := Lib.hid hr1
  have HT2 := Lib.hid HT
  have HL2 := Lib.hid HL
  clear hQ hR hp1 hp2 hp3 hf hnk hnt hne hs hr hr1 hok HR HV HE HP1 hva hka HT HL
  by_cases h0 : va = 0
  · have q0 : (va != 0) = false := by simpa using h0
    have HC : Hid (R = doL ks s.els vs) := Lib.hid (by rw [HRR.out]; simp [h0])
    clear h0
    go_enter Try.func41, Try.ntmps41
    go_upto_region 1 with fail
    generalize (w.alloc (.cells #[.int .i64 f, .string s.name, .int .i64 s.e.form, .int .i64 s.e.sub, .int .i64 s.e.kind, .int .i64 s.e.n, .string s.e.name, .slice pk nk ck, .slice pt nt ct, .slice pe ne ce] 37)) = wy at hby hxy HXY HF1 HRK ⊢
    generalize w.heap.size = Y at hby ⊢
    have d0 := hby.cells 0 _ rfl
    have d1 := hby.cells 1 _ rfl
    have d2 := hby.cells 2 _ rfl
    have d3 := hby.cells 3 _ rfl
    have d4 := hby.cells 4 _ rfl
    have d5 := hby.cells 5 _ rfl
    have d6 := hby.cells 6 _ rfl
    have d7 := hby.cells 7 _ rfl
    have d8 := hby.cells 8 _ rfl
    have d9 := hby.cells 9 _ rfl
    have hyl := hby.lt
    have HBY := Lib.hid hby
    clear hby hxy
    go_wp2_with (first | (go_at_call 47; refine HF1.out.mono ?_; rintro e1 w1 ⟨rfl, H1⟩; have d0 := H1.out.cell d0; have d8 := H1.out.cell d8; have d9 := H1.out.cell d9; have hyl := Nat.lt_of_lt_of_le hyl H1.out.size) | (go_at_call 22; refine (HL2.out _ (HRK.out.next H1.out)).mono ?_; rintro e2 w2 ⟨rfl, H2⟩) | fail)
    refine bodyPost_end (results_none rfl _ _ _) rfl ?_
    rw [HQ.out, HC.out]
    exact ⟨rfl, Lib.hid ⟨(Kb.of_ext (HXY.out.trans H1.out)).trans H2.out.1, H2.out.2⟩⟩
  · have q0 : (va != 0) = true := by simpa using h0
    have HC : Hid (R = doL ks s.thn vs) := Lib.hid (by rw [HRR.out]; simp [h0])
    clear h0
    go_enter Try.func41, Try.ntmps41
    go_upto_region 1 with fail
    generalize (w.alloc (.cells #[.int .i64 f, .string s.name, .int .i64 s.e.form, .int .i64 s.e.sub, .int .i64 s.e.kind, .int .i64 s.e.n, .string s.e.name, .slice pk nk ck, .slice pt nt ct, .slice pe ne ce] 37)) = wy at hby hxy HXY HF1 HRK ⊢
    generalize w.heap.size = Y at hby ⊢
    have d0 := hby.cells 0 _ rfl
    have d1 := hby.cells 1 _ rfl
    have d2 := hby.cells 2 _ rfl
    have d3 := hby.cells 3 _ rfl
    have d4 := hby.cells 4 _ rfl
    have d5 := hby.cells 5 _ rfl
    have d6 := hby.cells 6 _ rfl
    have d7 := hby.cells 7 _ rfl
    have d8 := hby.cells 8 _ rfl
    have d9 := hby.cells 9 _ rfl
    have hyl := hby.lt
    have HBY := Lib.hid hby
    clear hby hxy
    go_wp2_with (first | (go_at_call 47; refine HF1.out.mono ?_; rintro e1 w1 ⟨rfl, H1⟩; have d0 := H1.out.cell d0; have d8 := H1.out.cell d8; have d9 := H1.out.cell d9; have hyl := Nat.lt_of_lt_of_le hyl H1.out.size) | (go_at_call 22; refine (HT2.out _ (HRK.out.next H1.out)).mono ?_; rintro e2 w2 ⟨rfl, H2⟩) | fail)
    refine bodyPost_end (results_none rfl _ _ _) rfl ?_
    rw [HQ.out, HC.out]
    exact ⟨rfl, Lib.hid ⟨(Kb.of_ext (HXY.out.trans H1.out)).trans H2.out.1, H2.out.2⟩⟩
end Go.Proofs.Ytkjgghbdpmkmoaa

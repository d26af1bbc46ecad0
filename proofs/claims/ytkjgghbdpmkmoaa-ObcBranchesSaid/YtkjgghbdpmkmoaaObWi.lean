/-
  The walk: statements are done.
  Condition: the statements and the run lie in memory.
-/
import Derived.Test.YtkjgghbdpmkmoaaObWh
import Derived.Test.YtkjgghbdpmkmoaaObW2
namespace Go.Proofs.Ytkjgghbdpmkmoaa
open Go.RowKit Go.Maps
set_option linter.unusedSimpArgs false
set_option linter.unusedVariables false
set_option maxRecDepth 100000

/-- What is asked of statements that are done. -/
def runP (s : ST) : Prop := okS s ∧ (s.form = 1 ∨ s.form = 2 ∨ s.form = 3) ∧ frR s.e
def RetD (W0 : World) (X K V : Nat) (ks vs : ENV) (w : World) (e : Ending) (w' : World) : Prop := e = .returned (.tuple #[]) ∧ Hid (Kb [V] w w' ∧ RK W0 X K V ks vs w')
set_option maxHeartbeats 8000000 in
theorem set_any (W0 : World) (X K V : Nat) (ks vs : ENV) (hv : ∀ n, I64 (getV vs n)) (hl : vs.length ≤ 1000000000000) (w : World) (s : ST) (x : S3) (hr : RK W0 X K V ks vs w) (hs : SIn W0 s x) (hok : runP s) :
    Calls Try.prog 40 #[.pointer (some ⟨X, 0, none⟩), sVal s x] w (RetD W0 X K V ks ((s.name, (runE ks vs s.e).1) :: vs) w) := by
  obtain ⟨R, hR⟩ : ∃ R, R = (s.name, (runE ks vs s.e).1) :: vs := ⟨_, rfl⟩
  rw [← hR]
  obtain ⟨Q, hQ⟩ : ∃ Q, Q = RetD W0 X K V ks R w := ⟨_, rfl⟩
  rw [← hQ]
  have HQ := Lib.hid hQ
  have HR := Lib.hid hR
  obtain ⟨hp1, hp2, hp3⟩ := hs.parts
  obtain ⟨kv, tv, ev⟩ := x
  obtain ⟨pk, ck, e1, -, -⟩ := hp1.slice
  obtain ⟨pt, ct, e2, -, -⟩ := hp2.slice
  obtain ⟨pe, ce, e3, -, -⟩ := hp3.slice
  simp only at e1 e2 e3
  subst e1
  subst e2
  subst e3
  obtain ⟨f, hf⟩ : ∃ f, f = s.form := ⟨_, rfl⟩
  obtain ⟨nk, hnk⟩ : ∃ f, f = s.e.kids.length := ⟨_, rfl⟩
  obtain ⟨nt, hnt⟩ : ∃ f, f = s.thn.length := ⟨_, rfl⟩
  obtain ⟨ne, hne⟩ : ∃ f, f = s.els.length := ⟨_, rfl⟩
  have HV := Lib.hid (show sVal s ⟨.slice pk s.e.kids.length ck, .slice pt s.thn.length ct, .slice pe s.els.length ce⟩ = .agg #[.int .i64 f, .string s.name, .int .i64 s.e.form, .int .i64 s.e.sub, .int .i64 s.e.kind, .int .i64 s.e.n, .string s.e.name, .slice pk nk ck, .slice pt nt ct, .slice pe ne ce] by rw [hf, hnk, hnt, hne]; rfl)
  have HE := Lib.hid (show eVal s.e (.slice pk s.e.kids.length ck) = .agg #[.int .i64 s.e.form, .int .i64 s.e.sub, .int .i64 s.e.kind, .int .i64 s.e.n, .string s.e.name, .slice pk nk ck] by rw [hnk]; rfl)
  rw [HV.out]
  have HF := Lib.hid hf
  have hby : BoxV w.heap.size [.int .i64 f, .string s.name, .int .i64 s.e.form, .int .i64 s.e.sub, .int .i64 s.e.kind, .int .i64 s.e.n, .string s.e.name, .slice pk nk ck, .slice pt nt ct, .slice pe ne ce] (w.alloc (.cells #[.int .i64 f, .string s.name, .int .i64 s.e.form, .int .i64 s.e.sub, .int .i64 s.e.kind, .int .i64 s.e.n, .string s.e.name, .slice pk nk ck, .slice pt nt ct, .slice pe ne ce] 37)) := BoxV.of_row (heap_alloc_last w _)
  have hxy : Ext w (w.alloc (.cells #[.int .i64 f, .string s.name, .int .i64 s.e.form, .int .i64 s.e.sub, .int .i64 s.e.kind, .int .i64 s.e.n, .string s.e.name, .slice pk nk ck, .slice pt nt ct, .slice pe ne ce] 37)) := (Ext.refl w).alloc _
  have HXY := Lib.hid hxy
  have HP1 := Lib.hid hp1
  have hr1 := hr.next hxy
  obtain ⟨nm, hnm⟩ : ∃ z, z = s.name := ⟨_, rfl⟩
  have hnsz : nm.size ≤ maxLen := by rw [hnm]; exact hok.1.parts.2.1
  obtain ⟨va, hva⟩ : ∃ z, z = (runE ks vs s.e).1 := ⟨_, rfl⟩
  obtain ⟨ka, hka⟩ : ∃ z, z = (runE ks vs s.e).2 := ⟨_, rfl⟩
  have HRR : Hid (R = (nm, va) :: vs) := Lib.hid (by rw [HR.out, hnm, hva])
  have HF1 : Hid (∀ w1, Ext (w.alloc (.cells #[.int .i64 f, .string s.name, .int .i64 s.e.form, .int .i64 s.e.sub, .int .i64 s.e.kind, .int .i64 s.e.n, .string s.e.name, .slice pk nk ck, .slice pt nt ct, .slice pe ne ce] 37)) w1 → Calls Try.prog 47 #[.pointer (some ⟨X, 0, none⟩), .agg #[.int .i64 s.e.form, .int .i64 s.e.sub, .int .i64 s.e.kind, .int .i64 s.e.n, .string s.e.name, .slice pk nk ck]] w1 fun e w' => e = .returned (.tuple #[.int .i64 va, .int .i64 ka]) ∧ Ext w1 w') := Lib.hid (fun w1 hx1 => by
    rw [← HE.out]
    refine (exp_at W0 X K V ks vs hv _ s.e (Nat.lt_succ_self _) _ w1 (hr1.next hx1) hp1 hok.1.parts.2.2.1 hok.2.2).mono ?_
    rintro e1 w2 ⟨h1, h2⟩
    exact ⟨by rw [h1, hva, hka], h2.out⟩)
  have HPT : Hid (∀ w1, Ext (w.alloc (.cells #[.int .i64 f, .string s.name, .int .i64 s.e.form, .int .i64 s.e.sub, .int .i64 s.e.kind, .int .i64 s.e.n, .string s.e.name, .slice pk nk ck, .slice pt nt ct, .slice pe ne ce] 37)) w1 → ∃ w', (Instr.mapUpdate 62 (.map (some V)) (.string nm) (.int .i64 va)).run Try.prog w1 = .ok () w' ∧ Kb [V] w1 w' ∧ RK W0 X K V ks ((nm, va) :: vs) w') := Lib.hid (fun w1 hx1 => (hr1.next hx1).putV hnsz hl va)
  have HXV : Hid (X ≠ V ∧ w.heap.size ≠ V) := Lib.hid ⟨hr.xv, fun e => absurd hr.vmap.lt (by rw [e]; exact Nat.lt_irrefl _)⟩
  have g1 := hr1.box.cells 1 _ rfl
  have gl := hr1.box.lt
  rw [← hnm] at hby hxy HXY HF1 HPT g1 gl ⊢
  clear hQ hR hp1 hp2 hp3 hf hnk hnt hne hs hr hr1 hok hnsz HR HV HE HP1 hnm hva hka hl
  go_enter Try.func40, Try.ntmps40
  go_upto_region 1 with fail
  generalize (w.alloc (.cells #[.int .i64 f, .string nm, .int .i64 s.e.form, .int .i64 s.e.sub, .int .i64 s.e.kind, .int .i64 s.e.n, .string s.e.name, .slice pk nk ck, .slice pt nt ct, .slice pe ne ce] 37)) = wy at hby hxy HXY HF1 HPT g1 gl ⊢
  generalize w.heap.size = Y at hby HXV ⊢
  have d1 := hby.cells 1 _ rfl
  have d2 := hby.cells 2 _ rfl
  have d3 := hby.cells 3 _ rfl
  have d4 := hby.cells 4 _ rfl
  have d5 := hby.cells 5 _ rfl
  have d6 := hby.cells 6 _ rfl
  have d7 := hby.cells 7 _ rfl
  have hyl := hby.lt
  clear hby hxy
  have HVX : Hid (X ∉ [V] ∧ Y ∉ [V]) := Lib.hid ⟨by simpa using HXV.out.1, by simpa using HXV.out.2⟩
  have hq0 : wy.cell? ⟨X, 1, none⟩ = some (.map (some V)) ∧ wy.cell? ⟨Y, 1, none⟩ = some (.string nm) ∧ wy.cell? ⟨Y, 2, none⟩ = some (.int .i64 s.e.form) ∧ wy.cell? ⟨Y, 3, none⟩ = some (.int .i64 s.e.sub) ∧ wy.cell? ⟨Y, 4, none⟩ = some (.int .i64 s.e.kind) ∧ wy.cell? ⟨Y, 5, none⟩ = some (.int .i64 s.e.n) ∧ wy.cell? ⟨Y, 6, none⟩ = some (.string s.e.name) ∧ wy.cell? ⟨Y, 7, none⟩ = some (.slice pk nk ck) := ⟨g1, d1, d2, d3, d4, d5, d6, d7⟩
  go_region_held3 (fun w' => w'.cell? ⟨X, 1, none⟩ = some (.map (some V)) ∧ w'.cell? ⟨Y, 1, none⟩ = some (.string nm) ∧ w'.cell? ⟨Y, 2, none⟩ = some (.int .i64 s.e.form) ∧ w'.cell? ⟨Y, 3, none⟩ = some (.int .i64 s.e.sub) ∧ w'.cell? ⟨Y, 4, none⟩ = some (.int .i64 s.e.kind) ∧ w'.cell? ⟨Y, 5, none⟩ = some (.int .i64 s.e.n) ∧ w'.cell? ⟨Y, 6, none⟩ = some (.string s.e.name) ∧ w'.cell? ⟨Y, 7, none⟩ = some (.slice pk nk ck))
    (first | exact hq0 | exact hq1 | exact hq2)
    (first | (go_at_call 47; refine (HF1.out _ (Ext.refl wy).drew).mono ?_; rintro e1 w1 ⟨rfl, hx1⟩; obtain ⟨w2, hrun, hk2, hr2⟩ := HPT.out w1 ((Ext.refl wy).drew.trans hx1); have H1 := Lib.hid (show Ext wy w1 from (Ext.refl wy).drew.trans hx1); have H2 := Lib.hid (And.intro hk2 hr2); have hq1 : w1.cell? ⟨X, 1, none⟩ = some (.map (some V)) ∧ w1.cell? ⟨Y, 1, none⟩ = some (.string nm) ∧ w1.cell? ⟨Y, 2, none⟩ = some (.int .i64 s.e.form) ∧ w1.cell? ⟨Y, 3, none⟩ = some (.int .i64 s.e.sub) ∧ w1.cell? ⟨Y, 4, none⟩ = some (.int .i64 s.e.kind) ∧ w1.cell? ⟨Y, 5, none⟩ = some (.int .i64 s.e.n) ∧ w1.cell? ⟨Y, 6, none⟩ = some (.string s.e.name) ∧ w1.cell? ⟨Y, 7, none⟩ = some (.slice pk nk ck) := ⟨hx1.cell hq0.1, hx1.cell hq0.2.1, hx1.cell hq0.2.2.1, hx1.cell hq0.2.2.2.1, hx1.cell hq0.2.2.2.2.1, hx1.cell hq0.2.2.2.2.2.1, hx1.cell hq0.2.2.2.2.2.2.1, hx1.cell hq0.2.2.2.2.2.2.2⟩; have hq2 : w2.cell? ⟨X, 1, none⟩ = some (.map (some V)) ∧ w2.cell? ⟨Y, 1, none⟩ = some (.string nm) ∧ w2.cell? ⟨Y, 2, none⟩ = some (.int .i64 s.e.form) ∧ w2.cell? ⟨Y, 3, none⟩ = some (.int .i64 s.e.sub) ∧ w2.cell? ⟨Y, 4, none⟩ = some (.int .i64 s.e.kind) ∧ w2.cell? ⟨Y, 5, none⟩ = some (.int .i64 s.e.n) ∧ w2.cell? ⟨Y, 6, none⟩ = some (.string s.e.name) ∧ w2.cell? ⟨Y, 7, none⟩ = some (.slice pk nk ck) := ⟨hk2.cell HVX.out.1 hq1.1, hk2.cell HVX.out.2 hq1.2.1, hk2.cell HVX.out.2 hq1.2.2.1, hk2.cell HVX.out.2 hq1.2.2.2.1, hk2.cell HVX.out.2 hq1.2.2.2.2.1, hk2.cell HVX.out.2 hq1.2.2.2.2.2.1, hk2.cell HVX.out.2 hq1.2.2.2.2.2.2.1, hk2.cell HVX.out.2 hq1.2.2.2.2.2.2.2⟩; clear hk2 hr2 hx1))
  all_goals
    go_wp2
    refine bodyPost_end (results_none rfl _ _ _) rfl ?_
    rw [HQ.out, HRR.out]
    exact ⟨rfl, Lib.hid ⟨(Kb.of_ext (HXY.out.trans H1.out)).trans H2.out.1, H2.out.2⟩⟩
end Go.Proofs.Ytkjgghbdpmkmoaa

/-
  The walk: whether names are there, and kinds go together: what is asked of each.
  Condition: the step code and its checker lie in memory.
-/
import Derived.Test.YtkjgghbdpmkmoaaObWc
import Derived.Test.YtkjgghbdpmkmoaaObWa
namespace Go.Proofs.Ytkjgghbdpmkmoaa
open Go.RowKit Go.Maps
set_option linter.unusedSimpArgs false
set_option linter.unusedVariables false
set_option maxRecDepth 100000

/-- The checker, and the box of the pointer to it. -/
def StX (W0 : World) (x : S5) (X M : Nat) (t : NT) (c : Int) (B : Nat) (_ : Unit) (w : World) : Prop := CK W0 x X M (ntL t) c w ∧ BoxV B [.pointer (some ⟨X, 0, none⟩)] w
theorem StX.next {W0 : World} {x : S5} {X M : Nat} {t : NT} {c : Int} {B : Nat} {u : Unit} {w w' : World} (h : StX W0 x X M t c B u w) (hx : Ext w w') : StX W0 x X M t c B u w' := ⟨h.1.next hx, h.2.ext hx⟩
def thereE (t : NT) (_ : Unit) (e : CE) : Unit × Bool := ((), decide (e.form ≠ 2) || decide (isN t e.name ≠ 0))
def thereS1 (t : NT) (_ : Unit) (s : ST) : Unit × Bool := ((), if s.form = 1 then decide (isN t s.name = 2 ∨ isN t s.name = 3) else if s.form = 2 then decide (isN t s.name = 4) else true)
def typeS1 (t : NT) (_ : Unit) (s : ST) : Unit × Bool := ((), if s.form = 3 then decide (kindE (kindN t) s.e = 1) else decide (kindE (kindN t) s.e = kindN t s.name))
set_option maxHeartbeats 4000000 in
theorem there1_any (W0 : World) (x5 : S5) (X M : Nat) (t : NT) (c0 : Int) (B : Nat) (w : World) (e : CE) (kv : Value) (hk : KIn w e kv) (hst : StX W0 x5 X M t c0 B () w) (hok : okE e) :
    Calls Try.prog 35 #[eVal e kv, .pointer (some ⟨B, 0, none⟩)] w (RetB [] (StX W0 x5 X M t c0 B) (thereE t () e) w) := by
  obtain ⟨R, hR⟩ : ∃ R, R = thereE t () e := ⟨_, rfl⟩
  rw [← hR]
  obtain ⟨Q, hQ⟩ : ∃ Q, Q = RetB [] (StX W0 x5 X M t c0 B) R w := ⟨_, rfl⟩
  rw [← hQ]
  have HQ := Lib.hid hQ
  have HR := Lib.hid hR
  obtain ⟨p, c, rfl, hkc, hcm⟩ := hk.slice
  obtain ⟨n, hn⟩ : ∃ n, n = e.kids.length := ⟨_, rfl⟩
  rw [← hn]
  obtain ⟨f, hf⟩ : ∃ f, f = e.form := ⟨_, rfl⟩
  obtain ⟨sb, hs⟩ : ∃ s, s = e.sub := ⟨_, rfl⟩
  obtain ⟨k, hk2⟩ : ∃ s, s = e.kind := ⟨_, rfl⟩
  obtain ⟨nn, hnn⟩ : ∃ s, s = e.n := ⟨_, rfl⟩
  obtain ⟨nm, hnm⟩ : ∃ s, s = e.name := ⟨_, rfl⟩
  have HE := Lib.hid (show eVal e (.slice p n c) = .agg #[.int .i64 f, .int .i64 sb, .int .i64 k, .int .i64 nn, .string nm, .slice p n c] by rw [hf, hs, hk2, hnn, hnm]; rfl)
  rw [HE.out]
  have HL := Lib.hid (And.intro hf (And.intro hs (And.intro hk2 (And.intro hnn (And.intro hnm hn)))))
  have hby : BoxV w.heap.size [.int .i64 f, .int .i64 sb, .int .i64 k, .int .i64 nn, .string nm, .slice p n c] (w.alloc (.cells #[.int .i64 f, .int .i64 sb, .int .i64 k, .int .i64 nn, .string nm, .slice p n c] 35)) := BoxV.of_row (heap_alloc_last w _)
  have hxy : Ext w (w.alloc (.cells #[.int .i64 f, .int .i64 sb, .int .i64 k, .int .i64 nn, .string nm, .slice p n c] 35)) := (Ext.refl w).alloc _
  have HXY := Lib.hid hxy
  have HK : Hid (R = ((), decide (f ≠ 2) || decide (isN t nm ≠ 0))) := Lib.hid (by rw [HR.out, hf, hnm]; rfl)
  have hst2 := hst.next hxy
  have HST := Lib.hid hst2
  have hnsz : nm.size ≤ maxLen := by rw [hnm]; exact hok.name
  have hlk := fun n' : Nat => (hst2.1.next ((Ext.refl _).drewN n')).look hnsz
  obtain ⟨ka, hka⟩ : ∃ z, z = kindN t nm := ⟨_, rfl⟩
  obtain ⟨ia, hia⟩ : ∃ z, z = isN t nm := ⟨_, rfl⟩
  rw [← hia] at HK
  rw [← hka, ← hia] at hlk
  unfold whatV at hlk
  have b0 := hst2.2.cells 0 _ rfl
  have bl := hst2.2.lt
  have g5 := hst2.1.box.cells 5 _ rfl
  have gl := hst2.1.box.lt
  clear hQ hR hk hn hf hs hk2 hnn hnm hkc hcm hst hst2 hok hnsz hka hia
  by_cases h1 : f = 2
  · have q1 : (f != 2) = false := by simpa using h1
    have HC : Hid (R = ((), decide (ia ≠ 0))) := Lib.hid (by rw [HK.out]; simp [h1])
    obtain ⟨b, hb⟩ : ∃ b, b = decide (ia ≠ 0) := ⟨_, rfl⟩
    have q2 : (ia != 0) = b := by rw [hb]; by_cases h : ia = 0 <;> simp [h]
    rw [← hb] at HC
    clear h1 hb
    go_enter Try.func35, Try.ntmps35
    go_upto_region 1 with fail
    generalize (w.alloc (.cells #[.int .i64 f, .int .i64 sb, .int .i64 k, .int .i64 nn, .string nm, .slice p n c] 35)) = wy at hby hxy HXY HST hlk b0 bl g5 gl ⊢
    generalize w.heap.size = Y at hby ⊢
    have d0 := hby.cells 0 _ rfl
    have d4 := hby.cells 4 _ rfl
    have hyl := hby.lt
    clear hby hxy
    (refine region_drew (by kernel_rfl) (by kernel_rfl) ?_; (repeat (go_big_quiet_step (fail))); refine wpQuiet_nil ?_; rintro _ ⟨nq, rfl⟩)
    go_wp2
    rw [HQ.out, HC.out]
    exact ⟨rfl, Lib.hid ⟨Kb.of_ext (HXY.out.drewN _), HST.out.next ((Ext.refl _).drewN _)⟩⟩
  · have q1 : (f != 2) = true := by simpa using h1
    have HC : Hid (R = ((), true)) := Lib.hid (by rw [HK.out]; simp [h1])
    clear h1
    go_enter Try.func35, Try.ntmps35
    go_upto_region 1 with fail
    generalize (w.alloc (.cells #[.int .i64 f, .int .i64 sb, .int .i64 k, .int .i64 nn, .string nm, .slice p n c] 35)) = wy at hby hxy HXY HST hlk b0 bl g5 gl ⊢
    generalize w.heap.size = Y at hby ⊢
    have d0 := hby.cells 0 _ rfl
    have hyl := hby.lt
    clear hby hxy
    (refine region_drew (by kernel_rfl) (by kernel_rfl) ?_; (repeat (go_big_quiet_step (fail))); refine wpQuiet_nil ?_; rintro _ ⟨nq, rfl⟩)
    go_wp2
    rw [HQ.out, HC.out]
    exact ⟨rfl, Lib.hid ⟨Kb.of_ext (HXY.out.drewN _), HST.out.next ((Ext.refl _).drewN _)⟩⟩
set_option maxHeartbeats 4000000 in
theorem there2_any (W0 : World) (x5 : S5) (X M : Nat) (t : NT) (c0 : Int) (B : Nat) (w : World) (s : ST) (x : S3) (hs : SIn w s x) (hst : StX W0 x5 X M t c0 B () w) (hok : okS s) :
    Calls Try.prog 36 #[sVal s x, .pointer (some ⟨B, 0, none⟩)] w (RetB [] (StX W0 x5 X M t c0 B) (thereS1 t () s) w) := by
  obtain ⟨R, hR⟩ : ∃ R, R = thereS1 t () s := ⟨_, rfl⟩
  rw [← hR]
  obtain ⟨Q, hQ⟩ : ∃ Q, Q = RetB [] (StX W0 x5 X M t c0 B) R w := ⟨_, rfl⟩
  rw [← hQ]
  have HQ := Lib.hid hQ
  have HR := Lib.hid hR
  obtain ⟨hp1, hp2, hp3⟩ := hs.parts
  obtain ⟨kv, tv, ev⟩ := x
  obtain ⟨pk, ck, e1, -, -⟩ := hp1.slice
  obtain ⟨pt, ct, e2, -, -⟩ := hp2.slice
  obtain ⟨pe, ce, e3, -, -⟩ := hp3.slice
  simp only at e1 e2 e3
  subst e1
  subst e2
  subst e3
  obtain ⟨f, hf⟩ : ∃ f, f = s.form := ⟨_, rfl⟩
  obtain ⟨nk, hnk⟩ : ∃ f, f = s.e.kids.length := ⟨_, rfl⟩
  obtain ⟨nt, hnt⟩ : ∃ f, f = s.thn.length := ⟨_, rfl⟩
  obtain ⟨ne, hne⟩ : ∃ f, f = s.els.length := ⟨_, rfl⟩
  have HV := Lib.hid (show sVal s ⟨.slice pk s.e.kids.length ck, .slice pt s.thn.length ct, .slice pe s.els.length ce⟩ = .agg #[.int .i64 f, .string s.name, .int .i64 s.e.form, .int .i64 s.e.sub, .int .i64 s.e.kind, .int .i64 s.e.n, .string s.e.name, .slice pk nk ck, .slice pt nt ct, .slice pe ne ce] by rw [hf, hnk, hnt, hne]; rfl)
  have HE := Lib.hid (show eVal s.e (.slice pk s.e.kids.length ck) = .agg #[.int .i64 s.e.form, .int .i64 s.e.sub, .int .i64 s.e.kind, .int .i64 s.e.n, .string s.e.name, .slice pk nk ck] by rw [hnk]; rfl)
  rw [HV.out]
  have HF := Lib.hid hf
  have hby : BoxV w.heap.size [.int .i64 f, .string s.name, .int .i64 s.e.form, .int .i64 s.e.sub, .int .i64 s.e.kind, .int .i64 s.e.n, .string s.e.name, .slice pk nk ck, .slice pt nt ct, .slice pe ne ce] (w.alloc (.cells #[.int .i64 f, .string s.name, .int .i64 s.e.form, .int .i64 s.e.sub, .int .i64 s.e.kind, .int .i64 s.e.n, .string s.e.name, .slice pk nk ck, .slice pt nt ct, .slice pe ne ce] 37)) := BoxV.of_row (heap_alloc_last w _)
  have hxy : Ext w (w.alloc (.cells #[.int .i64 f, .string s.name, .int .i64 s.e.form, .int .i64 s.e.sub, .int .i64 s.e.kind, .int .i64 s.e.n, .string s.e.name, .slice pk nk ck, .slice pt nt ct, .slice pe ne ce] 37)) := (Ext.refl w).alloc _
  have HXY := Lib.hid hxy
  have HP1 := Lib.hid hp1
  have hst2 := hst.next hxy
  have HST := Lib.hid hst2
  obtain ⟨nm, hnm⟩ : ∃ z, z = s.name := ⟨_, rfl⟩
  have hnsz : nm.size ≤ maxLen := by rw [hnm]; exact hok.parts.2.1
  have hlk := fun n' : Nat => (hst2.1.next ((Ext.refl _).drewN n')).look hnsz
  obtain ⟨ka, hka⟩ : ∃ z, z = kindN t nm := ⟨_, rfl⟩
  obtain ⟨ia, hia⟩ : ∃ z, z = isN t nm := ⟨_, rfl⟩
  have HK : Hid (R = ((), if f = 1 then decide (ia = 2 ∨ ia = 3) else if f = 2 then decide (ia = 4) else true)) := Lib.hid (by rw [HR.out, hf, hia, hnm]; rfl)
  rw [← hka, ← hia] at hlk
  unfold whatV at hlk
  have b0 := hst2.2.cells 0 _ rfl
  have bl := hst2.2.lt
  have g5 := hst2.1.box.cells 5 _ rfl
  have gl := hst2.1.box.lt
  rw [← hnm] at hby hxy HXY HST hlk b0 bl g5 gl ⊢
  clear hQ hR hp1 hp2 hp3 hf hnk hnt hne hs hst hst2 hok hnsz hka hia HR HV HE HP1 hnm
  by_cases h1 : f = 1
  · have q1 : (f == 1) = true := by simpa using h1
    by_cases h2 : ia = 2
    · have r2 : (ia == 2) = true := by simpa using h2
      have HC : Hid (R = ((), true)) := Lib.hid (by rw [HK.out]; simp [h1, h2])
      clear h1 h2
      go_enter Try.func36, Try.ntmps36
      go_upto_region 1 with fail
      generalize (w.alloc (.cells #[.int .i64 f, .string nm, .int .i64 s.e.form, .int .i64 s.e.sub, .int .i64 s.e.kind, .int .i64 s.e.n, .string s.e.name, .slice pk nk ck, .slice pt nt ct, .slice pe ne ce] 37)) = wy at hby hxy HXY HST hlk b0 bl g5 gl ⊢
      generalize w.heap.size = Y at hby ⊢
      have d0 := hby.cells 0 _ rfl
      have d1 := hby.cells 1 _ rfl
      have hyl := hby.lt
      clear hby hxy
      (refine region_drew (by kernel_rfl) (by kernel_rfl) ?_; (repeat (go_big_quiet_step (fail))); refine wpQuiet_nil ?_; rintro _ ⟨nq, rfl⟩)
      go_wp2
      rw [HQ.out, HC.out]
      exact ⟨rfl, Lib.hid ⟨Kb.of_ext (HXY.out.drewN _), HST.out.next ((Ext.refl _).drewN _)⟩⟩
    · have r2 : (ia == 2) = false := by simpa using h2
      obtain ⟨b, hb⟩ : ∃ b, b = decide (ia = 3) := ⟨_, rfl⟩
      have q2 : (ia == 3) = b := by rw [hb]; by_cases h : ia = 3 <;> simp [h]
      have HC : Hid (R = ((), b)) := Lib.hid (by rw [HK.out, hb]; simp [h1, h2])
      clear h1 h2 hb
      go_enter Try.func36, Try.ntmps36
      go_upto_region 1 with fail
      generalize (w.alloc (.cells #[.int .i64 f, .string nm, .int .i64 s.e.form, .int .i64 s.e.sub, .int .i64 s.e.kind, .int .i64 s.e.n, .string s.e.name, .slice pk nk ck, .slice pt nt ct, .slice pe ne ce] 37)) = wy at hby hxy HXY HST hlk b0 bl g5 gl ⊢
      generalize w.heap.size = Y at hby ⊢
      have d0 := hby.cells 0 _ rfl
      have d1 := hby.cells 1 _ rfl
      have hyl := hby.lt
      clear hby hxy
      (refine region_drew (by kernel_rfl) (by kernel_rfl) ?_; (repeat (go_big_quiet_step (fail))); refine wpQuiet_nil ?_; rintro _ ⟨nq, rfl⟩)
      go_wp2
      rw [HQ.out, HC.out]
      exact ⟨rfl, Lib.hid ⟨Kb.of_ext (HXY.out.drewN _), HST.out.next ((Ext.refl _).drewN _)⟩⟩
  by_cases h2 : f = 2
  · have q1 : (f == 1) = false := by simpa using h1
    have q2 : (f == 2) = true := by simpa using h2
    obtain ⟨b, hb⟩ : ∃ b, b = decide (ia = 4) := ⟨_, rfl⟩
    have r2 : (ia == 4) = b := by rw [hb]; by_cases h : ia = 4 <;> simp [h]
    have HC : Hid (R = ((), b)) := Lib.hid (by rw [HK.out, hb]; simp [h2])
    clear h1 h2 hb
    go_enter Try.func36, Try.ntmps36
    go_upto_region 1 with fail
    generalize (w.alloc (.cells #[.int .i64 f, .string nm, .int .i64 s.e.form, .int .i64 s.e.sub, .int .i64 s.e.kind, .int .i64 s.e.n, .string s.e.name, .slice pk nk ck, .slice pt nt ct, .slice pe ne ce] 37)) = wy at hby hxy HXY HST hlk b0 bl g5 gl ⊢
    generalize w.heap.size = Y at hby ⊢
    have d0 := hby.cells 0 _ rfl
    have d1 := hby.cells 1 _ rfl
    have hyl := hby.lt
    clear hby hxy
    (refine region_drew (by kernel_rfl) (by kernel_rfl) ?_; (repeat (go_big_quiet_step (fail))); refine wpQuiet_nil ?_; rintro _ ⟨nq, rfl⟩)
    go_wp2
    rw [HQ.out, HC.out]
    exact ⟨rfl, Lib.hid ⟨Kb.of_ext (HXY.out.drewN _), HST.out.next ((Ext.refl _).drewN _)⟩⟩
  · have q1 : (f == 1) = false := by simpa using h1
    have q2 : (f == 2) = false := by simpa using h2
    have HC : Hid (R = ((), true)) := Lib.hid (by rw [HK.out]; simp [h1, h2])
    clear h1 h2
    go_enter Try.func36, Try.ntmps36
    go_upto_region 1 with fail
    generalize (w.alloc (.cells #[.int .i64 f, .string nm, .int .i64 s.e.form, .int .i64 s.e.sub, .int .i64 s.e.kind, .int .i64 s.e.n, .string s.e.name, .slice pk nk ck, .slice pt nt ct, .slice pe ne ce] 37)) = wy at hby hxy HXY HST hlk b0 bl g5 gl ⊢
    generalize w.heap.size = Y at hby ⊢
    have d0 := hby.cells 0 _ rfl
    have d1 := hby.cells 1 _ rfl
    have hyl := hby.lt
    clear hby hxy
    (refine region_drew (by kernel_rfl) (by kernel_rfl) ?_; (repeat (go_big_quiet_step (fail))); refine wpQuiet_nil ?_; rintro _ ⟨nq, rfl⟩)
    go_wp2
    rw [HQ.out, HC.out]
    exact ⟨rfl, Lib.hid ⟨Kb.of_ext (HXY.out.drewN _), HST.out.next ((Ext.refl _).drewN _)⟩⟩
set_option maxHeartbeats 4000000 in
theorem ckind_any (W0 : World) (x5 : S5) (X M : Nat) (t : NT) (c0 : Int) (w : World) (n : ByteArray) (h : CK W0 x5 X M (ntL t) c0 w) (hn : n.size ≤ maxLen) :
    Calls Try.prog 39 #[.pointer (some ⟨X, 0, none⟩), .string n] w (RetI (kindN t n) w) := by
  obtain ⟨R, hR⟩ : ∃ R, R = kindN t n := ⟨_, rfl⟩
  rw [← hR]
  obtain ⟨Q, hQ⟩ : ∃ Q, Q = RetI R w := ⟨_, rfl⟩
  rw [← hQ]
  have HQ := Lib.hid hQ
  have HR := Lib.hid hR
  have hlk := h.look hn
  obtain ⟨ia, hia⟩ : ∃ z, z = isN t n := ⟨_, rfl⟩
  rw [← hR, ← hia] at hlk
  unfold whatV at hlk
  have g5 := h.box.cells 5 _ rfl
  have gl := h.box.lt
  clear hQ hR h hia HR hn
  go_enter Try.func39, Try.ntmps39
  go_wp2
  rw [HQ.out]
  exact ⟨rfl, Lib.hid (Ext.refl w)⟩
theorem clo_kind (W0 : World) (x5 : S5) (X M : Nat) (t : NT) (c0 : Int) : CloN W0 (fun w => CK W0 x5 X M (ntL t) c0 w) (kindN t) 39 (.pointer (some ⟨X, 0, none⟩)) where
  st := fun _ _ h hx => h.next hx
  enter := fun args w => by kernel_rfl
  call := fun w n _ h hn => ckind_any W0 x5 X M t c0 w n h hn
/-- What is asked of statements whose kinds are asked. -/
def typeP (s : ST) : Prop := okS s ∧ frm s.e
set_option maxHeartbeats 4000000 in
theorem types1_any (W0 : World) (x5 : S5) (X M : Nat) (t : NT) (c0 : Int) (B : Nat) (w : World) (s : ST) (x : S3) (hs : SIn W0 s x) (hst : StX W0 x5 X M t c0 B () w) (hok : typeP s) :
    Calls Try.prog 37 #[sVal s x, .pointer (some ⟨B, 0, none⟩)] w (RetB [] (StX W0 x5 X M t c0 B) (typeS1 t () s) w) := by
  obtain ⟨R, hR⟩ : ∃ R, R = typeS1 t () s := ⟨_, rfl⟩
  rw [← hR]
  obtain ⟨Q, hQ⟩ : ∃ Q, Q = RetB [] (StX W0 x5 X M t c0 B) R w := ⟨_, rfl⟩
  rw [← hQ]
  have HQ := Lib.hid hQ
  have HR := Lib.hid hR
  obtain ⟨hp1, hp2, hp3⟩ := hs.parts
  obtain ⟨kv, tv, ev⟩ := x
  obtain ⟨pk, ck, e1, -, -⟩ := hp1.slice
  obtain ⟨pt, ct, e2, -, -⟩ := hp2.slice
  obtain ⟨pe, ce, e3, -, -⟩ := hp3.slice
  simp only at e1 e2 e3
  subst e1
  subst e2
  subst e3
  obtain ⟨f, hf⟩ : ∃ f, f = s.form := ⟨_, rfl⟩
  obtain ⟨nk, hnk⟩ : ∃ f, f = s.e.kids.length := ⟨_, rfl⟩
  obtain ⟨nt, hnt⟩ : ∃ f, f = s.thn.length := ⟨_, rfl⟩
  obtain ⟨ne, hne⟩ : ∃ f, f = s.els.length := ⟨_, rfl⟩
  have HV := Lib.hid (show sVal s ⟨.slice pk s.e.kids.length ck, .slice pt s.thn.length ct, .slice pe s.els.length ce⟩ = .agg #[.int .i64 f, .string s.name, .int .i64 s.e.form, .int .i64 s.e.sub, .int .i64 s.e.kind, .int .i64 s.e.n, .string s.e.name, .slice pk nk ck, .slice pt nt ct, .slice pe ne ce] by rw [hf, hnk, hnt, hne]; rfl)
  have HE := Lib.hid (show eVal s.e (.slice pk s.e.kids.length ck) = .agg #[.int .i64 s.e.form, .int .i64 s.e.sub, .int .i64 s.e.kind, .int .i64 s.e.n, .string s.e.name, .slice pk nk ck] by rw [hnk]; rfl)
  rw [HV.out]
  have HF := Lib.hid hf
  have hby : BoxV w.heap.size [.int .i64 f, .string s.name, .int .i64 s.e.form, .int .i64 s.e.sub, .int .i64 s.e.kind, .int .i64 s.e.n, .string s.e.name, .slice pk nk ck, .slice pt nt ct, .slice pe ne ce] (w.alloc (.cells #[.int .i64 f, .string s.name, .int .i64 s.e.form, .int .i64 s.e.sub, .int .i64 s.e.kind, .int .i64 s.e.n, .string s.e.name, .slice pk nk ck, .slice pt nt ct, .slice pe ne ce] 37)) := BoxV.of_row (heap_alloc_last w _)
  have hxy : Ext w (w.alloc (.cells #[.int .i64 f, .string s.name, .int .i64 s.e.form, .int .i64 s.e.sub, .int .i64 s.e.kind, .int .i64 s.e.n, .string s.e.name, .slice pk nk ck, .slice pt nt ct, .slice pe ne ce] 37)) := (Ext.refl w).alloc _
  have HXY := Lib.hid hxy
  have HP1 := Lib.hid hp1
  have hst2 := hst.next hxy
  have HST := Lib.hid hst2
  obtain ⟨nm, hnm⟩ : ∃ z, z = s.name := ⟨_, rfl⟩
  have hnsz : nm.size ≤ maxLen := by rw [hnm]; exact hok.1.parts.2.1
  obtain ⟨kd, hkd⟩ : ∃ z, z = kindE (kindN t) s.e := ⟨_, rfl⟩
  obtain ⟨ka, hka⟩ : ∃ z, z = kindN t nm := ⟨_, rfl⟩
  have HK : Hid (R = ((), if f = 3 then decide (kd = 1) else decide (kd = ka))) := Lib.hid (by rw [HR.out, hf, hka, hnm, hkd]; rfl)
  have HF1 : Hid (Calls Try.prog 38 #[.agg #[.int .i64 s.e.form, .int .i64 s.e.sub, .int .i64 s.e.kind, .int .i64 s.e.n, .string s.e.name, .slice pk nk ck], .func (.func 39) #[.pointer (some ⟨X, 0, none⟩)] #[]] (w.alloc (.cells #[.int .i64 f, .string s.name, .int .i64 s.e.form, .int .i64 s.e.sub, .int .i64 s.e.kind, .int .i64 s.e.n, .string s.e.name, .slice pk nk ck, .slice pt nt ct, .slice pe ne ce] 37)) (RetI kd (w.alloc (.cells #[.int .i64 f, .string s.name, .int .i64 s.e.form, .int .i64 s.e.sub, .int .i64 s.e.kind, .int .i64 s.e.n, .string s.e.name, .slice pk nk ck, .slice pt nt ct, .slice pe ne ce] 37)))) := Lib.hid (by
    rw [← HE.out, hkd]
    exact kind_at W0 _ (kindN t) _ _ (clo_kind W0 x5 X M t c0) _ s.e (Nat.lt_succ_self _) _ _ hst2.1.ext hst2.1 hp1 hok.1.parts.2.2.1 hok.2)
  have HF2 : Hid (∀ w1, Ext (w.alloc (.cells #[.int .i64 f, .string s.name, .int .i64 s.e.form, .int .i64 s.e.sub, .int .i64 s.e.kind, .int .i64 s.e.n, .string s.e.name, .slice pk nk ck, .slice pt nt ct, .slice pe ne ce] 37)) w1 → Calls Try.prog 39 #[.pointer (some ⟨X, 0, none⟩), .string nm] w1 (RetI ka w1)) := Lib.hid (fun w1 hx1 => by
    rw [hka]
    exact ckind_any W0 x5 X M t c0 w1 nm (hst2.1.next hx1) hnsz)
  have b0 := hst2.2.cells 0 _ rfl
  have bl := hst2.2.lt
  have gl := hst2.1.box.lt
  rw [← hnm] at hby hxy HXY HST HF1 HF2 b0 bl gl ⊢
  clear hQ hR hp1 hp2 hp3 hf hnk hnt hne hs hst hst2 hok hnsz hka HR HV HE HP1 hnm hkd
  by_cases h1 : f = 3
  · have q1 : (f == 3) = true := by simpa using h1
    obtain ⟨b, hb⟩ : ∃ b, b = decide (kd = 1) := ⟨_, rfl⟩
    have r2 : (kd == 1) = b := by rw [hb]; by_cases h : kd = 1 <;> simp [h]
    have HC : Hid (R = ((), b)) := Lib.hid (by rw [HK.out, hb]; simp [h1])
    clear h1 hb
    go_enter Try.func37, Try.ntmps37
    go_upto_region 1 with fail
    generalize (w.alloc (.cells #[.int .i64 f, .string nm, .int .i64 s.e.form, .int .i64 s.e.sub, .int .i64 s.e.kind, .int .i64 s.e.n, .string s.e.name, .slice pk nk ck, .slice pt nt ct, .slice pe ne ce] 37)) = wy at hby hxy HXY HST HF1 HF2 b0 bl gl ⊢
    generalize w.heap.size = Y at hby ⊢
    have d0 := hby.cells 0 _ rfl
    have d1 := hby.cells 1 _ rfl
    have d2 := hby.cells 2 _ rfl
    have d3 := hby.cells 3 _ rfl
    have d4 := hby.cells 4 _ rfl
    have d5 := hby.cells 5 _ rfl
    have d6 := hby.cells 6 _ rfl
    have d7 := hby.cells 7 _ rfl
    have hyl := hby.lt
    clear hby hxy
    go_wp2_with (first | (go_at_call 38; refine HF1.out.mono ?_; rintro e1 w1 ⟨rfl, H1⟩; have d0 := H1.out.cell d0; have d1 := H1.out.cell d1; have b0 := H1.out.cell b0; have hyl := Nat.lt_of_lt_of_le hyl H1.out.size; have bl := Nat.lt_of_lt_of_le bl H1.out.size; have gl := Nat.lt_of_lt_of_le gl H1.out.size) | (go_at_call 39; refine (HF2.out _ H1.out).mono ?_; rintro e2 w2 ⟨rfl, H2⟩) | fail)
    rw [HQ.out, HC.out]
    exact ⟨rfl, Lib.hid ⟨Kb.of_ext (HXY.out.trans H1.out), HST.out.next H1.out⟩⟩
  · have q1 : (f == 3) = false := by simpa using h1
    obtain ⟨b, hb⟩ : ∃ b, b = decide (kd = ka) := ⟨_, rfl⟩
    have r2 : (kd == ka) = b := by rw [hb]; by_cases h : kd = ka <;> simp [h]
    have HC : Hid (R = ((), b)) := Lib.hid (by rw [HK.out, hb]; simp [h1])
    clear h1 hb
    go_enter Try.func37, Try.ntmps37
    go_upto_region 1 with fail
    generalize (w.alloc (.cells #[.int .i64 f, .string nm, .int .i64 s.e.form, .int .i64 s.e.sub, .int .i64 s.e.kind, .int .i64 s.e.n, .string s.e.name, .slice pk nk ck, .slice pt nt ct, .slice pe ne ce] 37)) = wy at hby hxy HXY HST HF1 HF2 b0 bl gl ⊢
    generalize w.heap.size = Y at hby ⊢
    have d0 := hby.cells 0 _ rfl
    have d1 := hby.cells 1 _ rfl
    have d2 := hby.cells 2 _ rfl
    have d3 := hby.cells 3 _ rfl
    have d4 := hby.cells 4 _ rfl
    have d5 := hby.cells 5 _ rfl
    have d6 := hby.cells 6 _ rfl
    have d7 := hby.cells 7 _ rfl
    have hyl := hby.lt
    clear hby hxy
    go_wp2_with (first | (go_at_call 38; refine HF1.out.mono ?_; rintro e1 w1 ⟨rfl, H1⟩; have d0 := H1.out.cell d0; have d1 := H1.out.cell d1; have b0 := H1.out.cell b0; have hyl := Nat.lt_of_lt_of_le hyl H1.out.size; have bl := Nat.lt_of_lt_of_le bl H1.out.size; have gl := Nat.lt_of_lt_of_le gl H1.out.size) | (go_at_call 39; refine (HF2.out _ H1.out).mono ?_; rintro e2 w2 ⟨rfl, H2⟩) | fail)
    rw [HQ.out, HC.out]
    exact ⟨rfl, Lib.hid ⟨Kb.of_ext (HXY.out.trans (H1.out.trans H2.out)), HST.out.next (H1.out.trans H2.out)⟩⟩
end Go.Proofs.Ytkjgghbdpmkmoaa

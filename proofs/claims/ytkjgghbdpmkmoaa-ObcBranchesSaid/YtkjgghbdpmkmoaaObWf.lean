/-
  The walk: step code is checked.
  Condition: the step code lies in memory.
-/
import Derived.Test.YtkjgghbdpmkmoaaObWe
import Derived.Test.YtkjgghbdpmkmoaaObW5
namespace Go.Proofs.Ytkjgghbdpmkmoaa
open Go.RowKit Go.Maps
set_option linter.unusedSimpArgs false
set_option linter.unusedVariables false
set_option maxRecDepth 100000

theorem partsL_mono {p q : CE → Bool} (h : ∀ e, p e = true → q e = true) : ∀ l : List CE, (∀ e ∈ l, partsE p e = true → partsE q e = true) → partsL p l = true → partsL q l = true
  | [], _, _ => by rw [partsL]
  | x :: l, hl, hp => by
    rw [partsL, Bool.and_eq_true] at hp ⊢
    exact ⟨hl x (by simp) hp.1, partsL_mono h l (fun e he => hl e (by simp [he])) hp.2⟩
theorem partsE_mono {p q : CE → Bool} (h : ∀ e, p e = true → q e = true) (e : CE) : partsE p e = true → partsE q e = true := by
  induction e using CE.ind with
  | h f s k n nm ks ih =>
    intro hp
    rw [partsE, Bool.and_eq_true] at hp ⊢
    exact ⟨h _ hp.1, partsL_mono h ks ih hp.2⟩
theorem frm_of {e : CE} (h : partsE (fun e => decide (kidsN e.form = e.kids.length) && (decide (e.form ≠ 1) || isk e.kind e.n)) e = true) : frm e := by
  unfold frm
  refine partsE_mono (fun e he => ?_) e h
  rw [Bool.and_eq_true] at he
  have h1 : kidsN e.form = e.kids.length := by simpa using he.1
  unfold frmB
  rw [Bool.and_eq_true]
  unfold kidsN at h1
  unfold wantF
  repeat' split at h1
  all_goals
    constructor
    · rw [decide_eq_true_eq]
      repeat' split
      all_goals omega
    · rw [decide_eq_true_eq]
      omega
mutual
theorem typeP_S : ∀ s : ST, okS s → eachS (fun x => decide (x.form = 1 ∨ x.form = 2 ∨ x.form = 3)) s = true → eachS (fun s => if s.form = 1 ∨ s.form = 2 ∨ s.form = 3 then partsE (fun e => decide (kidsN e.form = e.kids.length) && (decide (e.form ≠ 1) || isk e.kind e.n)) s.e else true) s = true → allS typeP s
  | .mk f nm e t l, hok, h1, h2 => by
    rw [eachS, Bool.and_eq_true] at h1 h2
    unfold allS
    have h3 : f = 1 ∨ f = 2 ∨ f = 3 := of_decide_eq_true h1.1
    have h4 := h2.1
    rw [if_pos (show (ST.mk f nm e t l).form = 1 ∨ (ST.mk f nm e t l).form = 2 ∨ (ST.mk f nm e t l).form = 3 from h3)] at h4
    refine ⟨⟨hok, frm_of h4⟩, fun hf => ?_⟩
    have h5 := h1.2
    have h6 := h2.2
    rw [hf] at h5 h6
    simp only [ne_eq, not_true_eq_false, decide_false, Bool.false_or, Bool.and_eq_true] at h5 h6
    unfold okS at hok
    exact ⟨typeP_L t hok.2.2.2.1 h5.1 h6.1, typeP_L l hok.2.2.2.2 h5.2 h6.2⟩
theorem typeP_L : ∀ l : List ST, okL l → eachL (fun x => decide (x.form = 1 ∨ x.form = 2 ∨ x.form = 3)) l = true → eachL (fun s => if s.form = 1 ∨ s.form = 2 ∨ s.form = 3 then partsE (fun e => decide (kidsN e.form = e.kids.length) && (decide (e.form ≠ 1) || isk e.kind e.n)) s.e else true) l = true → allL typeP l
  | [], _, _, _ => by unfold allL; trivial
  | s :: ss, hok, h1, h2 => by
    rw [eachL, Bool.and_eq_true] at h1 h2
    unfold okL at hok
    unfold allL
    exact ⟨typeP_S s hok.1 h1.1 h2.1, typeP_L ss hok.2 h1.2 h2.2⟩
end
theorem typeP_of {s : SP} (hok : okP s) (h : formsS s = true) : allL typeP s.body := by
  unfold formsS at h
  rw [Bool.and_eq_true, Bool.and_eq_true] at h
  exact typeP_L s.body hok.body h.1.1 h.1.2
theorem names_le {s : SP} (h : longS s = true) : s.names.length ≤ 90000 := by
  unfold longS at h
  rw [Bool.and_eq_true, decide_eq_true_eq] at h
  have := h.2
  unfold SP.names
  simp
  omega
theorem names_size {s : SP} (h : okP s) : ∀ e ∈ s.names, e.1.size ≤ maxLen := by
  intro e he
  unfold SP.names at he
  simp only [List.mem_append, List.mem_map] at he
  rcases he with ((⟨v, hv, rfl⟩ | ⟨v, hv, rfl⟩) | ⟨v, hv, rfl⟩) | ⟨v, hv, rfl⟩
  · exact (h.ins v hv).1
  · exact (h.outs v hv).1
  · exact (h.vars v hv).1
  · exact (h.cells v hv).1
theorem putN_mem : ∀ (l t : NT), ∀ e ∈ (putN t l).1, e ∈ t ∨ e ∈ l
  | [], t, e, h => by rw [putN] at h; exact .inl h
  | x :: l, t, e, h => by
    rw [putN] at h
    split at h
    · exact .inl h
    · rcases putN_mem l (x :: t) e h with h1 | h1
      · rcases List.mem_cons.1 h1 with h2 | h2
        · exact .inr (by rw [h2]; simp)
        · exact .inl h2
      · exact .inr (by simp [h1])
theorem check_world (w : World) (y : S5) : CK w y (w.heap.size + 1 + 1) (w.heap.size + 1) (ntL []) 0 ((((w.alloc (.cells #[y.iv, y.ov, y.vv, y.cv, y.bv] 28)).alloc (.map #[] 0)).alloc (.cells #[y.iv, y.ov, y.vv, y.cv, y.bv, .map (some (w.heap.size + 1)), .int .i64 0] 56)).alloc (.cells #[.func (.func 14) #[.pointer (some ⟨w.heap.size + 1 + 1, 0, none⟩)] #[], .int .i64 2, .func (.func 15) #[.pointer (some ⟨w.heap.size + 1 + 1, 0, none⟩)] #[], .int .i64 20, .func (.func 16) #[.pointer (some ⟨w.heap.size + 1 + 1, 0, none⟩)] #[], .int .i64 22, .func (.func 17) #[.pointer (some ⟨w.heap.size + 1 + 1, 0, none⟩)] #[], .int .i64 40, .func (.func 18) #[.pointer (some ⟨w.heap.size + 1 + 1, 0, none⟩)] #[], .int .i64 21, .func (.func 19) #[.pointer (some ⟨w.heap.size + 1 + 1, 0, none⟩)] #[], .int .i64 22] 57)) ∧
    BoxV (w.heap.size + 1 + 1 + 1) [.func (.func 14) #[.pointer (some ⟨w.heap.size + 1 + 1, 0, none⟩)] #[], .int .i64 2, .func (.func 15) #[.pointer (some ⟨w.heap.size + 1 + 1, 0, none⟩)] #[], .int .i64 20, .func (.func 16) #[.pointer (some ⟨w.heap.size + 1 + 1, 0, none⟩)] #[], .int .i64 22, .func (.func 17) #[.pointer (some ⟨w.heap.size + 1 + 1, 0, none⟩)] #[], .int .i64 40, .func (.func 18) #[.pointer (some ⟨w.heap.size + 1 + 1, 0, none⟩)] #[], .int .i64 21, .func (.func 19) #[.pointer (some ⟨w.heap.size + 1 + 1, 0, none⟩)] #[], .int .i64 22] ((((w.alloc (.cells #[y.iv, y.ov, y.vv, y.cv, y.bv] 28)).alloc (.map #[] 0)).alloc (.cells #[y.iv, y.ov, y.vv, y.cv, y.bv, .map (some (w.heap.size + 1)), .int .i64 0] 56)).alloc (.cells #[.func (.func 14) #[.pointer (some ⟨w.heap.size + 1 + 1, 0, none⟩)] #[], .int .i64 2, .func (.func 15) #[.pointer (some ⟨w.heap.size + 1 + 1, 0, none⟩)] #[], .int .i64 20, .func (.func 16) #[.pointer (some ⟨w.heap.size + 1 + 1, 0, none⟩)] #[], .int .i64 22, .func (.func 17) #[.pointer (some ⟨w.heap.size + 1 + 1, 0, none⟩)] #[], .int .i64 40, .func (.func 18) #[.pointer (some ⟨w.heap.size + 1 + 1, 0, none⟩)] #[], .int .i64 21, .func (.func 19) #[.pointer (some ⟨w.heap.size + 1 + 1, 0, none⟩)] #[], .int .i64 22] 57)) := by
  obtain ⟨A, hA⟩ : ∃ A, A = w.alloc (.cells #[y.iv, y.ov, y.vv, y.cv, y.bv] 28) := ⟨_, rfl⟩
  have hxA : Ext w A := by rw [hA]; exact (Ext.refl w).alloc _
  have hsA : A.heap.size = w.heap.size + 1 := by rw [hA]; simp
  rw [← hA]
  obtain ⟨B, hB⟩ : ∃ B, B = A.alloc (.map #[] 0) := ⟨_, rfl⟩
  have hxB : Ext A B := by rw [hB]; exact (Ext.refl A).alloc _
  have hsB : B.heap.size = w.heap.size + 1 + 1 := by rw [hB]; simp [hsA]
  have hm : SM Try.prog 9 (w.heap.size + 1) [] B := by rw [hB, ← hsA]; exact SM.made _ _ A
  rw [← hB]
  obtain ⟨C, hC⟩ : ∃ C, C = B.alloc (.cells #[y.iv, y.ov, y.vv, y.cv, y.bv, .map (some (w.heap.size + 1)), .int .i64 0] 56) := ⟨_, rfl⟩
  have hxC : Ext B C := by rw [hC]; exact (Ext.refl B).alloc _
  have hsC : C.heap.size = w.heap.size + 1 + 1 + 1 := by rw [hC]; simp [hsB]
  have hb : BoxV (w.heap.size + 1 + 1) [y.iv, y.ov, y.vv, y.cv, y.bv, .map (some (w.heap.size + 1)), .int .i64 0] C := by rw [hC, ← hsB]; exact BoxV.of_row (heap_alloc_last B _)
  rw [← hC]
  have hxD : Ext C (C.alloc (.cells #[.func (.func 14) #[.pointer (some ⟨w.heap.size + 1 + 1, 0, none⟩)] #[], .int .i64 2, .func (.func 15) #[.pointer (some ⟨w.heap.size + 1 + 1, 0, none⟩)] #[], .int .i64 20, .func (.func 16) #[.pointer (some ⟨w.heap.size + 1 + 1, 0, none⟩)] #[], .int .i64 22, .func (.func 17) #[.pointer (some ⟨w.heap.size + 1 + 1, 0, none⟩)] #[], .int .i64 40, .func (.func 18) #[.pointer (some ⟨w.heap.size + 1 + 1, 0, none⟩)] #[], .int .i64 21, .func (.func 19) #[.pointer (some ⟨w.heap.size + 1 + 1, 0, none⟩)] #[], .int .i64 22] 57)) := (Ext.refl C).alloc _
  refine ⟨{ ext := ((hxA.trans hxB).trans hxC).trans hxD, box := hb.ext hxD, map := (hm.ext hxC).ext hxD, nx := by omega, nm := by omega, ne := by omega }, ?_⟩
  rw [← hsC]
  exact BoxV.of_row (heap_alloc_last C _)
set_option maxHeartbeats 16000000 in
theorem check_any (s : SP) (x : S5) (w : World) (hs : SPIn w s x) (hok : okP s) :
    Calls Try.prog 8 #[.agg #[x.iv, x.ov, x.vv, x.cv, x.bv]] w (RetI (chkS s) w) := by
  obtain ⟨R, hR⟩ : ∃ R, R = chkS s := ⟨_, rfl⟩
  rw [← hR]
  obtain ⟨Q, hQ⟩ : ∃ Q, Q = RetI R w := ⟨_, rfl⟩
  rw [← hQ]
  have HQ := Lib.hid hQ
  have HR := Lib.hid hR
  have HS := Lib.hid (And.intro hs hok)
  obtain ⟨iv, ov, vv, cv, bv⟩ := x
  obtain ⟨p1, c1, e1, -, -⟩ := hs.ins.slice
  obtain ⟨p2, c2, e2, -, -⟩ := hs.outs.slice
  obtain ⟨p3, c3, e3, -, -⟩ := hs.vars.slice
  obtain ⟨p4, c4, e4, -, -⟩ := hs.cells.slice
  obtain ⟨p5, c5, e5, -, -⟩ := hs.body.slice
  simp only at e1 e2 e3 e4 e5
  subst e1 e2 e3 e4 e5
  obtain ⟨y, hy⟩ : ∃ y : S5, y = ⟨.slice p1 s.ins.length c1, .slice p2 s.outs.length c2, .slice p3 s.vars.length c3, .slice p4 s.cells.length c4, .slice p5 s.body.length c5⟩ := ⟨_, rfl⟩
  rw [← hy] at HS
  have HY := Lib.hid hy
  obtain ⟨n1, h1⟩ : ∃ n, n = s.ins.length := ⟨_, rfl⟩
  obtain ⟨n2, h2⟩ : ∃ n, n = s.outs.length := ⟨_, rfl⟩
  obtain ⟨n3, h3⟩ : ∃ n, n = s.vars.length := ⟨_, rfl⟩
  obtain ⟨n4, h4⟩ : ∃ n, n = s.cells.length := ⟨_, rfl⟩
  obtain ⟨n5, h5⟩ : ∃ n, n = s.body.length := ⟨_, rfl⟩
  have HN := Lib.hid (And.intro h1 (And.intro h2 (And.intro h3 (And.intro h4 h5))))
  simp only [← h1, ← h2, ← h3, ← h4, ← h5]
  clear hQ hR hs hok hy h1 h2 h3 h4 h5
  have hmk := @run_makeMap Try.prog
  go_enter Try.func8, Try.ntmps8
  go_upto_region 3 with fail
  have hyv : y = ⟨.slice p1 n1 c1, .slice p2 n2 c2, .slice p3 n3 c3, .slice p4 n4 c4, .slice p5 n5 c5⟩ := by rw [HY.out, HN.out.1, HN.out.2.1, HN.out.2.2.1, HN.out.2.2.2.1, HN.out.2.2.2.2]
  obtain ⟨hck, hrw⟩ := check_world w y
  rw [show y.iv = .slice p1 n1 c1 by rw [hyv], show y.ov = .slice p2 n2 c2 by rw [hyv], show y.vv = .slice p3 n3 c3 by rw [hyv], show y.cv = .slice p4 n4 c4 by rw [hyv], show y.bv = .slice p5 n5 c5 by rw [hyv]] at hck hrw
  have hXG : w.heap.size + 1 + 1 ≠ w.heap.size + 1 + 1 + 1 := by omega
  have hMG : w.heap.size + 1 ≠ w.heap.size + 1 + 1 + 1 := by omega
  generalize ((((w.alloc (.cells #[.slice p1 n1 c1, .slice p2 n2 c2, .slice p3 n3 c3, .slice p4 n4 c4, .slice p5 n5 c5] 28)).alloc (.map #[] 0)).alloc (.cells #[.slice p1 n1 c1, .slice p2 n2 c2, .slice p3 n3 c3, .slice p4 n4 c4, .slice p5 n5 c5, .map (some (w.heap.size + 1)), .int .i64 0] 56)).alloc (.cells #[.func (.func 14) #[.pointer (some ⟨w.heap.size + 1 + 1, 0, none⟩)] #[], .int .i64 2, .func (.func 15) #[.pointer (some ⟨w.heap.size + 1 + 1, 0, none⟩)] #[], .int .i64 20, .func (.func 16) #[.pointer (some ⟨w.heap.size + 1 + 1, 0, none⟩)] #[], .int .i64 22, .func (.func 17) #[.pointer (some ⟨w.heap.size + 1 + 1, 0, none⟩)] #[], .int .i64 40, .func (.func 18) #[.pointer (some ⟨w.heap.size + 1 + 1, 0, none⟩)] #[], .int .i64 21, .func (.func 19) #[.pointer (some ⟨w.heap.size + 1 + 1, 0, none⟩)] #[], .int .i64 22] 57)) = w0 at hck hrw ⊢
  generalize w.heap.size + 1 + 1 + 1 = G at hck hrw hXG hMG ⊢
  generalize w.heap.size + 1 + 1 = X at hck hrw hXG hMG ⊢
  generalize w.heap.size + 1 = M at hck hrw hXG hMG ⊢
  have HG := Lib.hid (And.intro hXG hMG)
  have HK0 := Lib.hid (And.intro hck hrw)
  have HE0 : Hid (Ext w w0) := Lib.hid hck.ext
  clear hck hrw hXG hMG hyv
  refine wp_loop_rounds 7 ?_
  obtain ⟨b0, hb⟩ : ∃ b, b = longS s := ⟨_, rfl⟩
  have HF0 : Hid (∀ wz, Ext w0 wz → Calls Try.prog 14 #[.pointer (some ⟨X, 0, none⟩)] wz (RetCK w y X M (ntL []) ((fitsB s.body 1 0).1, b0) wz)) := Lib.hid (fun wz hx1 => by
    rw [hb]; exact long_any w s y X M (ntL []) wz HS.out.1 (HK0.out.1.next hx1))
  have HB0 := Lib.hid hb
  clear hb
  have hq : BoxV w0.heap.size [.func (.func 14) #[.pointer (some ⟨X, 0, none⟩)] #[], .int .i64 2] (w0.alloc (.cells #[.func (.func 14) #[.pointer (some ⟨X, 0, none⟩)] #[], .int .i64 2] 57)) := BoxV.of_row (heap_alloc_last w0 _)
  have HXQ0 : Hid (Ext w0 (w0.alloc (.cells #[.func (.func 14) #[.pointer (some ⟨X, 0, none⟩)] #[], .int .i64 2] 57))) := Lib.hid ((Ext.refl w0).alloc _)
  have HQQ : Hid (BoxV w0.heap.size [.func (.func 14) #[.pointer (some ⟨X, 0, none⟩)] #[], .int .i64 2] (w0.alloc (.cells #[.func (.func 14) #[.pointer (some ⟨X, 0, none⟩)] #[], .int .i64 2] 57))) := Lib.hid hq
  clear hq
  have HXS : Hid (w0.heap.size ∉ [X] ∧ w0.heap.size ∉ [M]) := Lib.hid ⟨by have := HK0.out.1.box.lt; simp; omega, by have := HK0.out.1.map.lt; simp; omega⟩
  have r0 := HK0.out.2.cells 0 _ rfl
  have r1 := HK0.out.2.cells 1 _ rfl
  have rl := HK0.out.2.lt
  have gl := HK0.out.1.box.lt
  rw [rounds_succ]
  cases b0 with
  | false =>
    go_wp2_with (first | (go_at_call 14; refine (HF0.out _ HXQ0.out).mono ?_; rintro e1 w1' ⟨rfl, H1⟩; have hkb := H1.out.1; have z1 := hkb.cell HXS.out.1 (HQQ.out.cells 1 _ rfl); have zl := Nat.lt_of_lt_of_le HQQ.out.lt hkb.size; clear hkb) | fail)
    have h1 : R = 2 := by rw [HR.out]; unfold chkS; rw [← HB0.out]; rfl
    rw [HQ.out, h1]
    exact ⟨rfl, Lib.hid (H1.out.2.ext)⟩
  | true =>
    go_wp2_with (first | (go_at_call 14; refine (HF0.out _ HXQ0.out).mono ?_; rintro e1 w1 ⟨rfl, H1⟩) | fail)
    have HK1 : Hid (CK w y X M (ntL []) (fitsB s.body 1 0).1 w1 ∧ BoxV G [.func (.func 14) #[.pointer (some ⟨X, 0, none⟩)] #[], .int .i64 2, .func (.func 15) #[.pointer (some ⟨X, 0, none⟩)] #[], .int .i64 20, .func (.func 16) #[.pointer (some ⟨X, 0, none⟩)] #[], .int .i64 22, .func (.func 17) #[.pointer (some ⟨X, 0, none⟩)] #[], .int .i64 40, .func (.func 18) #[.pointer (some ⟨X, 0, none⟩)] #[], .int .i64 21, .func (.func 19) #[.pointer (some ⟨X, 0, none⟩)] #[], .int .i64 22] w1) := Lib.hid ⟨H1.out.2, (HK0.out.2.ext HXQ0.out).kb H1.out.1 (by simpa using HG.out.1.symm)⟩
    have HE1 : Hid (Ext w w1) := Lib.hid H1.out.2.ext
    clear r0 r1 rl gl H1 HQQ HXS
    obtain ⟨b1, hb⟩ : ∃ b, b = (putN [] s.names).2 := ⟨_, rfl⟩
    have HF1 : Hid (∀ wz, Ext w1 wz → Calls Try.prog 15 #[.pointer (some ⟨X, 0, none⟩)] wz (RetN w y X M (fitsB s.body 1 0).1 (tabS s, b1) wz)) := Lib.hid (fun wz hx1 => by
      have h1 := twice_any w s y X M (fitsB s.body 1 0).1 wz HS.out.1 HS.out.2 (HK1.out.1.next hx1) (names_le HB0.out.symm)
      have h2 : putN [] s.names = (tabS s, b1) := by rw [hb]; rfl
      rw [h2] at h1
      exact h1)
    have HB1 := Lib.hid hb
    clear hb
    have hq : BoxV w1.heap.size [.func (.func 15) #[.pointer (some ⟨X, 0, none⟩)] #[], .int .i64 20] (w1.alloc (.cells #[.func (.func 15) #[.pointer (some ⟨X, 0, none⟩)] #[], .int .i64 20] 57)) := BoxV.of_row (heap_alloc_last w1 _)
    have HXQ1 : Hid (Ext w1 (w1.alloc (.cells #[.func (.func 15) #[.pointer (some ⟨X, 0, none⟩)] #[], .int .i64 20] 57))) := Lib.hid ((Ext.refl w1).alloc _)
    have HQQ : Hid (BoxV w1.heap.size [.func (.func 15) #[.pointer (some ⟨X, 0, none⟩)] #[], .int .i64 20] (w1.alloc (.cells #[.func (.func 15) #[.pointer (some ⟨X, 0, none⟩)] #[], .int .i64 20] 57))) := Lib.hid hq
    clear hq
    have HXS : Hid (w1.heap.size ∉ [X] ∧ w1.heap.size ∉ [M]) := Lib.hid ⟨by have := HK1.out.1.box.lt; simp; omega, by have := HK1.out.1.map.lt; simp; omega⟩
    have r0 := HK1.out.2.cells 2 _ rfl
    have r1 := HK1.out.2.cells 3 _ rfl
    have rl := HK1.out.2.lt
    have gl := HK1.out.1.box.lt
    rw [rounds_succ]
    cases b1 with
    | false =>
      go_wp2_with (first | (go_at_call 15; refine (HF1.out _ HXQ1.out).mono ?_; rintro e1 w1' ⟨rfl, H1⟩; have hkb := H1.out.1; have z1 := hkb.cell HXS.out.2 (HQQ.out.cells 1 _ rfl); have zl := Nat.lt_of_lt_of_le HQQ.out.lt hkb.size; clear hkb) | fail)
      have h1 : R = 20 := by rw [HR.out]; unfold chkS; rw [← HB0.out, ← HB1.out]; rfl
      rw [HQ.out, h1]
      exact ⟨rfl, Lib.hid (H1.out.2.ext)⟩
    | true =>
      go_wp2_with (first | (go_at_call 15; refine (HF1.out _ HXQ1.out).mono ?_; rintro e1 w2 ⟨rfl, H1⟩) | fail)
      have HK2 : Hid (CK w y X M (ntL (tabS s)) (fitsB s.body 1 0).1 w2 ∧ BoxV G [.func (.func 14) #[.pointer (some ⟨X, 0, none⟩)] #[], .int .i64 2, .func (.func 15) #[.pointer (some ⟨X, 0, none⟩)] #[], .int .i64 20, .func (.func 16) #[.pointer (some ⟨X, 0, none⟩)] #[], .int .i64 22, .func (.func 17) #[.pointer (some ⟨X, 0, none⟩)] #[], .int .i64 40, .func (.func 18) #[.pointer (some ⟨X, 0, none⟩)] #[], .int .i64 21, .func (.func 19) #[.pointer (some ⟨X, 0, none⟩)] #[], .int .i64 22] w2) := Lib.hid ⟨H1.out.2, (HK1.out.2.ext HXQ1.out).kb H1.out.1 (by simpa using HG.out.2.symm)⟩
      have HE2 : Hid (Ext w w2) := Lib.hid H1.out.2.ext
      clear r0 r1 rl gl H1 HQQ HXS
      obtain ⟨b2, hb⟩ : ∃ b, b = kindsS s := ⟨_, rfl⟩
      have HF2 : Hid (∀ wz, Ext w2 wz → Calls Try.prog 16 #[.pointer (some ⟨X, 0, none⟩)] wz (RetQ b2 wz)) := Lib.hid (fun wz hx1 => by
        rw [hb]; exact kinds_any w y X M (tabS s) _ wz (HK2.out.1.next hx1) (fun e he => names_size HS.out.2 e ((putN_mem _ _ e he).elim (fun h => by cases h) id)))
      have HB2 := Lib.hid hb
      clear hb
      have hq : BoxV w2.heap.size [.func (.func 16) #[.pointer (some ⟨X, 0, none⟩)] #[], .int .i64 22] (w2.alloc (.cells #[.func (.func 16) #[.pointer (some ⟨X, 0, none⟩)] #[], .int .i64 22] 57)) := BoxV.of_row (heap_alloc_last w2 _)
      have HXQ2 : Hid (Ext w2 (w2.alloc (.cells #[.func (.func 16) #[.pointer (some ⟨X, 0, none⟩)] #[], .int .i64 22] 57))) := Lib.hid ((Ext.refl w2).alloc _)
      have HQQ : Hid (BoxV w2.heap.size [.func (.func 16) #[.pointer (some ⟨X, 0, none⟩)] #[], .int .i64 22] (w2.alloc (.cells #[.func (.func 16) #[.pointer (some ⟨X, 0, none⟩)] #[], .int .i64 22] 57))) := Lib.hid hq
      clear hq
      have HXS : Hid (w2.heap.size ∉ [X] ∧ w2.heap.size ∉ [M]) := Lib.hid ⟨by have := HK2.out.1.box.lt; simp; omega, by have := HK2.out.1.map.lt; simp; omega⟩
      have r0 := HK2.out.2.cells 4 _ rfl
      have r1 := HK2.out.2.cells 5 _ rfl
      have rl := HK2.out.2.lt
      have gl := HK2.out.1.box.lt
      rw [rounds_succ]
      cases b2 with
      | false =>
        go_wp2_with (first | (go_at_call 16; refine (HF2.out _ HXQ2.out).mono ?_; rintro e1 w1' ⟨rfl, H1⟩; have hkb : Kb [] _ _ := Kb.of_ext H1.out; have z1 := hkb.cell (by simp) (HQQ.out.cells 1 _ rfl); have zl := Nat.lt_of_lt_of_le HQQ.out.lt hkb.size; clear hkb) | fail)
        have h1 : R = 22 := by rw [HR.out]; unfold chkS; rw [← HB0.out, ← HB1.out, ← HB2.out]; rfl
        rw [HQ.out, h1]
        exact ⟨rfl, Lib.hid ((HE2.out.trans HXQ2.out).trans H1.out)⟩
      | true =>
        go_wp2_with (first | (go_at_call 16; refine (HF2.out _ HXQ2.out).mono ?_; rintro e1 w3 ⟨rfl, H1⟩) | fail)
        have HK3 : Hid (CK w y X M (ntL (tabS s)) (fitsB s.body 1 0).1 w3 ∧ BoxV G [.func (.func 14) #[.pointer (some ⟨X, 0, none⟩)] #[], .int .i64 2, .func (.func 15) #[.pointer (some ⟨X, 0, none⟩)] #[], .int .i64 20, .func (.func 16) #[.pointer (some ⟨X, 0, none⟩)] #[], .int .i64 22, .func (.func 17) #[.pointer (some ⟨X, 0, none⟩)] #[], .int .i64 40, .func (.func 18) #[.pointer (some ⟨X, 0, none⟩)] #[], .int .i64 21, .func (.func 19) #[.pointer (some ⟨X, 0, none⟩)] #[], .int .i64 22] w3) := Lib.hid ⟨(HK2.out.1.next HXQ2.out).next H1.out, (HK2.out.2.ext HXQ2.out).ext H1.out⟩
        have HE3 : Hid (Ext w w3) := Lib.hid ((HE2.out.trans HXQ2.out).trans H1.out)
        clear r0 r1 rl gl H1 HQQ HXS
        obtain ⟨b3, hb⟩ : ∃ b, b = formsS s := ⟨_, rfl⟩
        have HF3 : Hid (∀ wz, Ext w3 wz → Calls Try.prog 17 #[.pointer (some ⟨X, 0, none⟩)] wz (RetQ b3 wz)) := Lib.hid (fun wz hx1 => by
          rw [hb]; exact forms_any w s y X M _ _ wz HS.out.1 HS.out.2 (HK3.out.1.next hx1))
        have HB3 := Lib.hid hb
        clear hb
        have hq : BoxV w3.heap.size [.func (.func 17) #[.pointer (some ⟨X, 0, none⟩)] #[], .int .i64 40] (w3.alloc (.cells #[.func (.func 17) #[.pointer (some ⟨X, 0, none⟩)] #[], .int .i64 40] 57)) := BoxV.of_row (heap_alloc_last w3 _)
        have HXQ3 : Hid (Ext w3 (w3.alloc (.cells #[.func (.func 17) #[.pointer (some ⟨X, 0, none⟩)] #[], .int .i64 40] 57))) := Lib.hid ((Ext.refl w3).alloc _)
        have HQQ : Hid (BoxV w3.heap.size [.func (.func 17) #[.pointer (some ⟨X, 0, none⟩)] #[], .int .i64 40] (w3.alloc (.cells #[.func (.func 17) #[.pointer (some ⟨X, 0, none⟩)] #[], .int .i64 40] 57))) := Lib.hid hq
        clear hq
        have HXS : Hid (w3.heap.size ∉ [X] ∧ w3.heap.size ∉ [M]) := Lib.hid ⟨by have := HK3.out.1.box.lt; simp; omega, by have := HK3.out.1.map.lt; simp; omega⟩
        have r0 := HK3.out.2.cells 6 _ rfl
        have r1 := HK3.out.2.cells 7 _ rfl
        have rl := HK3.out.2.lt
        have gl := HK3.out.1.box.lt
        rw [rounds_succ]
        cases b3 with
        | false =>
          go_wp2_with (first | (go_at_call 17; refine (HF3.out _ HXQ3.out).mono ?_; rintro e1 w1' ⟨rfl, H1⟩; have hkb : Kb [] _ _ := Kb.of_ext H1.out; have z1 := hkb.cell (by simp) (HQQ.out.cells 1 _ rfl); have zl := Nat.lt_of_lt_of_le HQQ.out.lt hkb.size; clear hkb) | fail)
          have h1 : R = 40 := by rw [HR.out]; unfold chkS; rw [← HB0.out, ← HB1.out, ← HB2.out, ← HB3.out]; rfl
          rw [HQ.out, h1]
          exact ⟨rfl, Lib.hid ((HE3.out.trans HXQ3.out).trans H1.out)⟩
        | true =>
          go_wp2_with (first | (go_at_call 17; refine (HF3.out _ HXQ3.out).mono ?_; rintro e1 w4 ⟨rfl, H1⟩) | fail)
          have HK4 : Hid (CK w y X M (ntL (tabS s)) (fitsB s.body 1 0).1 w4 ∧ BoxV G [.func (.func 14) #[.pointer (some ⟨X, 0, none⟩)] #[], .int .i64 2, .func (.func 15) #[.pointer (some ⟨X, 0, none⟩)] #[], .int .i64 20, .func (.func 16) #[.pointer (some ⟨X, 0, none⟩)] #[], .int .i64 22, .func (.func 17) #[.pointer (some ⟨X, 0, none⟩)] #[], .int .i64 40, .func (.func 18) #[.pointer (some ⟨X, 0, none⟩)] #[], .int .i64 21, .func (.func 19) #[.pointer (some ⟨X, 0, none⟩)] #[], .int .i64 22] w4) := Lib.hid ⟨(HK3.out.1.next HXQ3.out).next H1.out, (HK3.out.2.ext HXQ3.out).ext H1.out⟩
          have HE4 : Hid (Ext w w4) := Lib.hid ((HE3.out.trans HXQ3.out).trans H1.out)
          clear r0 r1 rl gl H1 HQQ HXS
          obtain ⟨b4, hb⟩ : ∃ b, b = thereS s := ⟨_, rfl⟩
          have HF4 : Hid (∀ wz, Ext w4 wz → Calls Try.prog 18 #[.pointer (some ⟨X, 0, none⟩)] wz (RetQ b4 wz)) := Lib.hid (fun wz hx1 => by
            rw [hb]; exact there_any w s y X M (tabS s) _ wz HS.out.1 HS.out.2 (HK4.out.1.next hx1))
          have HB4 := Lib.hid hb
          clear hb
          have hq : BoxV w4.heap.size [.func (.func 18) #[.pointer (some ⟨X, 0, none⟩)] #[], .int .i64 21] (w4.alloc (.cells #[.func (.func 18) #[.pointer (some ⟨X, 0, none⟩)] #[], .int .i64 21] 57)) := BoxV.of_row (heap_alloc_last w4 _)
          have HXQ4 : Hid (Ext w4 (w4.alloc (.cells #[.func (.func 18) #[.pointer (some ⟨X, 0, none⟩)] #[], .int .i64 21] 57))) := Lib.hid ((Ext.refl w4).alloc _)
          have HQQ : Hid (BoxV w4.heap.size [.func (.func 18) #[.pointer (some ⟨X, 0, none⟩)] #[], .int .i64 21] (w4.alloc (.cells #[.func (.func 18) #[.pointer (some ⟨X, 0, none⟩)] #[], .int .i64 21] 57))) := Lib.hid hq
          clear hq
          have HXS : Hid (w4.heap.size ∉ [X] ∧ w4.heap.size ∉ [M]) := Lib.hid ⟨by have := HK4.out.1.box.lt; simp; omega, by have := HK4.out.1.map.lt; simp; omega⟩
          have r0 := HK4.out.2.cells 8 _ rfl
          have r1 := HK4.out.2.cells 9 _ rfl
          have rl := HK4.out.2.lt
          have gl := HK4.out.1.box.lt
          rw [rounds_succ]
          cases b4 with
          | false =>
            go_wp2_with (first | (go_at_call 18; refine (HF4.out _ HXQ4.out).mono ?_; rintro e1 w1' ⟨rfl, H1⟩; have hkb : Kb [] _ _ := Kb.of_ext H1.out; have z1 := hkb.cell (by simp) (HQQ.out.cells 1 _ rfl); have zl := Nat.lt_of_lt_of_le HQQ.out.lt hkb.size; clear hkb) | fail)
            have h1 : R = 21 := by rw [HR.out]; unfold chkS; rw [← HB0.out, ← HB1.out, ← HB2.out, ← HB3.out, ← HB4.out]; rfl
            rw [HQ.out, h1]
            exact ⟨rfl, Lib.hid ((HE4.out.trans HXQ4.out).trans H1.out)⟩
          | true =>
            go_wp2_with (first | (go_at_call 18; refine (HF4.out _ HXQ4.out).mono ?_; rintro e1 w5 ⟨rfl, H1⟩) | fail)
            have HK5 : Hid (CK w y X M (ntL (tabS s)) (fitsB s.body 1 0).1 w5 ∧ BoxV G [.func (.func 14) #[.pointer (some ⟨X, 0, none⟩)] #[], .int .i64 2, .func (.func 15) #[.pointer (some ⟨X, 0, none⟩)] #[], .int .i64 20, .func (.func 16) #[.pointer (some ⟨X, 0, none⟩)] #[], .int .i64 22, .func (.func 17) #[.pointer (some ⟨X, 0, none⟩)] #[], .int .i64 40, .func (.func 18) #[.pointer (some ⟨X, 0, none⟩)] #[], .int .i64 21, .func (.func 19) #[.pointer (some ⟨X, 0, none⟩)] #[], .int .i64 22] w5) := Lib.hid ⟨(HK4.out.1.next HXQ4.out).next H1.out, (HK4.out.2.ext HXQ4.out).ext H1.out⟩
            have HE5 : Hid (Ext w w5) := Lib.hid ((HE4.out.trans HXQ4.out).trans H1.out)
            clear r0 r1 rl gl H1 HQQ HXS
            obtain ⟨b5, hb⟩ : ∃ b, b = typesS s := ⟨_, rfl⟩
            have HF5 : Hid (∀ wz, Ext w5 wz → Calls Try.prog 19 #[.pointer (some ⟨X, 0, none⟩)] wz (RetQ b5 wz)) := Lib.hid (fun wz hx1 => by
              rw [hb]; exact types_any w s y X M (tabS s) _ wz HS.out.1 (typeP_of HS.out.2 HB3.out.symm) (HK5.out.1.next hx1))
            have HB5 := Lib.hid hb
            clear hb
            have hq : BoxV w5.heap.size [.func (.func 19) #[.pointer (some ⟨X, 0, none⟩)] #[], .int .i64 22] (w5.alloc (.cells #[.func (.func 19) #[.pointer (some ⟨X, 0, none⟩)] #[], .int .i64 22] 57)) := BoxV.of_row (heap_alloc_last w5 _)
            have HXQ5 : Hid (Ext w5 (w5.alloc (.cells #[.func (.func 19) #[.pointer (some ⟨X, 0, none⟩)] #[], .int .i64 22] 57))) := Lib.hid ((Ext.refl w5).alloc _)
            have HQQ : Hid (BoxV w5.heap.size [.func (.func 19) #[.pointer (some ⟨X, 0, none⟩)] #[], .int .i64 22] (w5.alloc (.cells #[.func (.func 19) #[.pointer (some ⟨X, 0, none⟩)] #[], .int .i64 22] 57))) := Lib.hid hq
            clear hq
            have HXS : Hid (w5.heap.size ∉ [X] ∧ w5.heap.size ∉ [M]) := Lib.hid ⟨by have := HK5.out.1.box.lt; simp; omega, by have := HK5.out.1.map.lt; simp; omega⟩
            have r0 := HK5.out.2.cells 10 _ rfl
            have r1 := HK5.out.2.cells 11 _ rfl
            have rl := HK5.out.2.lt
            have gl := HK5.out.1.box.lt
            rw [rounds_succ]
            cases b5 with
            | false =>
              go_wp2_with (first | (go_at_call 19; refine (HF5.out _ HXQ5.out).mono ?_; rintro e1 w1' ⟨rfl, H1⟩; have hkb : Kb [] _ _ := Kb.of_ext H1.out; have z1 := hkb.cell (by simp) (HQQ.out.cells 1 _ rfl); have zl := Nat.lt_of_lt_of_le HQQ.out.lt hkb.size; clear hkb) | fail)
              have h1 : R = 22 := by rw [HR.out]; unfold chkS; rw [← HB0.out, ← HB1.out, ← HB2.out, ← HB3.out, ← HB4.out, ← HB5.out]; rfl
              rw [HQ.out, h1]
              exact ⟨rfl, Lib.hid ((HE5.out.trans HXQ5.out).trans H1.out)⟩
            | true =>
              go_wp2_with (first | (go_at_call 19; refine (HF5.out _ HXQ5.out).mono ?_; rintro e1 w6 ⟨rfl, H1⟩) | fail)
              rw [rounds_succ]
              go_wp2
              have h1 : R = 0 := by rw [HR.out]; unfold chkS; rw [← HB0.out, ← HB1.out, ← HB2.out, ← HB3.out, ← HB4.out, ← HB5.out]; rfl
              rw [HQ.out, h1]
              exact ⟨rfl, Lib.hid ((HE5.out.trans HXQ5.out).trans H1.out)⟩
end Go.Proofs.Ytkjgghbdpmkmoaa

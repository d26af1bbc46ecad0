/-
  The walk: a flat program is checked.
  Condition: the program lies in memory.
-/
import Derived.Test.YtmommjagndadjaaJcK
import Derived.Test.YtmommjagndadjaaJcJ
import Derived.Test.YtmommjagndadjaaJcH
import Derived.Test.YtmommjagndadjaaJcI
import Derived.Test.YtmommjagndadjaaJcF
namespace Go.Proofs.Ytmommjagndadjaa
open Go.RowKit Go.Maps
set_option linter.unusedSimpArgs false
set_option linter.unusedVariables false
set_option maxRecDepth 100000

/-! ### Plain -/
theorem partsL_mono {p q : CE → Bool} (h : ∀ e, p e = true → q e = true) : ∀ l : List CE, (∀ e ∈ l, partsE p e = true → partsE q e = true) → partsL p l = true → partsL q l = true
  | [], _, _ => by rw [partsL]
  | x :: l, hl, hp => by
    rw [partsL, Bool.and_eq_true] at hp ⊢
    exact ⟨hl x (by simp) hp.1, partsL_mono h l (fun e he => hl e (by simp [he])) hp.2⟩
theorem partsE_mono {p q : CE → Bool} (h : ∀ e, p e = true → q e = true) (e : CE) : partsE p e = true → partsE q e = true := by
  induction e using CE.ind with
  | h f s k n nm ks ih =>
    intro hp
    rw [partsE, Bool.and_eq_true] at hp ⊢
    exact ⟨h _ hp.1, partsL_mono h ks ih hp.2⟩
mutual
theorem readsE_le : ∀ e : CE, (readsE e).length ≤ cntE e
  | .mk f s k n nm ks => by
    rw [readsE, cntE, List.length_append]
    have := readsL_le ks
    split <;> simp <;> omega
theorem readsL_le : ∀ l : List CE, (readsL l).length ≤ cntL l
  | [] => by rw [readsL]; exact Nat.zero_le _
  | k :: ks => by
    rw [readsL, cntL, List.length_append]
    have h1 := readsE_le k
    have h2 := readsL_le ks
    omega
end
theorem onH_le (d : DT) (l : List ByteArray) : (onH d l).length ≤ l.length := List.length_filterMap_le _ _
theorem onH_mem {d : DT} {l : List ByteArray} {x : Int} (h : x ∈ onH d l) : ∃ n, lookD d n ≠ 0 ∧ x = lookD d n - 1 := by
  unfold onH at h
  obtain ⟨n, -, h2⟩ := List.mem_filterMap.1 h
  split at h2
  · exact ⟨n, by assumption, (Option.some.inj h2).symm⟩
  · cases h2
theorem defsH_mem : ∀ (l : List EQ) (t : DT) (k : Int), ∀ e ∈ defsH t k l, e ∈ t ∨ (k + 1 ≤ e.2 ∧ e.2 ≤ k + l.length)
  | [], t, k, e, h => .inl h
  | q :: l, t, k, e, h => by
    rw [defsH] at h
    rcases defsH_mem l _ _ e h with h1 | h1
    · rcases List.mem_cons.1 h1 with rfl | h1
      · refine .inr ⟨by dsimp only; omega, ?_⟩
        simp only [List.length_cons]
        omega
      · exact .inl h1
    · refine .inr ⟨by omega, ?_⟩
      simp only [List.length_cons]
      omega
theorem defsH_look (c : CP) (n : ByteArray) : 0 ≤ lookD (defsH [] 0 c.eqs) n ∧ lookD (defsH [] 0 c.eqs) n ≤ c.eqs.length := by
  refine lookD_bound 0 c.eqs.length (by omega) (by omega) _ (fun e he => ?_) n
  rcases defsH_mem c.eqs [] 0 e he with h | h
  · cases h
  · omega
theorem hangs_len (c : CP) : (hangsV c).length = c.eqs.length := by unfold hangsV; simp
theorem hangs_in (c : CP) : ∀ l ∈ hangsV c, ∀ x ∈ l, 0 ≤ x ∧ x < (c.eqs.length : Int) := by
  intro l hl x hx
  unfold hangsV at hl
  obtain ⟨q, -, rfl⟩ := List.mem_map.1 hl
  obtain ⟨n, h1, rfl⟩ := onH_mem hx
  have := defsH_look c n
  omega
/-- What is asked of a program's size. -/
structure smC (c : CP) : Prop where
  cnt : ∀ q ∈ c.eqs, q.form = 1 → cntE q.e ≤ 200000
  clk : ∀ v ∈ c.vars, v.clk.length ≤ 100000
theorem clkT_le {t : VT} {n : ByteArray} {K : Nat} (h : ∀ v ∈ t, v.clk.length ≤ K) : (clkT t n).length ≤ K := by
  unfold clkT lookT
  cases hf : t.find? fun v => decide (v.name = n) with
  | none => simp
  | some v => exact h v (List.mem_of_find?_eq_some hf)
theorem putT_mem : ∀ (l t : VT), ∀ v ∈ (putT t l).1, v ∈ t ∨ v ∈ l
  | [], t, v, h => .inl h
  | x :: l, t, v, h => by
    rw [putT] at h
    split at h
    · exact .inl h
    · rcases putT_mem l (x :: t) v h with h1 | h1
      · rcases List.mem_cons.1 h1 with h2 | h2
        · exact .inr (by rw [h2]; simp)
        · exact .inl h2
      · exact .inr (by simp [h1])
theorem hangs_sum {c : CP} (h : smC c) (hl : c.eqs.length ≤ 2000) : ((hangsV c).map List.length).sum ≤ 1000000000 := by
  have h1 : ∀ l ∈ hangsV c, l.length ≤ 400001 := fun l hl => by
    unfold hangsV at hl
    obtain ⟨q, hq, rfl⟩ := List.mem_map.1 hl
    refine Nat.le_trans (onH_le _ _) ?_
    unfold namesQ
    rw [List.length_append, List.length_map]
    have h2 : (clkT (clksH c) q.name).length ≤ 100000 := clkT_le (fun v hv => h.clk v (List.mem_reverse.1 hv))
    have h3 : (if q.form = 1 then readsE q.e else if q.form = 2 then (if q.reset = eB then [] else [q.reset]) else []).length ≤ 200001 := by
      split
      · have h4 := readsE_le q.e
        have h5 := h.cnt q hq (by assumption)
        omega
      · split
        · split <;> simp
        · simp
    omega
  have h2 : ∀ (l : List (List Int)), (∀ x ∈ l, x.length ≤ 400001) → (l.map List.length).sum ≤ l.length * 400001 := by
    intro l
    induction l with
    | nil => intro _; simp
    | cons x l ih =>
      intro hx
      have h3 := ih (fun y hy => hx y (by simp [hy]))
      have h4 := hx x (by simp)
      simp only [List.map_cons, List.sum_cons, List.length_cons]
      omega
  have h3 := h2 _ h1
  rw [hangs_len] at h3
  have : c.eqs.length * 400001 ≤ 2000 * 400001 := Nat.mul_le_mul_right _ hl
  omega
theorem frmC_of {e : CE} (h : partsE (fun e => if kidsC e.form ≠ e.kids.length ∨ (e.form = 1 ∧ isk e.kind e.n = false) then false else decide (e.form ≠ 9 ∨ e.n = 0 ∨ e.n = 1)) e = true) : frm e := by
  unfold frm
  refine partsE_mono (fun e he => ?_) e h
  have h1 : kidsC e.form = e.kids.length := by
    by_cases hk : kidsC e.form ≠ e.kids.length ∨ (e.form = 1 ∧ isk e.kind e.n = false)
    · rw [if_pos hk] at he; cases he
    · exact Classical.not_not.1 (fun e => hk (.inl e))
  unfold frmB
  rw [Bool.and_eq_true]
  unfold kidsC at h1
  unfold wantF
  repeat' split at h1
  all_goals
    constructor
    · rw [decide_eq_true_eq]
      repeat' split
      all_goals omega
    · rw [decide_eq_true_eq]
      omega
theorem frmC_all {c : CP} {t : VT} (h : formsC t c = true) : ∀ q ∈ c.eqs, q.form = 1 → frm q.e := by
  intro q hq hf
  unfold formsC at h
  rw [Bool.and_eq_true] at h
  have h1 := h.2
  unfold expsC at h1
  have h2 := List.all_eq_true.1 h1 q hq
  rw [Bool.or_eq_true] at h2
  rcases h2 with h2 | h2
  · exact absurd hf (of_decide_eq_true h2)
  · exact frmC_of h2
theorem longC_le {c : CP} (h : longC c = true) : c.eqs.length ≤ 2000 ∧ c.ins.length ≤ 2000 ∧ c.outs.length ≤ 2000 ∧ c.locals.length ≤ 2000 := by
  unfold longC at h
  simp only [Bool.and_eq_true, decide_eq_true_eq] at h
  exact ⟨h.1.1.1.1.1, h.1.1.1.1.2, h.1.1.1.2, h.1.1.2⟩
set_option maxHeartbeats 8000000 in
theorem ccycles_any {W0 : World} {c : CP} {x : S4} {X M D : Nat} {t : TQ} {d : DT} {w : World} (hc : CPIn W0 c x) (h : KC W0 x X M D t d w) (hok : okC c) (hl : c.eqs.length ≤ 2000 ∧ c.ins.length ≤ 2000 ∧ c.outs.length ≤ 2000 ∧ c.locals.length ≤ 2000) (hsm : smC c) :
    Calls Try.prog 39 #[.pointer (some ⟨X, 0, none⟩)] w (RetX (cyclesC c) w) := by
  obtain ⟨Q, hQ⟩ : ∃ Q, Q = RetX (cyclesC c) w := ⟨_, rfl⟩
  rw [← hQ]
  have HQ := Lib.hid hQ
  obtain ⟨iv, ov, lv, ev⟩ := x
  have HF : Hid (Calls Try.prog 25 #[.agg #[iv, ov, lv, ev]] w (RetHg c w)) := Lib.hid (changs_any (x := ⟨iv, ov, lv, ev⟩) (hc.ext h.ext) hok ⟨by omega, by omega, by omega⟩ (by omega) (fun q hq hf => by have := hsm.cnt q hq hf; omega) (fun n => by
    have := clkT_le (t := clksH c) (n := n) (fun v hv => hsm.clk v (List.mem_reverse.1 hv))
    omega))
  obtain ⟨n, hn⟩ : ∃ n, n = c.eqs.length := ⟨_, rfl⟩
  have HF2 : Hid (Calls Try.prog 25 #[.agg #[iv, ov, lv, ev]] w (fun e w' => ∃ O, e = .returned (.slice (some ⟨O, 0, none⟩) n n) ∧ Hid (Ext w w' ∧ Calls Try.prog 28 #[.slice (some ⟨O, 0, none⟩) n n] w' (RetS n (sortV (hangsV c)) w')))) := Lib.hid (HF.out.mono (fun e w' ⟨O, vs, h1, h2⟩ => ⟨O, by rw [hn]; exact h1, Lib.hid ⟨h2.out.2, by
    rw [hn]
    exact csort_any h2.out.1 (hangs_len c).symm (by omega) (hangs_sum hsm hl.1) (hangs_in c)⟩⟩))
  have g0 := h.box.cells 0 _ rfl
  have g1 := h.box.cells 1 _ rfl
  have g2 := h.box.cells 2 _ rfl
  have g3 := h.box.cells 3 _ rfl
  have gl := h.box.lt
  have HN := Lib.hid hn
  clear hQ hc h hok hl hsm HF hn
  go_enter Try.func39, Try.ntmps39
  go_wp2_with (first | (go_at_call 25; refine HF2.out.mono ?_; rintro e1 w1 ⟨O, rfl, H1⟩) | (go_at_call 28; refine H1.out.2.mono ?_; rintro e2 w2 ⟨ps, cs, rfl, H2⟩) | fail)
  try go_ret
  rw [HQ.out]
  refine ⟨?_, Lib.hid (H1.out.1.trans H2.out.2)⟩
  unfold cyclesC
  rw [HN.out, hangs_len]
  rfl
/-! ### The table -/
theorem checkC_world (w : World) (y : S4) : KC w y (w.heap.size + 1 + 1 + 1) (w.heap.size + 1) (w.heap.size + 1 + 1) [] [] (((((w.alloc (.cells #[y.iv, y.ov, y.lv, y.ev] 26)).alloc (.map #[] 0)).alloc (.map #[] 0)).alloc (.cells #[y.iv, y.ov, y.lv, y.ev, .map (some (w.heap.size + 1)), .map (some (w.heap.size + 1 + 1))] 79)).alloc (.cells #[.func (.func 31) #[.pointer (some ⟨w.heap.size + 1 + 1 + 1, 0, none⟩)] #[], .int .i64 2, .func (.func 32) #[.pointer (some ⟨w.heap.size + 1 + 1 + 1, 0, none⟩)] #[], .int .i64 20, .func (.func 33) #[.pointer (some ⟨w.heap.size + 1 + 1 + 1, 0, none⟩)] #[], .int .i64 22, .func (.func 34) #[.pointer (some ⟨w.heap.size + 1 + 1 + 1, 0, none⟩)] #[], .int .i64 21, .func (.func 35) #[.pointer (some ⟨w.heap.size + 1 + 1 + 1, 0, none⟩)] #[], .int .i64 24, .func (.func 36) #[.pointer (some ⟨w.heap.size + 1 + 1 + 1, 0, none⟩)] #[], .int .i64 40, .func (.func 37) #[.pointer (some ⟨w.heap.size + 1 + 1 + 1, 0, none⟩)] #[], .int .i64 22, .func (.func 38) #[.pointer (some ⟨w.heap.size + 1 + 1 + 1, 0, none⟩)] #[], .int .i64 27, .func (.func 39) #[.pointer (some ⟨w.heap.size + 1 + 1 + 1, 0, none⟩)] #[], .int .i64 29] 80)) ∧
    BoxV (w.heap.size + 1 + 1 + 1 + 1) [.func (.func 31) #[.pointer (some ⟨w.heap.size + 1 + 1 + 1, 0, none⟩)] #[], .int .i64 2, .func (.func 32) #[.pointer (some ⟨w.heap.size + 1 + 1 + 1, 0, none⟩)] #[], .int .i64 20, .func (.func 33) #[.pointer (some ⟨w.heap.size + 1 + 1 + 1, 0, none⟩)] #[], .int .i64 22, .func (.func 34) #[.pointer (some ⟨w.heap.size + 1 + 1 + 1, 0, none⟩)] #[], .int .i64 21, .func (.func 35) #[.pointer (some ⟨w.heap.size + 1 + 1 + 1, 0, none⟩)] #[], .int .i64 24, .func (.func 36) #[.pointer (some ⟨w.heap.size + 1 + 1 + 1, 0, none⟩)] #[], .int .i64 40, .func (.func 37) #[.pointer (some ⟨w.heap.size + 1 + 1 + 1, 0, none⟩)] #[], .int .i64 22, .func (.func 38) #[.pointer (some ⟨w.heap.size + 1 + 1 + 1, 0, none⟩)] #[], .int .i64 27, .func (.func 39) #[.pointer (some ⟨w.heap.size + 1 + 1 + 1, 0, none⟩)] #[], .int .i64 29] (((((w.alloc (.cells #[y.iv, y.ov, y.lv, y.ev] 26)).alloc (.map #[] 0)).alloc (.map #[] 0)).alloc (.cells #[y.iv, y.ov, y.lv, y.ev, .map (some (w.heap.size + 1)), .map (some (w.heap.size + 1 + 1))] 79)).alloc (.cells #[.func (.func 31) #[.pointer (some ⟨w.heap.size + 1 + 1 + 1, 0, none⟩)] #[], .int .i64 2, .func (.func 32) #[.pointer (some ⟨w.heap.size + 1 + 1 + 1, 0, none⟩)] #[], .int .i64 20, .func (.func 33) #[.pointer (some ⟨w.heap.size + 1 + 1 + 1, 0, none⟩)] #[], .int .i64 22, .func (.func 34) #[.pointer (some ⟨w.heap.size + 1 + 1 + 1, 0, none⟩)] #[], .int .i64 21, .func (.func 35) #[.pointer (some ⟨w.heap.size + 1 + 1 + 1, 0, none⟩)] #[], .int .i64 24, .func (.func 36) #[.pointer (some ⟨w.heap.size + 1 + 1 + 1, 0, none⟩)] #[], .int .i64 40, .func (.func 37) #[.pointer (some ⟨w.heap.size + 1 + 1 + 1, 0, none⟩)] #[], .int .i64 22, .func (.func 38) #[.pointer (some ⟨w.heap.size + 1 + 1 + 1, 0, none⟩)] #[], .int .i64 27, .func (.func 39) #[.pointer (some ⟨w.heap.size + 1 + 1 + 1, 0, none⟩)] #[], .int .i64 29] 80)) := by
  obtain ⟨A, hA⟩ : ∃ A, A = (w.alloc (.cells #[y.iv, y.ov, y.lv, y.ev] 26)) := ⟨_, rfl⟩
  have hxA : Ext w A := by rw [hA]; exact (Ext.refl w).alloc _
  have hsA : A.heap.size = w.heap.size + 1 := by rw [hA]; simp
  rw [← hA]
  obtain ⟨B, hB⟩ : ∃ B, B = A.alloc (.map #[] 0) := ⟨_, rfl⟩
  have hxB : Ext A B := by rw [hB]; exact (Ext.refl A).alloc _
  have hsB : B.heap.size = w.heap.size + 1 + 1 := by rw [hB]; simp [hsA]
  have hm : SM Try.prog 9 (w.heap.size + 1) [] B := by rw [hB, ← hsA]; exact SM.made _ _ A
  rw [← hB]
  obtain ⟨B2, hB2⟩ : ∃ z, z = B.alloc (.map #[] 0) := ⟨_, rfl⟩
  have hxB2 : Ext B B2 := by rw [hB2]; exact (Ext.refl B).alloc _
  have hsB2 : B2.heap.size = w.heap.size + 1 + 1 + 1 := by rw [hB2]; simp [hsB]
  have hm2 : SM Try.prog 9 (w.heap.size + 1 + 1) [] B2 := by rw [hB2, ← hsB]; exact SM.made _ _ B
  rw [← hB2]
  obtain ⟨C, hC⟩ : ∃ C, C = B2.alloc (.cells #[y.iv, y.ov, y.lv, y.ev, .map (some (w.heap.size + 1)), .map (some (w.heap.size + 1 + 1))] 79) := ⟨_, rfl⟩
  have hxC : Ext B2 C := by rw [hC]; exact (Ext.refl B2).alloc _
  have hsC : C.heap.size = w.heap.size + 1 + 1 + 1 + 1 := by rw [hC]; simp [hsB2]
  have hb : BoxV (w.heap.size + 1 + 1 + 1) [y.iv, y.ov, y.lv, y.ev, .map (some (w.heap.size + 1)), .map (some (w.heap.size + 1 + 1))] C := by rw [hC, ← hsB2]; exact BoxV.of_row (heap_alloc_last B2 _)
  rw [← hC]
  have hxD : Ext C (C.alloc (.cells #[.func (.func 31) #[.pointer (some ⟨w.heap.size + 1 + 1 + 1, 0, none⟩)] #[], .int .i64 2, .func (.func 32) #[.pointer (some ⟨w.heap.size + 1 + 1 + 1, 0, none⟩)] #[], .int .i64 20, .func (.func 33) #[.pointer (some ⟨w.heap.size + 1 + 1 + 1, 0, none⟩)] #[], .int .i64 22, .func (.func 34) #[.pointer (some ⟨w.heap.size + 1 + 1 + 1, 0, none⟩)] #[], .int .i64 21, .func (.func 35) #[.pointer (some ⟨w.heap.size + 1 + 1 + 1, 0, none⟩)] #[], .int .i64 24, .func (.func 36) #[.pointer (some ⟨w.heap.size + 1 + 1 + 1, 0, none⟩)] #[], .int .i64 40, .func (.func 37) #[.pointer (some ⟨w.heap.size + 1 + 1 + 1, 0, none⟩)] #[], .int .i64 22, .func (.func 38) #[.pointer (some ⟨w.heap.size + 1 + 1 + 1, 0, none⟩)] #[], .int .i64 27, .func (.func 39) #[.pointer (some ⟨w.heap.size + 1 + 1 + 1, 0, none⟩)] #[], .int .i64 29] 80)) := (Ext.refl C).alloc _
  refine ⟨{ ext := (((hxA.trans hxB).trans hxB2).trans hxC).trans hxD, box := hb.ext hxD, vmap := ((hm.ext hxB2).ext hxC).ext hxD, dmap := (hm2.ext hxC).ext hxD, tab := fun e h => by simp at h, nx := by omega, nm := by omega, nd := by omega, xm := by omega, xd := by omega, md := by omega }, ?_⟩
  rw [← hsC]
  exact BoxV.of_row (heap_alloc_last C _)
set_option maxHeartbeats 16000000 in
theorem ccheck_any (c : CP) (x : S4) (w : World) (hc : CPIn w c x) (hok : okC c) (hsm : smC c) :
    Calls Try.prog 20 #[coreA x] w (RetI (chkC c) w) := by
  obtain ⟨R, hR⟩ : ∃ R, R = chkC c := ⟨_, rfl⟩
  rw [← hR]
  obtain ⟨Q, hQ⟩ : ∃ Q, Q = RetI R w := ⟨_, rfl⟩
  rw [← hQ]
  have HQ := Lib.hid hQ
  have HR := Lib.hid hR
  have HS := Lib.hid (And.intro hc (And.intro hok hsm))
  obtain ⟨iv, ov, lv, ev⟩ := x
  obtain ⟨qs1, h1⟩ := hc.ins
  obtain ⟨qs2, h2⟩ := hc.outs
  obtain ⟨qs3, h3⟩ := hc.locals
  obtain ⟨p1, c1, e1, -, -⟩ := h1.slice
  obtain ⟨p2, c2, e2, -, -⟩ := h2.slice
  obtain ⟨p3, c3, e3, -, -⟩ := h3.slice
  obtain ⟨p4, c4, e4, -, -⟩ := hc.eqs.slice
  simp only at e1 e2 e3 e4
  subst e1 e2 e3 e4
  obtain ⟨y, hy⟩ : ∃ y : S4, y = ⟨.slice p1 c.ins.length c1, .slice p2 c.outs.length c2, .slice p3 c.locals.length c3, .slice p4 c.eqs.length c4⟩ := ⟨_, rfl⟩
  rw [← hy] at HS
  have HY := Lib.hid hy
  obtain ⟨n1, h1⟩ : ∃ n, n = c.ins.length := ⟨_, rfl⟩
  obtain ⟨n2, h2⟩ : ∃ n, n = c.outs.length := ⟨_, rfl⟩
  obtain ⟨n3, h3⟩ : ∃ n, n = c.locals.length := ⟨_, rfl⟩
  obtain ⟨n4, h4⟩ : ∃ n, n = c.eqs.length := ⟨_, rfl⟩
  have HN := Lib.hid (And.intro h1 (And.intro h2 (And.intro h3 h4)))
  simp only [← h1, ← h2, ← h3, ← h4]
  clear hQ hR hc hok hy h1 h2 h3 h4 hsm
  have hmk := @run_makeMap Try.prog
  go_enter Try.func20, Try.ntmps20
  go_upto_region 3 with fail
  have hyv : y = ⟨.slice p1 n1 c1, .slice p2 n2 c2, .slice p3 n3 c3, .slice p4 n4 c4⟩ := by rw [HY.out, HN.out.1, HN.out.2.1, HN.out.2.2.1, HN.out.2.2.2]
  obtain ⟨hck, hrw⟩ := checkC_world w y
  rw [show y.iv = .slice p1 n1 c1 by rw [hyv], show y.ov = .slice p2 n2 c2 by rw [hyv], show y.lv = .slice p3 n3 c3 by rw [hyv], show y.ev = .slice p4 n4 c4 by rw [hyv]] at hck hrw
  have hXG : w.heap.size + 1 + 1 + 1 ≠ w.heap.size + 1 + 1 + 1 + 1 := by omega
  have hMG : w.heap.size + 1 ≠ w.heap.size + 1 + 1 + 1 + 1 := by omega
  have hDG : w.heap.size + 1 + 1 ≠ w.heap.size + 1 + 1 + 1 + 1 := by omega
  generalize (((((w.alloc (.cells #[.slice p1 n1 c1, .slice p2 n2 c2, .slice p3 n3 c3, .slice p4 n4 c4] 26)).alloc (.map #[] 0)).alloc (.map #[] 0)).alloc (.cells #[.slice p1 n1 c1, .slice p2 n2 c2, .slice p3 n3 c3, .slice p4 n4 c4, .map (some (w.heap.size + 1)), .map (some (w.heap.size + 1 + 1))] 79)).alloc (.cells #[.func (.func 31) #[.pointer (some ⟨w.heap.size + 1 + 1 + 1, 0, none⟩)] #[], .int .i64 2, .func (.func 32) #[.pointer (some ⟨w.heap.size + 1 + 1 + 1, 0, none⟩)] #[], .int .i64 20, .func (.func 33) #[.pointer (some ⟨w.heap.size + 1 + 1 + 1, 0, none⟩)] #[], .int .i64 22, .func (.func 34) #[.pointer (some ⟨w.heap.size + 1 + 1 + 1, 0, none⟩)] #[], .int .i64 21, .func (.func 35) #[.pointer (some ⟨w.heap.size + 1 + 1 + 1, 0, none⟩)] #[], .int .i64 24, .func (.func 36) #[.pointer (some ⟨w.heap.size + 1 + 1 + 1, 0, none⟩)] #[], .int .i64 40, .func (.func 37) #[.pointer (some ⟨w.heap.size + 1 + 1 + 1, 0, none⟩)] #[], .int .i64 22, .func (.func 38) #[.pointer (some ⟨w.heap.size + 1 + 1 + 1, 0, none⟩)] #[], .int .i64 27, .func (.func 39) #[.pointer (some ⟨w.heap.size + 1 + 1 + 1, 0, none⟩)] #[], .int .i64 29] 80)) = w0 at hck hrw ⊢
  generalize w.heap.size + 1 + 1 + 1 + 1 = G at hck hrw hXG hMG hDG ⊢
  generalize w.heap.size + 1 + 1 + 1 = X at hck hrw hXG hMG hDG ⊢
  generalize w.heap.size + 1 + 1 = D at hck hrw hXG hMG hDG ⊢
  generalize w.heap.size + 1 = M at hck hrw hXG hMG hDG ⊢
  have HG := Lib.hid (And.intro hXG (And.intro hMG hDG))
  have HK0 := Lib.hid (And.intro hck hrw)
  have HE0 : Hid (Ext w w0) := Lib.hid hck.ext
  clear hck hrw hXG hMG hDG hyv
  refine wp_loop_rounds 10 ?_
  obtain ⟨b0, hb⟩ : ∃ b, b = longC c := ⟨_, rfl⟩
  have HF0 : Hid (∀ wz, Ext w0 wz → Calls Try.prog 31 #[.pointer (some ⟨X, 0, none⟩)] wz (RetX b0 wz)) := Lib.hid (fun wz hx1 => by
    rw [hb]; exact clong_any HS.out.1 (HK0.out.1.next hx1) HS.out.2.1)
  have HB0 := Lib.hid hb
  clear hb
  have HXQ0 : Hid (Ext w0 (w0.alloc (.cells #[.func (.func 31) #[.pointer (some ⟨X, 0, none⟩)] #[], .int .i64 2] 80))) := Lib.hid ((Ext.refl w0).alloc _)
  have HQQ : Hid (BoxV w0.heap.size [.func (.func 31) #[.pointer (some ⟨X, 0, none⟩)] #[], .int .i64 2] (w0.alloc (.cells #[.func (.func 31) #[.pointer (some ⟨X, 0, none⟩)] #[], .int .i64 2] 80))) := Lib.hid (BoxV.of_row (heap_alloc_last w0 _))
  have HXS : Hid (w0.heap.size ∉ [M, D]) := Lib.hid (by have := HK0.out.1.vmap.lt; have := HK0.out.1.dmap.lt; simp; omega)
  have r0 := HK0.out.2.cells 0 _ rfl
  have r1 := HK0.out.2.cells 1 _ rfl
  have rl := HK0.out.2.lt
  have gl := HK0.out.1.box.lt
  rw [rounds_succ]
  cases b0 with
  | false =>
    go_wp2_with (first | (go_at_call 31; refine (HF0.out _ HXQ0.out).mono ?_; rintro e1 w1' ⟨rfl, H1⟩; have hkb : Kb [] _ _ := Kb.of_ext H1.out; have z1 := hkb.cell (by simp) (HQQ.out.cells 1 _ rfl); have zl := Nat.lt_of_lt_of_le HQQ.out.lt hkb.size; clear hkb) | fail)
    have h1 : R = 2 := by rw [HR.out]; unfold chkC; rw [← HB0.out]; rfl
    rw [HQ.out, h1]
    exact ⟨rfl, Lib.hid ((HE0.out.trans HXQ0.out).trans H1.out)⟩
  | true =>
    go_wp2_with (first | (go_at_call 31; refine (HF0.out _ HXQ0.out).mono ?_; rintro e1 w1 ⟨rfl, H1⟩) | fail)
    have HLL := Lib.hid (longC_le HB0.out.symm)
    have HK1 : Hid (KC w y X M D [] [] w1 ∧ BoxV G [.func (.func 31) #[.pointer (some ⟨X, 0, none⟩)] #[], .int .i64 2, .func (.func 32) #[.pointer (some ⟨X, 0, none⟩)] #[], .int .i64 20, .func (.func 33) #[.pointer (some ⟨X, 0, none⟩)] #[], .int .i64 22, .func (.func 34) #[.pointer (some ⟨X, 0, none⟩)] #[], .int .i64 21, .func (.func 35) #[.pointer (some ⟨X, 0, none⟩)] #[], .int .i64 24, .func (.func 36) #[.pointer (some ⟨X, 0, none⟩)] #[], .int .i64 40, .func (.func 37) #[.pointer (some ⟨X, 0, none⟩)] #[], .int .i64 22, .func (.func 38) #[.pointer (some ⟨X, 0, none⟩)] #[], .int .i64 27, .func (.func 39) #[.pointer (some ⟨X, 0, none⟩)] #[], .int .i64 29] w1) := Lib.hid ⟨(HK0.out.1.next HXQ0.out).next H1.out, (HK0.out.2.ext HXQ0.out).ext H1.out⟩
    have HE1 : Hid (Ext w w1) := Lib.hid ((HE0.out.trans HXQ0.out).trans H1.out)
    clear r0 r1 rl gl H1 HQQ HXS
    obtain ⟨b1, hb⟩ : ∃ b, b = twiceC c := ⟨_, rfl⟩
    have HF1 : Hid (∀ wz, Ext w1 wz → Calls Try.prog 32 #[.pointer (some ⟨X, 0, none⟩)] wz (RetTw w y X M D c b1 wz)) := Lib.hid (fun wz hx1 => by
      rw [hb]; exact ctwice_any HS.out.1 (HK1.out.1.next hx1) HS.out.2.1 ⟨by have := HLL.out; omega, by have := HLL.out; omega, by have := HLL.out; omega⟩ (by have := HLL.out; omega))
    have HB1 := Lib.hid hb
    clear hb
    have HXQ1 : Hid (Ext w1 (w1.alloc (.cells #[.func (.func 32) #[.pointer (some ⟨X, 0, none⟩)] #[], .int .i64 20] 80))) := Lib.hid ((Ext.refl w1).alloc _)
    have HQQ : Hid (BoxV w1.heap.size [.func (.func 32) #[.pointer (some ⟨X, 0, none⟩)] #[], .int .i64 20] (w1.alloc (.cells #[.func (.func 32) #[.pointer (some ⟨X, 0, none⟩)] #[], .int .i64 20] 80))) := Lib.hid (BoxV.of_row (heap_alloc_last w1 _))
    have HXS : Hid (w1.heap.size ∉ [M, D]) := Lib.hid (by have := HK1.out.1.vmap.lt; have := HK1.out.1.dmap.lt; simp; omega)
    have r0 := HK1.out.2.cells 2 _ rfl
    have r1 := HK1.out.2.cells 3 _ rfl
    have rl := HK1.out.2.lt
    have gl := HK1.out.1.box.lt
    rw [rounds_succ]
    cases b1 with
    | false =>
      go_wp2_with (first | (go_at_call 32; refine (HF1.out _ HXQ1.out).mono ?_; rintro e1 w1' ⟨tq', dq', rfl, H1⟩; have hkb := H1.out.2.1; have z1 := hkb.cell HXS.out (HQQ.out.cells 1 _ rfl); have zl := Nat.lt_of_lt_of_le HQQ.out.lt hkb.size; clear hkb) | fail)
      have h1 : R = 20 := by rw [HR.out]; unfold chkC; rw [← HB0.out, ← HB1.out]; rfl
      rw [HQ.out, h1]
      exact ⟨rfl, Lib.hid (H1.out.1.ext)⟩
    | true =>
      go_wp2_with (first | (go_at_call 32; refine (HF1.out _ HXQ1.out).mono ?_; rintro e1 w2 ⟨t, d, rfl, H1⟩) | fail)
      have HTD := Lib.hid (H1.out.2.2 (by first | exact trivial | exact rfl))
      have HCL : Hid (∀ n, (clkT t.vt n).length ≤ 100000) := Lib.hid (fun n => clkT_le (fun v hv => HS.out.2.2.clk v (by
        rw [HTD.out.1] at hv
        exact (putT_mem c.vars [] v hv).elim (fun h => by cases h) id)))
      have HK2 : Hid (KC w y X M D t d w2 ∧ BoxV G [.func (.func 31) #[.pointer (some ⟨X, 0, none⟩)] #[], .int .i64 2, .func (.func 32) #[.pointer (some ⟨X, 0, none⟩)] #[], .int .i64 20, .func (.func 33) #[.pointer (some ⟨X, 0, none⟩)] #[], .int .i64 22, .func (.func 34) #[.pointer (some ⟨X, 0, none⟩)] #[], .int .i64 21, .func (.func 35) #[.pointer (some ⟨X, 0, none⟩)] #[], .int .i64 24, .func (.func 36) #[.pointer (some ⟨X, 0, none⟩)] #[], .int .i64 40, .func (.func 37) #[.pointer (some ⟨X, 0, none⟩)] #[], .int .i64 22, .func (.func 38) #[.pointer (some ⟨X, 0, none⟩)] #[], .int .i64 27, .func (.func 39) #[.pointer (some ⟨X, 0, none⟩)] #[], .int .i64 29] w2) := Lib.hid ⟨H1.out.1, (HK1.out.2.ext HXQ1.out).kb H1.out.2.1 (by have := HG.out; simp; omega)⟩
      have HE2 : Hid (Ext w w2) := Lib.hid H1.out.1.ext
      clear r0 r1 rl gl H1 HQQ HXS
      obtain ⟨b2, hb⟩ : ∃ b, b = kindsC c := ⟨_, rfl⟩
      have HF2 : Hid (∀ wz, Ext w2 wz → Calls Try.prog 33 #[.pointer (some ⟨X, 0, none⟩)] wz (RetX b2 wz)) := Lib.hid (fun wz hx1 => by
        rw [hb]; exact ckinds2_any HS.out.1 (HK2.out.1.next hx1) ⟨by have := HLL.out; omega, by have := HLL.out; omega, by have := HLL.out; omega⟩)
      have HB2 := Lib.hid hb
      clear hb
      have HXQ2 : Hid (Ext w2 (w2.alloc (.cells #[.func (.func 33) #[.pointer (some ⟨X, 0, none⟩)] #[], .int .i64 22] 80))) := Lib.hid ((Ext.refl w2).alloc _)
      have HQQ : Hid (BoxV w2.heap.size [.func (.func 33) #[.pointer (some ⟨X, 0, none⟩)] #[], .int .i64 22] (w2.alloc (.cells #[.func (.func 33) #[.pointer (some ⟨X, 0, none⟩)] #[], .int .i64 22] 80))) := Lib.hid (BoxV.of_row (heap_alloc_last w2 _))
      have HXS : Hid (w2.heap.size ∉ [M, D]) := Lib.hid (by have := HK2.out.1.vmap.lt; have := HK2.out.1.dmap.lt; simp; omega)
      have r0 := HK2.out.2.cells 4 _ rfl
      have r1 := HK2.out.2.cells 5 _ rfl
      have rl := HK2.out.2.lt
      have gl := HK2.out.1.box.lt
      rw [rounds_succ]
      cases b2 with
      | false =>
        go_wp2_with (first | (go_at_call 33; refine (HF2.out _ HXQ2.out).mono ?_; rintro e1 w1' ⟨rfl, H1⟩; have hkb : Kb [] _ _ := Kb.of_ext H1.out; have z1 := hkb.cell (by simp) (HQQ.out.cells 1 _ rfl); have zl := Nat.lt_of_lt_of_le HQQ.out.lt hkb.size; clear hkb) | fail)
        have h1 : R = 22 := by rw [HR.out]; unfold chkC; rw [← HB0.out, ← HB1.out, ← HB2.out]; rfl
        rw [HQ.out, h1]
        exact ⟨rfl, Lib.hid ((HE2.out.trans HXQ2.out).trans H1.out)⟩
      | true =>
        go_wp2_with (first | (go_at_call 33; refine (HF2.out _ HXQ2.out).mono ?_; rintro e1 w3 ⟨rfl, H1⟩) | fail)
        have HK3 : Hid (KC w y X M D t d w3 ∧ BoxV G [.func (.func 31) #[.pointer (some ⟨X, 0, none⟩)] #[], .int .i64 2, .func (.func 32) #[.pointer (some ⟨X, 0, none⟩)] #[], .int .i64 20, .func (.func 33) #[.pointer (some ⟨X, 0, none⟩)] #[], .int .i64 22, .func (.func 34) #[.pointer (some ⟨X, 0, none⟩)] #[], .int .i64 21, .func (.func 35) #[.pointer (some ⟨X, 0, none⟩)] #[], .int .i64 24, .func (.func 36) #[.pointer (some ⟨X, 0, none⟩)] #[], .int .i64 40, .func (.func 37) #[.pointer (some ⟨X, 0, none⟩)] #[], .int .i64 22, .func (.func 38) #[.pointer (some ⟨X, 0, none⟩)] #[], .int .i64 27, .func (.func 39) #[.pointer (some ⟨X, 0, none⟩)] #[], .int .i64 29] w3) := Lib.hid ⟨(HK2.out.1.next HXQ2.out).next H1.out, (HK2.out.2.ext HXQ2.out).ext H1.out⟩
        have HE3 : Hid (Ext w w3) := Lib.hid ((HE2.out.trans HXQ2.out).trans H1.out)
        clear r0 r1 rl gl H1 HQQ HXS
        obtain ⟨b3, hb⟩ : ∃ b, b = namesC t.vt c := ⟨_, rfl⟩
        have HF3 : Hid (∀ wz, Ext w3 wz → Calls Try.prog 34 #[.pointer (some ⟨X, 0, none⟩)] wz (RetX b3 wz)) := Lib.hid (fun wz hx1 => by
          rw [hb]; exact cnames_any HS.out.1 (HK3.out.1.next hx1) HS.out.2.1 ⟨by have := HLL.out; omega, by have := HLL.out; omega, by have := HLL.out; omega⟩ (by have := HLL.out; omega) (fun v hv => by have := HS.out.2.2.clk v hv; omega))
        have HB3 := Lib.hid hb
        clear hb
        have HXQ3 : Hid (Ext w3 (w3.alloc (.cells #[.func (.func 34) #[.pointer (some ⟨X, 0, none⟩)] #[], .int .i64 21] 80))) := Lib.hid ((Ext.refl w3).alloc _)
        have HQQ : Hid (BoxV w3.heap.size [.func (.func 34) #[.pointer (some ⟨X, 0, none⟩)] #[], .int .i64 21] (w3.alloc (.cells #[.func (.func 34) #[.pointer (some ⟨X, 0, none⟩)] #[], .int .i64 21] 80))) := Lib.hid (BoxV.of_row (heap_alloc_last w3 _))
        have HXS : Hid (w3.heap.size ∉ [M, D]) := Lib.hid (by have := HK3.out.1.vmap.lt; have := HK3.out.1.dmap.lt; simp; omega)
        have r0 := HK3.out.2.cells 6 _ rfl
        have r1 := HK3.out.2.cells 7 _ rfl
        have rl := HK3.out.2.lt
        have gl := HK3.out.1.box.lt
        rw [rounds_succ]
        cases b3 with
        | false =>
          go_wp2_with (first | (go_at_call 34; refine (HF3.out _ HXQ3.out).mono ?_; rintro e1 w1' ⟨rfl, H1⟩; have hkb : Kb [] _ _ := Kb.of_ext H1.out; have z1 := hkb.cell (by simp) (HQQ.out.cells 1 _ rfl); have zl := Nat.lt_of_lt_of_le HQQ.out.lt hkb.size; clear hkb) | fail)
          have h1 : R = 21 := by rw [HR.out]; unfold chkC; rw [← HB0.out, ← HB1.out, ← HB2.out, ← HTD.out.1, ← HTD.out.2, ← HB3.out]; rfl
          rw [HQ.out, h1]
          exact ⟨rfl, Lib.hid ((HE3.out.trans HXQ3.out).trans H1.out)⟩
        | true =>
          go_wp2_with (first | (go_at_call 34; refine (HF3.out _ HXQ3.out).mono ?_; rintro e1 w4 ⟨rfl, H1⟩) | fail)
          have HK4 : Hid (KC w y X M D t d w4 ∧ BoxV G [.func (.func 31) #[.pointer (some ⟨X, 0, none⟩)] #[], .int .i64 2, .func (.func 32) #[.pointer (some ⟨X, 0, none⟩)] #[], .int .i64 20, .func (.func 33) #[.pointer (some ⟨X, 0, none⟩)] #[], .int .i64 22, .func (.func 34) #[.pointer (some ⟨X, 0, none⟩)] #[], .int .i64 21, .func (.func 35) #[.pointer (some ⟨X, 0, none⟩)] #[], .int .i64 24, .func (.func 36) #[.pointer (some ⟨X, 0, none⟩)] #[], .int .i64 40, .func (.func 37) #[.pointer (some ⟨X, 0, none⟩)] #[], .int .i64 22, .func (.func 38) #[.pointer (some ⟨X, 0, none⟩)] #[], .int .i64 27, .func (.func 39) #[.pointer (some ⟨X, 0, none⟩)] #[], .int .i64 29] w4) := Lib.hid ⟨(HK3.out.1.next HXQ3.out).next H1.out, (HK3.out.2.ext HXQ3.out).ext H1.out⟩
          have HE4 : Hid (Ext w w4) := Lib.hid ((HE3.out.trans HXQ3.out).trans H1.out)
          clear r0 r1 rl gl H1 HQQ HXS
          obtain ⟨b4, hb⟩ : ∃ b, b = missC d c := ⟨_, rfl⟩
          have HF4 : Hid (∀ wz, Ext w4 wz → Calls Try.prog 35 #[.pointer (some ⟨X, 0, none⟩)] wz (RetX b4 wz)) := Lib.hid (fun wz hx1 => by
            rw [hb]; exact missing_any HS.out.1 (HK4.out.1.next hx1) HS.out.2.1 ⟨by have := HLL.out; omega, by have := HLL.out; omega, by have := HLL.out; omega⟩)
          have HB4 := Lib.hid hb
          clear hb
          have HXQ4 : Hid (Ext w4 (w4.alloc (.cells #[.func (.func 35) #[.pointer (some ⟨X, 0, none⟩)] #[], .int .i64 24] 80))) := Lib.hid ((Ext.refl w4).alloc _)
          have HQQ : Hid (BoxV w4.heap.size [.func (.func 35) #[.pointer (some ⟨X, 0, none⟩)] #[], .int .i64 24] (w4.alloc (.cells #[.func (.func 35) #[.pointer (some ⟨X, 0, none⟩)] #[], .int .i64 24] 80))) := Lib.hid (BoxV.of_row (heap_alloc_last w4 _))
          have HXS : Hid (w4.heap.size ∉ [M, D]) := Lib.hid (by have := HK4.out.1.vmap.lt; have := HK4.out.1.dmap.lt; simp; omega)
          have r0 := HK4.out.2.cells 8 _ rfl
          have r1 := HK4.out.2.cells 9 _ rfl
          have rl := HK4.out.2.lt
          have gl := HK4.out.1.box.lt
          rw [rounds_succ]
          cases b4 with
          | false =>
            go_wp2_with (first | (go_at_call 35; refine (HF4.out _ HXQ4.out).mono ?_; rintro e1 w1' ⟨rfl, H1⟩; have hkb : Kb [] _ _ := Kb.of_ext H1.out; have z1 := hkb.cell (by simp) (HQQ.out.cells 1 _ rfl); have zl := Nat.lt_of_lt_of_le HQQ.out.lt hkb.size; clear hkb) | fail)
            have h1 : R = 24 := by rw [HR.out]; unfold chkC; rw [← HB0.out, ← HB1.out, ← HB2.out, ← HTD.out.1, ← HTD.out.2, ← HB3.out, ← HB4.out]; rfl
            rw [HQ.out, h1]
            exact ⟨rfl, Lib.hid ((HE4.out.trans HXQ4.out).trans H1.out)⟩
          | true =>
            go_wp2_with (first | (go_at_call 35; refine (HF4.out _ HXQ4.out).mono ?_; rintro e1 w5 ⟨rfl, H1⟩) | fail)
            have HK5 : Hid (KC w y X M D t d w5 ∧ BoxV G [.func (.func 31) #[.pointer (some ⟨X, 0, none⟩)] #[], .int .i64 2, .func (.func 32) #[.pointer (some ⟨X, 0, none⟩)] #[], .int .i64 20, .func (.func 33) #[.pointer (some ⟨X, 0, none⟩)] #[], .int .i64 22, .func (.func 34) #[.pointer (some ⟨X, 0, none⟩)] #[], .int .i64 21, .func (.func 35) #[.pointer (some ⟨X, 0, none⟩)] #[], .int .i64 24, .func (.func 36) #[.pointer (some ⟨X, 0, none⟩)] #[], .int .i64 40, .func (.func 37) #[.pointer (some ⟨X, 0, none⟩)] #[], .int .i64 22, .func (.func 38) #[.pointer (some ⟨X, 0, none⟩)] #[], .int .i64 27, .func (.func 39) #[.pointer (some ⟨X, 0, none⟩)] #[], .int .i64 29] w5) := Lib.hid ⟨(HK4.out.1.next HXQ4.out).next H1.out, (HK4.out.2.ext HXQ4.out).ext H1.out⟩
            have HE5 : Hid (Ext w w5) := Lib.hid ((HE4.out.trans HXQ4.out).trans H1.out)
            clear r0 r1 rl gl H1 HQQ HXS
            obtain ⟨b5, hb⟩ : ∃ b, b = formsC t.vt c := ⟨_, rfl⟩
            have HF5 : Hid (∀ wz, Ext w5 wz → Calls Try.prog 36 #[.pointer (some ⟨X, 0, none⟩)] wz (RetX b5 wz)) := Lib.hid (fun wz hx1 => by
              rw [hb]; exact cforms_any HS.out.1 (HK5.out.1.next hx1) HS.out.2.1)
            have HB5 := Lib.hid hb
            clear hb
            have HXQ5 : Hid (Ext w5 (w5.alloc (.cells #[.func (.func 36) #[.pointer (some ⟨X, 0, none⟩)] #[], .int .i64 40] 80))) := Lib.hid ((Ext.refl w5).alloc _)
            have HQQ : Hid (BoxV w5.heap.size [.func (.func 36) #[.pointer (some ⟨X, 0, none⟩)] #[], .int .i64 40] (w5.alloc (.cells #[.func (.func 36) #[.pointer (some ⟨X, 0, none⟩)] #[], .int .i64 40] 80))) := Lib.hid (BoxV.of_row (heap_alloc_last w5 _))
            have HXS : Hid (w5.heap.size ∉ [M, D]) := Lib.hid (by have := HK5.out.1.vmap.lt; have := HK5.out.1.dmap.lt; simp; omega)
            have r0 := HK5.out.2.cells 10 _ rfl
            have r1 := HK5.out.2.cells 11 _ rfl
            have rl := HK5.out.2.lt
            have gl := HK5.out.1.box.lt
            rw [rounds_succ]
            cases b5 with
            | false =>
              go_wp2_with (first | (go_at_call 36; refine (HF5.out _ HXQ5.out).mono ?_; rintro e1 w1' ⟨rfl, H1⟩; have hkb : Kb [] _ _ := Kb.of_ext H1.out; have z1 := hkb.cell (by simp) (HQQ.out.cells 1 _ rfl); have zl := Nat.lt_of_lt_of_le HQQ.out.lt hkb.size; clear hkb) | fail)
              have h1 : R = 40 := by rw [HR.out]; unfold chkC; rw [← HB0.out, ← HB1.out, ← HB2.out, ← HTD.out.1, ← HTD.out.2, ← HB3.out, ← HB4.out, ← HB5.out]; rfl
              rw [HQ.out, h1]
              exact ⟨rfl, Lib.hid ((HE5.out.trans HXQ5.out).trans H1.out)⟩
            | true =>
              go_wp2_with (first | (go_at_call 36; refine (HF5.out _ HXQ5.out).mono ?_; rintro e1 w6 ⟨rfl, H1⟩) | fail)
              have HK6 : Hid (KC w y X M D t d w6 ∧ BoxV G [.func (.func 31) #[.pointer (some ⟨X, 0, none⟩)] #[], .int .i64 2, .func (.func 32) #[.pointer (some ⟨X, 0, none⟩)] #[], .int .i64 20, .func (.func 33) #[.pointer (some ⟨X, 0, none⟩)] #[], .int .i64 22, .func (.func 34) #[.pointer (some ⟨X, 0, none⟩)] #[], .int .i64 21, .func (.func 35) #[.pointer (some ⟨X, 0, none⟩)] #[], .int .i64 24, .func (.func 36) #[.pointer (some ⟨X, 0, none⟩)] #[], .int .i64 40, .func (.func 37) #[.pointer (some ⟨X, 0, none⟩)] #[], .int .i64 22, .func (.func 38) #[.pointer (some ⟨X, 0, none⟩)] #[], .int .i64 27, .func (.func 39) #[.pointer (some ⟨X, 0, none⟩)] #[], .int .i64 29] w6) := Lib.hid ⟨(HK5.out.1.next HXQ5.out).next H1.out, (HK5.out.2.ext HXQ5.out).ext H1.out⟩
              have HE6 : Hid (Ext w w6) := Lib.hid ((HE5.out.trans HXQ5.out).trans H1.out)
              clear r0 r1 rl gl H1 HQQ HXS
              obtain ⟨b6, hb⟩ : ∃ b, b = typesC t.vt c := ⟨_, rfl⟩
              have HF6 : Hid (∀ wz, Ext w6 wz → Calls Try.prog 37 #[.pointer (some ⟨X, 0, none⟩)] wz (RetX b6 wz)) := Lib.hid (fun wz hx1 => by
                rw [hb]; exact ctypes_any HS.out.1 (HK6.out.1.next hx1) HS.out.2.1 ⟨by have := HLL.out; omega, by have := HLL.out; omega, by have := HLL.out; omega⟩ (frmC_all HB5.out.symm))
              have HB6 := Lib.hid hb
              clear hb
              have HXQ6 : Hid (Ext w6 (w6.alloc (.cells #[.func (.func 37) #[.pointer (some ⟨X, 0, none⟩)] #[], .int .i64 22] 80))) := Lib.hid ((Ext.refl w6).alloc _)
              have HQQ : Hid (BoxV w6.heap.size [.func (.func 37) #[.pointer (some ⟨X, 0, none⟩)] #[], .int .i64 22] (w6.alloc (.cells #[.func (.func 37) #[.pointer (some ⟨X, 0, none⟩)] #[], .int .i64 22] 80))) := Lib.hid (BoxV.of_row (heap_alloc_last w6 _))
              have HXS : Hid (w6.heap.size ∉ [M, D]) := Lib.hid (by have := HK6.out.1.vmap.lt; have := HK6.out.1.dmap.lt; simp; omega)
              have r0 := HK6.out.2.cells 12 _ rfl
              have r1 := HK6.out.2.cells 13 _ rfl
              have rl := HK6.out.2.lt
              have gl := HK6.out.1.box.lt
              rw [rounds_succ]
              cases b6 with
              | false =>
                go_wp2_with (first | (go_at_call 37; refine (HF6.out _ HXQ6.out).mono ?_; rintro e1 w1' ⟨rfl, H1⟩; have hkb : Kb [] _ _ := Kb.of_ext H1.out; have z1 := hkb.cell (by simp) (HQQ.out.cells 1 _ rfl); have zl := Nat.lt_of_lt_of_le HQQ.out.lt hkb.size; clear hkb) | fail)
                have h1 : R = 22 := by rw [HR.out]; unfold chkC; rw [← HB0.out, ← HB1.out, ← HB2.out, ← HTD.out.1, ← HTD.out.2, ← HB3.out, ← HB4.out, ← HB5.out, ← HB6.out]; rfl
                rw [HQ.out, h1]
                exact ⟨rfl, Lib.hid ((HE6.out.trans HXQ6.out).trans H1.out)⟩
              | true =>
                go_wp2_with (first | (go_at_call 37; refine (HF6.out _ HXQ6.out).mono ?_; rintro e1 w7 ⟨rfl, H1⟩) | fail)
                have HK7 : Hid (KC w y X M D t d w7 ∧ BoxV G [.func (.func 31) #[.pointer (some ⟨X, 0, none⟩)] #[], .int .i64 2, .func (.func 32) #[.pointer (some ⟨X, 0, none⟩)] #[], .int .i64 20, .func (.func 33) #[.pointer (some ⟨X, 0, none⟩)] #[], .int .i64 22, .func (.func 34) #[.pointer (some ⟨X, 0, none⟩)] #[], .int .i64 21, .func (.func 35) #[.pointer (some ⟨X, 0, none⟩)] #[], .int .i64 24, .func (.func 36) #[.pointer (some ⟨X, 0, none⟩)] #[], .int .i64 40, .func (.func 37) #[.pointer (some ⟨X, 0, none⟩)] #[], .int .i64 22, .func (.func 38) #[.pointer (some ⟨X, 0, none⟩)] #[], .int .i64 27, .func (.func 39) #[.pointer (some ⟨X, 0, none⟩)] #[], .int .i64 29] w7) := Lib.hid ⟨(HK6.out.1.next HXQ6.out).next H1.out, (HK6.out.2.ext HXQ6.out).ext H1.out⟩
                have HE7 : Hid (Ext w w7) := Lib.hid ((HE6.out.trans HXQ6.out).trans H1.out)
                clear r0 r1 rl gl H1 HQQ HXS
                obtain ⟨b7, hb⟩ : ∃ b, b = clocksC t.vt c := ⟨_, rfl⟩
                have HF7 : Hid (∀ wz, Ext w7 wz → Calls Try.prog 38 #[.pointer (some ⟨X, 0, none⟩)] wz (RetX b7 wz)) := Lib.hid (fun wz hx1 => by
                  rw [hb]; exact cclocks_any HS.out.1 (HK7.out.1.next hx1) HS.out.2.1 ⟨by have := HLL.out; omega, by have := HLL.out; omega, by have := HLL.out; omega⟩ (frmC_all HB5.out.symm) HCL.out)
                have HB7 := Lib.hid hb
                clear hb
                have HXQ7 : Hid (Ext w7 (w7.alloc (.cells #[.func (.func 38) #[.pointer (some ⟨X, 0, none⟩)] #[], .int .i64 27] 80))) := Lib.hid ((Ext.refl w7).alloc _)
                have HQQ : Hid (BoxV w7.heap.size [.func (.func 38) #[.pointer (some ⟨X, 0, none⟩)] #[], .int .i64 27] (w7.alloc (.cells #[.func (.func 38) #[.pointer (some ⟨X, 0, none⟩)] #[], .int .i64 27] 80))) := Lib.hid (BoxV.of_row (heap_alloc_last w7 _))
                have HXS : Hid (w7.heap.size ∉ [M, D]) := Lib.hid (by have := HK7.out.1.vmap.lt; have := HK7.out.1.dmap.lt; simp; omega)
                have r0 := HK7.out.2.cells 14 _ rfl
                have r1 := HK7.out.2.cells 15 _ rfl
                have rl := HK7.out.2.lt
                have gl := HK7.out.1.box.lt
                rw [rounds_succ]
                cases b7 with
                | false =>
                  go_wp2_with (first | (go_at_call 38; refine (HF7.out _ HXQ7.out).mono ?_; rintro e1 w1' ⟨rfl, H1⟩; have hkb : Kb [] _ _ := Kb.of_ext H1.out; have z1 := hkb.cell (by simp) (HQQ.out.cells 1 _ rfl); have zl := Nat.lt_of_lt_of_le HQQ.out.lt hkb.size; clear hkb) | fail)
                  have h1 : R = 27 := by rw [HR.out]; unfold chkC; rw [← HB0.out, ← HB1.out, ← HB2.out, ← HTD.out.1, ← HTD.out.2, ← HB3.out, ← HB4.out, ← HB5.out, ← HB6.out, ← HB7.out]; rfl
                  rw [HQ.out, h1]
                  exact ⟨rfl, Lib.hid ((HE7.out.trans HXQ7.out).trans H1.out)⟩
                | true =>
                  go_wp2_with (first | (go_at_call 38; refine (HF7.out _ HXQ7.out).mono ?_; rintro e1 w8 ⟨rfl, H1⟩) | fail)
                  have HK8 : Hid (KC w y X M D t d w8 ∧ BoxV G [.func (.func 31) #[.pointer (some ⟨X, 0, none⟩)] #[], .int .i64 2, .func (.func 32) #[.pointer (some ⟨X, 0, none⟩)] #[], .int .i64 20, .func (.func 33) #[.pointer (some ⟨X, 0, none⟩)] #[], .int .i64 22, .func (.func 34) #[.pointer (some ⟨X, 0, none⟩)] #[], .int .i64 21, .func (.func 35) #[.pointer (some ⟨X, 0, none⟩)] #[], .int .i64 24, .func (.func 36) #[.pointer (some ⟨X, 0, none⟩)] #[], .int .i64 40, .func (.func 37) #[.pointer (some ⟨X, 0, none⟩)] #[], .int .i64 22, .func (.func 38) #[.pointer (some ⟨X, 0, none⟩)] #[], .int .i64 27, .func (.func 39) #[.pointer (some ⟨X, 0, none⟩)] #[], .int .i64 29] w8) := Lib.hid ⟨(HK7.out.1.next HXQ7.out).next H1.out, (HK7.out.2.ext HXQ7.out).ext H1.out⟩
                  have HE8 : Hid (Ext w w8) := Lib.hid ((HE7.out.trans HXQ7.out).trans H1.out)
                  clear r0 r1 rl gl H1 HQQ HXS
                  obtain ⟨b8, hb⟩ : ∃ b, b = cyclesC c := ⟨_, rfl⟩
                  have HF8 : Hid (∀ wz, Ext w8 wz → Calls Try.prog 39 #[.pointer (some ⟨X, 0, none⟩)] wz (RetX b8 wz)) := Lib.hid (fun wz hx1 => by
                    rw [hb]; exact ccycles_any HS.out.1 (HK8.out.1.next hx1) HS.out.2.1 HLL.out HS.out.2.2)
                  have HB8 := Lib.hid hb
                  clear hb
                  have HXQ8 : Hid (Ext w8 (w8.alloc (.cells #[.func (.func 39) #[.pointer (some ⟨X, 0, none⟩)] #[], .int .i64 29] 80))) := Lib.hid ((Ext.refl w8).alloc _)
                  have HQQ : Hid (BoxV w8.heap.size [.func (.func 39) #[.pointer (some ⟨X, 0, none⟩)] #[], .int .i64 29] (w8.alloc (.cells #[.func (.func 39) #[.pointer (some ⟨X, 0, none⟩)] #[], .int .i64 29] 80))) := Lib.hid (BoxV.of_row (heap_alloc_last w8 _))
                  have HXS : Hid (w8.heap.size ∉ [M, D]) := Lib.hid (by have := HK8.out.1.vmap.lt; have := HK8.out.1.dmap.lt; simp; omega)
                  have r0 := HK8.out.2.cells 16 _ rfl
                  have r1 := HK8.out.2.cells 17 _ rfl
                  have rl := HK8.out.2.lt
                  have gl := HK8.out.1.box.lt
                  rw [rounds_succ]
                  cases b8 with
                  | false =>
                    go_wp2_with (first | (go_at_call 39; refine (HF8.out _ HXQ8.out).mono ?_; rintro e1 w1' ⟨rfl, H1⟩; have hkb : Kb [] _ _ := Kb.of_ext H1.out; have z1 := hkb.cell (by simp) (HQQ.out.cells 1 _ rfl); have zl := Nat.lt_of_lt_of_le HQQ.out.lt hkb.size; clear hkb) | fail)
                    have h1 : R = 29 := by rw [HR.out]; unfold chkC; rw [← HB0.out, ← HB1.out, ← HB2.out, ← HTD.out.1, ← HTD.out.2, ← HB3.out, ← HB4.out, ← HB5.out, ← HB6.out, ← HB7.out, ← HB8.out]; rfl
                    rw [HQ.out, h1]
                    exact ⟨rfl, Lib.hid ((HE8.out.trans HXQ8.out).trans H1.out)⟩
                  | true =>
                    go_wp2_with (first | (go_at_call 39; refine (HF8.out _ HXQ8.out).mono ?_; rintro e1 w9 ⟨rfl, H1⟩) | fail)
                    rw [rounds_succ]
                    go_wp2
                    have h1 : R = 0 := by rw [HR.out]; unfold chkC; rw [← HB0.out, ← HB1.out, ← HB2.out, ← HTD.out.1, ← HTD.out.2, ← HB3.out, ← HB4.out, ← HB5.out, ← HB6.out, ← HB7.out, ← HB8.out]; rfl
                    rw [HQ.out, h1]
                    exact ⟨rfl, Lib.hid ((HE8.out.trans HXQ8.out).trans H1.out)⟩
end Go.Proofs.Ytmommjagndadjaa

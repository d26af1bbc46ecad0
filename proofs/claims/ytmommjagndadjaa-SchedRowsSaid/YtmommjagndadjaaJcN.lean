/-
  The walk: a flat program runs.
  Condition: the program and the rows lie in memory; the program is a good one.
  The laws on flat programs: the document's example is played; rows of one number.
  No condition.
  The laws on flat programs: the document's example is played, the walk.
  No condition.
-/
import Derived.Test.YtmommjagndadjaaJcM
import Derived.Test.YtmommjagndadjaaJcK
import Derived.Test.YtmommjagndadjaaJcA
import Derived.Deep.DeepCutAuto
namespace Go.Proofs.Ytmommjagndadjaa
open Go.RowKit Go.Maps
set_option linter.unusedSimpArgs false
set_option linter.unusedVariables false
set_option maxRecDepth 100000

theorem askL_len {ks : List Int} : ∀ {rs : List (List Int)}, askL ks rs = 0 → ∀ r ∈ rs, r.length = ks.length
  | [], _, _, h => by cases h
  | x :: rs, h, r, hr => by
    rw [askL] at h
    have h0 : askR ks x = 0 := by
      refine Classical.byContradiction fun e => ?_
      rw [if_pos e] at h
      exact e h
    rw [if_neg (by simpa using h0)] at h
    rcases List.mem_cons.1 hr with e | e
    · rw [e]
      unfold askR at h0
      split at h0
      · cases h0
      · rename_i h1; simpa using h1
    · exact askL_len h r e
theorem askV_zero {ks : List Int} {rs : List (List Int)} (h : askV ks rs = 0) : rs.length ≤ 1000 ∧ ∀ r ∈ rs, r.length = ks.length := by
  unfold askV at h
  split at h
  · cases h
  · rename_i h1
    exact ⟨by omega, askL_len h⟩
theorem keepQ_64 {t : CE0} (ht : ∀ n, I64 (getV t n)) : ∀ (l : List EQ) (ms : MS), (∀ m ∈ ms, I64 (m.getD 0)) → ∀ m ∈ keepQ t l ms, I64 (m.getD 0)
  | [], _, _, m, h => by simp [keepQ] at h
  | _ :: _, [], _, m, h => by simp [keepQ] at h
  | q :: l, x :: ms, hm, m, h => by
    rw [keepQ] at h
    rcases List.mem_cons.1 h with e | e
    · subst e
      split
      · split
        · exact ht _
        · exact ⟨by decide, by decide⟩
      · exact hm x (by simp)
    · exact keepQ_64 ht l ms (fun m hm' => hm m (List.mem_cons_of_mem _ hm')) m e
theorem infoCell : (Try.prog.info? 100).map (fun i => (i.zero, i.size, i.bytes)) = some (some (.agg #[.int .i64 0, .bool false]), 2, 16) := by kernel_rfl
theorem made_mm (n : Nat) : madeCells #[Value.int .i64 0, .bool false] (n * 2) = (mmCells (List.replicate n none)).toArray := by
  apply Array.ext_getElem?
  intro j
  rw [show ((mmCells (List.replicate n none)).toArray)[j]? = (mmCells (List.replicate n none))[j]? by simp]
  by_cases h : j < n * 2
  · have hm : (List.replicate n (none : Option Int))[j / 2]? = some none := by rw [List.getElem?_replicate, if_pos (by omega)]
    obtain ⟨h1, h2⟩ := mmCells_at hm
    have e : (madeCells #[Value.int .i64 0, .bool false] (n * 2))[j]? = some (#[Value.int .i64 0, .bool false][j % 2]!) := by
      simp [madeCells, h]
    rw [e]
    rcases Nat.mod_two_eq_zero_or_one j with hj | hj
    · rw [hj, show (mmCells (List.replicate n none))[j]? = (mmCells (List.replicate n none))[j / 2 * 2]? by congr 1; omega, h1]; rfl
    · rw [hj, show (mmCells (List.replicate n none))[j]? = (mmCells (List.replicate n none))[j / 2 * 2 + 1]? by congr 1; omega, h2]; rfl
  · rw [Array.getElem?_eq_none (by rw [size_madeCells]; omega), List.getElem?_eq_none (by rw [mmCells_len, List.length_replicate]; omega)]
theorem make_mem (n : Nat) (hn : n ≤ 2000) (w : World) : (Instr.makeSlice 69 (.int .i64 (n : Int)) (.int .i64 (n : Int))).run Try.prog w = .ok (.slice (some ⟨w.heap.size, 0, none⟩) n n) (w.alloc (.cells (mmCells (List.replicate n none)).toArray 100)) := by
  obtain ⟨i, hi, hzz⟩ := Option.map_eq_some_iff.1 infoCell
  simp only [Prod.mk.injEq] at hzz
  obtain ⟨hz, hs, hb⟩ := hzz
  have h1 := run_makeSlice (P := Try.prog) (w := w) 69 100 i _ Try.underlying69 hi hz .i64 .i64 (n : Int) (n : Int) (by omega) (Int.le_refl _) (by rw [hs]; simp; omega) (by rw [hb]; omega) (by omega)
  simp only [Int.toNat_natCast, hs] at h1
  rw [← made_mm]
  exact h1
theorem made_KM {W0 w5 : World} {x : S4} {n : Nat} (hx : Ext W0 w5) : T0 W0 x (w5.heap.size + 1 + 1) (.map none) w5.heap.size (w5.heap.size + 1) n [] (List.replicate n none) 0 ((((w5.alloc (.map #[] 0)).alloc (.cells (mmCells (List.replicate n none)).toArray 100)).alloc (.cells #[x.iv, x.ov, x.lv, x.ev, .map (some w5.heap.size), .map none, .slice (some ⟨(w5.heap.size + 1), 0, none⟩) n n, .int .i64 0] 72)).drew) := by
  have hsz := hx.size
  obtain ⟨A, hA⟩ : ∃ A, A = w5.alloc (.map #[] 0) := ⟨_, rfl⟩
  have hxA : Ext w5 A := by rw [hA]; exact (Ext.refl w5).alloc _
  have hsA : A.heap.size = w5.heap.size + 1 := by rw [hA]; simp
  have h1 := heap_alloc_last w5 (.map #[] 0)
  rw [← hA] at h1 ⊢
  obtain ⟨C, hC⟩ : ∃ C, C = A.alloc (.cells (mmCells (List.replicate n none)).toArray 100) := ⟨_, rfl⟩
  have hxC : Ext A C := by rw [hC]; exact (Ext.refl A).alloc _
  have hsC : C.heap.size = w5.heap.size + 1 + 1 := by rw [hC]; simp [hsA]
  have h2 := heap_alloc_last A (.cells (mmCells (List.replicate n none)).toArray 100)
  rw [← hC, hsA] at h2
  rw [← hC]
  have hxD : Ext C (C.alloc (.cells #[x.iv, x.ov, x.lv, x.ev, .map (some w5.heap.size), .map none, .slice (some ⟨(w5.heap.size + 1), 0, none⟩) n n, .int .i64 0] 72)) := (Ext.refl C).alloc _
  have hbD := BoxV.of_row (heap_alloc_last C (.cells #[x.iv, x.ov, x.lv, x.ev, .map (some w5.heap.size), .map none, .slice (some ⟨(w5.heap.size + 1), 0, none⟩) n n, .int .i64 0] 72))
  rw [hsC] at hbD
  have hm : SM Try.prog 9 w5.heap.size [] A := by rw [hA]; exact SM.made _ _ w5
  refine T0.next ?_ (Ext.refl _).drew
  exact { ext := ((hx.trans hxA).trans hxC).trans hxD, box := hbD, mp := (hm.ext hxC).ext hxD, mem := ext_block hxD h2, len := by simp, bk := by omega, bm := by omega, km := by omega, lb := by omega, lk := by omega, lm := by omega }
theorem made_MK {W0 w5 : World} {x : S4} {n : Nat} (hx : Ext W0 w5) : T0 W0 x (w5.heap.size + 1 + 1) (.map none) (w5.heap.size + 1) w5.heap.size n [] (List.replicate n none) 0 ((((w5.alloc (.cells (mmCells (List.replicate n none)).toArray 100)).alloc (.map #[] 0)).alloc (.cells #[x.iv, x.ov, x.lv, x.ev, .map (some (w5.heap.size + 1)), .map none, .slice (some ⟨w5.heap.size, 0, none⟩) n n, .int .i64 0] 72)).drew) := by
  have hsz := hx.size
  obtain ⟨A, hA⟩ : ∃ A, A = w5.alloc (.cells (mmCells (List.replicate n none)).toArray 100) := ⟨_, rfl⟩
  have hxA : Ext w5 A := by rw [hA]; exact (Ext.refl w5).alloc _
  have hsA : A.heap.size = w5.heap.size + 1 := by rw [hA]; simp
  have h1 := heap_alloc_last w5 (.cells (mmCells (List.replicate n none)).toArray 100)
  rw [← hA] at h1 ⊢
  obtain ⟨C, hC⟩ : ∃ C, C = A.alloc (.map #[] 0) := ⟨_, rfl⟩
  have hxC : Ext A C := by rw [hC]; exact (Ext.refl A).alloc _
  have hsC : C.heap.size = w5.heap.size + 1 + 1 := by rw [hC]; simp [hsA]
  have h2 := heap_alloc_last A (.map #[] 0)
  rw [← hC, hsA] at h2
  rw [← hC]
  have hxD : Ext C (C.alloc (.cells #[x.iv, x.ov, x.lv, x.ev, .map (some (w5.heap.size + 1)), .map none, .slice (some ⟨w5.heap.size, 0, none⟩) n n, .int .i64 0] 72)) := (Ext.refl C).alloc _
  have hbD := BoxV.of_row (heap_alloc_last C (.cells #[x.iv, x.ov, x.lv, x.ev, .map (some (w5.heap.size + 1)), .map none, .slice (some ⟨w5.heap.size, 0, none⟩) n n, .int .i64 0] 72))
  rw [hsC] at hbD
  have hm : SM Try.prog 9 (w5.heap.size + 1) [] C := by rw [hC, ← hsA]; exact SM.made _ _ A
  refine T0.next ?_ (Ext.refl _).drew
  exact { ext := ((hx.trans hxA).trans hxC).trans hxD, box := hbD, mp := hm.ext hxD, mem := ext_block hxD (ext_block hxC h1), len := by simp, bk := by omega, bm := by omega, km := by omega, lb := by omega, lk := by omega, lm := by omega }
theorem chk_cyc {c : CP} (h : chkC c = 0) : (sortV (hangsV c)).length = c.eqs.length := Classical.byContradiction fun e => by
  have hc : cyclesC c = false := by unfold cyclesC; rw [hangs_len]; simpa using e
  unfold chkC at h
  rw [if_pos hc] at h
  repeat (split at h; · omega)
  omega
theorem vCells_of : ∀ (l : List VR) (qs : List Value), vCells (l.map fun x => (⟨x.name, x.kind⟩ : CV)) qs = vrCells l qs
  | [], _ => by simp [vCells, vrCells]
  | v :: l, [] => by simp [vCells, vrCells]
  | v :: l, q :: qs => by
    rw [List.map_cons, vCells, vrCells, vCells_of l qs]
theorem VRIn.plain {w : World} {v : Value} {l : List VR} (h : VRIn w v l) : VIn w v (l.map fun x => (⟨x.name, x.kind⟩ : CV)) := by
  obtain ⟨qs, h1⟩ := h
  refine ⟨qs, by rw [List.length_map]; exact h1.len, fun q hq => ?_, by rw [List.length_map, vCells_of]; exact h1.row⟩
  obtain ⟨i, hi⟩ := List.getElem?_of_mem hq
  have hil : i < l.length := by rw [← h1.len]; exact (List.getElem?_eq_some_iff.1 hi).1
  obtain ⟨p, c, e, -, -⟩ := (h1.clk i l[i] q (List.getElem?_eq_getElem hil) hi).slice
  exact ⟨p, _, c, e⟩
theorem SlC.kb {w w' : World} {v : Value} {n : Nat} {cs : List Value} {S : List Nat} (h : SlC w v n cs) (hk : Kb S w w') (hS : cs ≠ [] → ∀ b, v.ownBlock = some b → b ∉ S) : SlC w' v n cs := by
  obtain ⟨a, c, e, h1, h2, h3⟩ := h
  refine ⟨a, c, e, h1, h2, fun j u hu => ?_⟩
  obtain ⟨b, o, e2, hc⟩ := h3 j u hu
  exact ⟨b, o, e2, hk.cell (hS (by intro e3; rw [e3] at hu; simp at hu) b (by rw [e, e2]; rfl)) hc⟩
theorem T0.putKC {W0 w : World} {x : S4} {B : Nat} {cm : Value} {K MB n : Nat} {vt : VT} {ms : MS} {tick : Int} {CL : Nat} {tq : TQ} (h : T0 W0 x B cm K MB n vt ms tick w) (hc : SM Try.prog 9 CL (ctL tq) w) (hcb : CL ≠ B ∧ CL ≠ K ∧ CL ≠ MB) (hcl : W0.heap.size ≤ CL) {v : VR} (hn : v.name.size ≤ maxLen) (hl : vt.length ≤ 1000000000) (hl2 : tq.length ≤ 1000000000) (u : Value) :
    ∃ (a0 : Value) (sa : Nat) (w1 w2 w3 : World), (Instr.mapEntry 68 (.map (some K)) (.string v.name)).run Try.prog w = .ok (.tuple #[a0, goInt sa]) w1 ∧
      (Instr.entryStore 68 (.map (some K)) (goInt sa) (.int .i64 v.kind)).run Try.prog w1 = .ok () w2 ∧
      (Instr.mapUpdate 73 (.map (some CL)) (.string v.name) u).run Try.prog w2 = .ok () w3 ∧
      (Kb [K, CL] w w1 ∧ Kb [K, CL] w w2 ∧ Kb [K, CL] w w3) ∧ T0 W0 x B cm K MB n (v :: vt) ms tick w3 ∧ SM Try.prog 9 CL (ctL ((v, u) :: tq)) w3 := by
  obtain ⟨a0, sa, w1, h1, k1, h2⟩ := h.mp.entry Try.underlying9 Try.underlying68 czeroI (by unfold ktL maxLen; simp; omega) hn
  obtain ⟨w2, h3, k2, h4⟩ := h2 w1 (.int .i64 v.kind) rfl
  have hc2 : SM Try.prog 9 CL (ctL tq) w2 := (hc.kb k1 (by simpa using hcb.2.1)).kb k2 (by simpa using hcb.2.1)
  obtain ⟨w3, h5, h6, h7⟩ := hc2.put Try.underlying9 Try.underlying73 (by unfold ctL maxLen; simp; omega) hn u
  have k3 : Kb [CL] w2 w3 := Kb.grown h7 (fun g hg => by simp at hg; simp [hg])
  have kk1 : Kb [K, CL] w w1 := k1.mono (by simp)
  have kk2 : Kb [K, CL] w w2 := kk1.trans (k2.mono (by simp))
  have kk : Kb [K, CL] w w3 := kk2.trans (k3.mono (by simp))
  have hlb := h.lb
  have hlk := h.lk
  have hlm := h.lm
  have hbk := h.bk
  have hkm := h.km
  refine ⟨a0, sa, w1, w2, w3, h1, h3, h5, ⟨kk1, kk2, kk⟩, ?_, h6⟩
  exact { h with ext := kk.ext h.ext (by simp; exact ⟨hlk, hcl⟩), box := h.box.kb kk (by simp; omega), mp := h4.kb k3 (by simp; omega), mem := kk.heap (by simp; omega) h.mem }
theorem infoRows : (Try.prog.info? 36).map (fun i => (i.zero, i.size, i.bytes)) = some (some (.slice none 0 0), 1, 24) := by kernel_rfl
theorem OutsA.nilC (W : World) (Sr St : List Nat) {w : World} (hx : Ext W w) : OutsA W (.slice none 0 0) [] [] Sr St w :=
  ⟨hx, own_nil _ _ _ _, rfl, fun j x r h => by simp at h, fun b h => by simp [Value.ownBlock] at h⟩
theorem goC_at {c : CP} {of : ByteArray → Int} {cl : VT} {order : List Int} {ms : MS} {tick : Int} {rs : List (List Int)} {k : Nat} {r : List Int} (h : rs[k]? = some r) : goC c of cl order ms tick (rs.drop k) = (c.outs.map fun v => getV (tickC c of cl order ms tick r) v.name) :: goC c of cl order (keepQ (tickC c of cl order ms tick r) c.eqs ms) (tick + 1) (rs.drop (k + 1)) := by
  rw [drop_at h, goC]
theorem chk_parts {c : CP} (h : chkC c = 0) : longC c = true ∧ formsC c.tab c = true := by
  constructor
  · refine Classical.byContradiction fun e => ?_
    have hc : longC c = false := by simpa using e
    unfold chkC at h
    rw [if_pos hc] at h
    omega
  · refine Classical.byContradiction fun e => ?_
    have hc : formsC c.tab c = false := by simpa using e
    unfold chkC at h
    rw [if_pos hc] at h
    repeat (split at h; · omega)
    omega
theorem chk_good {c : CP} (hok : okC c) (h : chkC c = 0) : goodC c ∧ c.locals.length ≤ 2000 := by
  obtain ⟨h1, h2⟩ := chk_parts h
  unfold longC at h1
  simp only [Bool.and_eq_true, decide_eq_true_eq] at h1
  unfold formsC at h2
  rw [Bool.and_eq_true] at h2
  refine ⟨⟨hok, fun q hq hf => ?_, fun q hq hf => ?_, by omega, by omega, by omega⟩, by omega⟩
  · have h3 := h2.2
    unfold expsC at h3
    have h4 := List.all_eq_true.1 h3 q hq
    rw [Bool.or_eq_true, decide_eq_true_eq] at h4
    rcases h4 with h4 | h4
    · exact absurd hf h4
    · refine partsE_mono (fun e he => ?_) _ h4
      split at he
      · cases he
      · rename_i h5
        rw [decide_eq_true_eq]
        exact Classical.byContradiction fun e6 => h5 (.inl e6)
  · have h3 := List.all_eq_true.1 h2.1 q hq
    unfold formQ at h3
    rw [if_neg (by omega), if_neg (by omega), if_pos hf, decide_eq_true_eq] at h3
    exact ⟨h3.1, h3.2.1⟩
set_option maxHeartbeats 16000000 in
theorem crun_any (c : CP) (x : S4) (v : Value) (vs : List Value) (rs : List (List Int)) (w : World) (hc : CPIn w c x) (hsm : smC c) (hok : okC c) (hr : RowsIn w v vs rs) (hI : ∀ r ∈ rs, ∀ n ∈ r, I64 n) :
    Calls Try.prog 16 #[coreA x, v] w (RunP w (runC c rs)) := by
  obtain ⟨R, hR⟩ : ∃ R, R = runC c rs := ⟨_, rfl⟩
  rw [← hR]
  obtain ⟨Q, hQ⟩ : ∃ Q, Q = RunP w R := ⟨_, rfl⟩
  rw [← hQ]
  have HQ := Lib.hid hQ
  have HR := Lib.hid hR
  have HCX : Hid (∀ w', Ext w w' → CPIn w' c x) := Lib.hid (fun w' hx => hc.ext hx)
  have HSM := Lib.hid hsm
  have HOK := Lib.hid hok
  have HRI := Lib.hid (And.intro hr hI)
  obtain ⟨va, vcap, rfl, hv1, hv2, hvc⟩ := id hr.top
  obtain ⟨iv, ov, lv, ev⟩ := x
  obtain ⟨qs1, h1⟩ := hc.ins
  obtain ⟨qs2, h2⟩ := hc.outs
  obtain ⟨qs3, h3⟩ := hc.locals
  have h4 := hc.eqs
  obtain ⟨p1, c1, e1, hd1, hm1⟩ := h1.slice
  obtain ⟨p2, c2, e2, hd2, hm2⟩ := h2.slice
  obtain ⟨p3, c3, e3, hd3, hm3⟩ := h3.slice
  obtain ⟨p4, c4, e4, hd4, hm4⟩ := h4.slice
  simp only at e1 e2 e3 e4
  subst e1 e2 e3 e4
  obtain ⟨n1, hn1⟩ : ∃ n, n = c.ins.length := ⟨_, rfl⟩
  obtain ⟨n2, hn2⟩ : ∃ n, n = c.outs.length := ⟨_, rfl⟩
  obtain ⟨n3, hn3⟩ : ∃ n, n = c.locals.length := ⟨_, rfl⟩
  obtain ⟨n4, hn4⟩ : ∃ n, n = c.eqs.length := ⟨_, rfl⟩
  have HN := Lib.hid (And.intro hn1 (And.intro hn2 (And.intro hn3 hn4)))
  rw [← hn1] at hd1
  rw [← hn2] at hd2
  rw [← hn3] at hd3
  rw [← hn4] at hd4
  obtain ⟨nr, hnr⟩ : ∃ n, n = rs.length := ⟨_, rfl⟩
  rw [← hnr] at hv1 ⊢
  have HNR := Lib.hid (And.intro hnr hvc)
  have hcv : (vcap : Int) ≤ 9223372036854775807 := by unfold maxLen at hv2; omega
  have hcI1 : (c1 : Int) ≤ 9223372036854775807 := by unfold maxLen at hm1; omega
  have hcI4 : (c4 : Int) ≤ 9223372036854775807 := by unfold maxLen at hm4; omega
  simp only [← hn1, ← hn2, ← hn3, ← hn4] at HCX ⊢
  obtain ⟨er, her⟩ : ∃ e, e = chkC c := ⟨_, rfl⟩
  have HCH : Hid (∀ w1, Ext w w1 → Calls Try.prog 20 #[.agg #[.slice p1 n1 c1, .slice p2 n2 c2, .slice p3 n3 c3, .slice p4 n4 c4]] w1 (RetI er w1)) := Lib.hid (fun w1 hx1 => by
    rw [her]
    have h9 := ccheck_any c ⟨.slice p1 n1 c1, .slice p2 n2 c2, .slice p3 n3 c3, .slice p4 n4 c4⟩ w1 (HCX.out _ hx1) HOK.out HSM.out
    exact h9)
  have HER := Lib.hid her
  clear hQ hR hc hsm hok hr hI h1 h2 h3 h4 hn1 hn2 hn3 hn4 hm1 hm2 hm3 hm4 hv2 hnr hvc her
  have hbB : BoxV w.heap.size [.slice p1 n1 c1, .slice p2 n2 c2, .slice p3 n3 c3, .slice p4 n4 c4] (w.alloc (.cells #[.slice p1 n1 c1, .slice p2 n2 c2, .slice p3 n3 c3, .slice p4 n4 c4] 26)) := BoxV.of_row (heap_alloc_last w _)
  have hxB : Ext w (w.alloc (.cells #[.slice p1 n1 c1, .slice p2 n2 c2, .slice p3 n3 c3, .slice p4 n4 c4] 26)) := (Ext.refl w).alloc _
  have HXB := Lib.hid (And.intro hxB hbB)
  go_enter Try.func16, Try.ntmps16
  go_upto_region 1 with fail
  generalize (w.alloc (.cells #[.slice p1 n1 c1, .slice p2 n2 c2, .slice p3 n3 c3, .slice p4 n4 c4] 26)) = wb at hbB hxB HXB ⊢
  obtain ⟨BC, hB⟩ : ∃ B, B = w.heap.size := ⟨_, rfl⟩
  rw [← hB] at hbB HXB ⊢
  have HB := Lib.hid hB
  have b0 := hbB.cells 0 _ rfl
  have b1 := hbB.cells 1 _ rfl
  have b2 := hbB.cells 2 _ rfl
  have b3 := hbB.cells 3 _ rfl
  have bl := hbB.lt
  clear hbB hxB hB
  by_cases h0 : er = 0
  case neg =>
    have q0 : (er != 0) = true := by simpa using h0
    have HC : Hid (R = (40, [])) := Lib.hid (by rw [HR.out]; unfold runC; rw [if_pos (by rw [← HER.out]; exact h0)])
    clear h0
    go_wp2_with (first | (go_at_call 20; refine (HCH.out _ HXB.out.1).mono ?_; rintro e1 w1 ⟨rfl, H1⟩) | fail)
    rw [HQ.out]
    exact RunP.no (HXB.out.1.trans H1.out) HC.out
  case pos =>
  subst h0
  have HG0 : Hid (goodC c ∧ c.locals.length ≤ 2000) := Lib.hid (chk_good HOK.out HER.out.symm)
  have HG := Lib.hid HG0.out.1
  have hl1 := HG.out.l1
  have hl2 := HG.out.l2
  have hl4 := HG.out.l4
  have hll := HG0.out.2
  rw [← HN.out.1] at hl1
  rw [← HN.out.2.1] at hl2
  rw [← HN.out.2.2.1] at hll
  rw [← HN.out.2.2.2] at hl4
  go_upto_region 3 with (first | (go_at_call 20; refine (HCH.out _ HXB.out.1).mono ?_; rintro e1 w1 ⟨rfl, H1⟩) | fail)
  have HX1 : Hid (Ext w w1 ∧ BoxV BC [.slice p1 n1 c1, .slice p2 n2 c2, .slice p3 n3 c3, .slice p4 n4 c4] w1) := Lib.hid ⟨HXB.out.1.trans H1.out, HXB.out.2.ext H1.out⟩
  clear b0 b1 b2 b3 bl
  have b0 := HX1.out.2.cells 0 _ rfl
  have bl := HX1.out.2.lt
  obtain ⟨KS, hKS⟩ : ∃ l, l = c.ins.map VR.kind := ⟨_, rfl⟩
  have HKI : Hid (Calls Try.prog 27 #[.slice p1 n1 c1] w1 (RetR KS w1)) := Lib.hid (by
    have h1 := ckinds_any _ _ w1 (HCX.out _ HX1.out.1).ins.plain (by rw [List.length_map, ← HN.out.1]; omega)
    rw [List.map_map] at h1
    rw [hKS]
    exact h1)
  obtain ⟨ea, hea⟩ : ∃ e, e = askV KS rs := ⟨_, rfl⟩
  obtain ⟨kl, hkl⟩ : ∃ n, n = KS.length := ⟨_, rfl⟩
  have HAS : Hid (∀ w2 a c, Ext w1 w2 → SlC w2 (.slice a kl c) KS.length (i64s KS) → Calls Try.prog 26 #[.slice a kl c, .slice va nr vcap] w2 (RetE0 ea w2)) := Lib.hid (fun w2 a c hx2 hsl => by
    have hr2 := HRI.out.1.ext (HX1.out.1.trans hx2)
    rw [← HNR.out.1] at hr2
    rw [hea]
    exact ask_any _ _ _ vs rs w2 hsl hr2)
  have HEA := Lib.hid hea
  have HKS := Lib.hid hKS
  have HKL := Lib.hid hkl
  have HKI2 : Hid (Calls Try.prog 27 #[.slice p1 n1 c1] w1 fun e w' => ∃ a c, e = .returned (.slice a kl c) ∧ Hid (SlC w' (.slice a kl c) KS.length (i64s KS) ∧ Ext w1 w')) := Lib.hid (HKI.out.mono (fun e w' ⟨a, c, h1, h2⟩ => ⟨a, c, by rw [hkl]; exact h1, by rw [hkl]; exact h2⟩))
  clear hea hKS hkl HKI
  by_cases h0 : ea = 0
  case neg =>
    have q0 : (ea != 0) = true := by simpa using h0
    have HC : Hid (R = (ea, [])) := Lib.hid (by rw [HR.out]; unfold runC; rw [if_neg (by rw [← HER.out]; simp), ← HKS.out, if_pos (by rw [← HEA.out]; exact h0), ← HEA.out])
    clear h0
    go_wp2_with (first | (go_at_call 27; refine HKI2.out.mono ?_; rintro e1 w2 ⟨a2, k2, rfl, H2⟩) | (go_at_call 26; refine (HAS.out _ _ _ H2.out.2 H2.out.1).mono ?_; rintro e1 w3 ⟨rfl, H3⟩) | fail)
    rw [HQ.out]
    exact RunP.no (HX1.out.1.trans (H2.out.2.trans H3.out)) HC.out
  case pos =>
  subst h0
  have HAZ : Hid (rs.length ≤ 1000 ∧ ∀ r ∈ rs, r.length = n1) := Lib.hid (by
    have h1 := askV_zero HEA.out.symm
    exact ⟨h1.1, fun r hr => by rw [h1.2 r hr, HKS.out, List.length_map, ← HN.out.1]⟩)
  have HC : Hid (R = (0, goC c (kindT (clksH c)) (clksH c) (sortV (hangsV c)) (c.eqs.map fun _ => none) 0 rs)) := Lib.hid (by rw [HR.out]; unfold runC; rw [if_neg (by rw [← HER.out]; simp), ← HKS.out, if_neg (by rw [← HEA.out]; simp)])
  obtain ⟨OR, hOR⟩ : ∃ z, z = sortV (hangsV c) := ⟨_, rfl⟩
  rw [← hOR] at HC
  have HORI : Hid ((∀ i ∈ OR, 0 ≤ i ∧ i < (n4 : Int)) ∧ OR.length ≤ 100000) := Lib.hid (by
    rw [hOR]
    refine ⟨fun i hi => ?_, by rw [chk_cyc HER.out.symm, ← HN.out.2.2.2]; omega⟩
    have h9 := sortV_in (hangsV c) i hi
    rw [hangs_len, ← HN.out.2.2.2] at h9
    exact h9)
  obtain ⟨on, hon⟩ : ∃ z, z = OR.length := ⟨_, rfl⟩
  have HHG : Hid (∀ w3, Ext w w3 → Calls Try.prog 25 #[.agg #[.slice p1 n1 c1, .slice p2 n2 c2, .slice p3 n3 c3, .slice p4 n4 c4]] w3 (fun e w' => ∃ O vs, e = .returned (.slice (some ⟨O, 0, none⟩) n4 n4) ∧ Hid (RowsIn w' (.slice (some ⟨O, 0, none⟩) n4 n4) vs (hangsV c) ∧ Ext w3 w'))) := Lib.hid (fun w3 hx3 => by
    have h9 := changs_any (c := c) (x := ⟨.slice p1 n1 c1, .slice p2 n2 c2, .slice p3 n3 c3, .slice p4 n4 c4⟩) (HCX.out w3 hx3) HG.out.ok ⟨by rw [← HN.out.1]; omega, by rw [← HN.out.2.1]; omega, by rw [← HN.out.2.2.1]; omega⟩ (by rw [← HN.out.2.2.2]; omega) (fun q hq hf => Nat.le_trans (HSM.out.cnt q hq hf) (by omega)) (fun n => clkT_le (fun v hv => Nat.le_trans (HSM.out.clk v (by simpa [clksH] using hv)) (by omega)))
    exact h9.mono (fun e w' ⟨O, vs, h1, h2⟩ => ⟨O, vs, by rw [HN.out.2.2.2]; exact h1, by rw [HN.out.2.2.2]; exact h2⟩))
  have HSO : Hid (∀ w4 O vs, RowsIn w4 (.slice (some ⟨O, 0, none⟩) n4 n4) vs (hangsV c) → Calls Try.prog 28 #[.slice (some ⟨O, 0, none⟩) n4 n4] w4 (fun e w' => ∃ p cap, e = .returned (.tuple #[.slice p on cap, .bool (decide (on = n4))]) ∧ Hid (SlC w' (.slice p on cap) on (i64s OR) ∧ Ext w4 w'))) := Lib.hid (fun w4 O vs hrw => by
    have h9 := csort_any (w := w4) (p := some ⟨O, 0, none⟩) (n := n4) (c := n4) hrw (by rw [hangs_len, ← HN.out.2.2.2]) (by omega) (hangs_sum HSM.out (by rw [← HN.out.2.2.2]; omega)) (fun l hl x hx => by have := hangs_in c l hl x hx; rw [← HN.out.2.2.2] at this; exact this)
    rw [hon, hOR]
    exact h9)
  have HOR := Lib.hid (And.intro hOR hon)
  clear hOR hon
  go_upto_region 6 with (first | (go_at_call 27; refine HKI2.out.mono ?_; rintro e1 w2 ⟨a2, k2, rfl, H2⟩) | (go_at_call 26; refine (HAS.out _ _ _ H2.out.2 H2.out.1).mono ?_; rintro e1 w3 ⟨rfl, H3⟩) | fail)
  have HX3 : Hid (Ext w w3 ∧ BoxV BC [.slice p1 n1 c1, .slice p2 n2 c2, .slice p3 n3 c3, .slice p4 n4 c4] w3) := Lib.hid ⟨(HX1.out.1.trans H2.out.2).trans H3.out, (HX1.out.2.ext H2.out.2).ext H3.out⟩
  clear b0 bl HX1 H1 H2 H3 HKI2 HAS HCH
  have b0 := HX3.out.2.cells 0 _ rfl
  have b1 := HX3.out.2.cells 1 _ rfl
  have b2 := HX3.out.2.cells 2 _ rfl
  have b3 := HX3.out.2.cells 3 _ rfl
  have bl := HX3.out.2.lt
  go_upto_region 7 with (first | (go_at_call 25; refine (HHG.out _ HX3.out.1).mono ?_; rintro e1 w4 ⟨O, ws, rfl, H4⟩) | (go_at_call 28; refine (HSO.out _ _ _ H4.out.1).mono ?_; rintro e1 w5 ⟨po, co, rfl, H5⟩) | fail)
  have HX5 : Hid (Ext w w5 ∧ BoxV BC [.slice p1 n1 c1, .slice p2 n2 c2, .slice p3 n3 c3, .slice p4 n4 c4] w5) := Lib.hid ⟨(HX3.out.1.trans H4.out.2).trans H5.out.2, (HX3.out.2.ext H4.out.2).ext H5.out.2⟩
  have HSL := Lib.hid H5.out.1
  clear b0 b1 b2 b3 bl HX3 H4 H5 HHG HSO
  have b0 := HX5.out.2.cells 0 _ rfl
  have b1 := HX5.out.2.cells 1 _ rfl
  have b2 := HX5.out.2.cells 2 _ rfl
  have b3 := HX5.out.2.cells 3 _ rfl
  have bl := HX5.out.2.lt
  have hmk := @run_makeMap Try.prog
  have hms := make_mem n4 hl4
  go_cut [9] (fun s9 wx => ∃ B K MB : Nat, s9 = .pointer (some ⟨B, 0, none⟩) ∧ Hid (T0 w ⟨.slice p1 n1 c1, .slice p2 n2 c2, .slice p3 n3 c3, .slice p4 n4 c4⟩ B (.map none) K MB n4 [] (List.replicate n4 none) 0 wx ∧ Ext w5 wx ∧ w5.heap.size ≤ B ∧ w5.heap.size ≤ MB ∧ w5.heap.size ≤ K))
  case first =>
    go_region
    all_goals (go_wp2_with fail; go_meet; first | exact ⟨_, _, _, rfl, Lib.hid ⟨made_KM (x := ⟨.slice p1 n1 c1, .slice p2 n2 c2, .slice p3 n3 c3, .slice p4 n4 c4⟩) HX5.out.1, ((((Ext.refl w5).alloc _).alloc _).alloc _).drew, by omega, by omega, by omega⟩⟩ | exact ⟨_, _, _, rfl, Lib.hid ⟨made_MK (x := ⟨.slice p1 n1 c1, .slice p2 n2 c2, .slice p3 n3 c3, .slice p4 n4 c4⟩) HX5.out.1, ((((Ext.refl w5).alloc _).alloc _).alloc _).drew, by omega, by omega, by omega⟩⟩)
  case rest =>
  obtain ⟨B, K, MB, rfl, H8⟩ := hcut
  have HX8 : Hid (Ext w wc ∧ BoxV BC [.slice p1 n1 c1, .slice p2 n2 c2, .slice p3 n3 c3, .slice p4 n4 c4] wc) := Lib.hid ⟨HX5.out.1.trans H8.out.2.1, HX5.out.2.ext H8.out.2.1⟩
  have HSL8 := Lib.hid (HSL.out.ext H8.out.2.1)
  have HPO : Hid (on ≠ 0 → ∀ b, (Value.slice po on co).ownBlock = some b → b < B ∧ b < K ∧ b < MB ∧ b < wc.heap.size) := Lib.hid (fun h0 b hb => by
    have h1 := HSL.out.lt (by intro e; have := congrArg List.length e; simp [i64s] at this; exact h0 (by rw [HOR.out.2, this]; rfl)) b hb
    have h2 := H8.out.2.2
    have h3 := H8.out.2.1.size
    omega)
  clear b0 b1 b2 b3 bl hms
  have hmc : SM Try.prog 9 wc.heap.size [] (wc.alloc (.map #[] 0)) := SM.made _ _ wc
  have hxc : Ext wc (wc.alloc (.map #[] 0)) := (Ext.refl wc).alloc _
  have HLT : Hid (B < wc.heap.size ∧ K < wc.heap.size ∧ MB < wc.heap.size) := Lib.hid ⟨H8.out.1.box.lt, H8.out.1.mp.lt, H8.out.1.mlt⟩
  go_upto_region 9 with fail
  generalize (wc.alloc (.map #[] 0)) = wd at hmc hxc ⊢
  obtain ⟨CL, hCL⟩ : ∃ z, z = wc.heap.size := ⟨_, rfl⟩
  rw [← hCL] at hmc HLT HPO ⊢
  have HW0 : Hid (w.heap.size ≤ CL) := Lib.hid (by rw [hCL]; exact HX8.out.1.size)
  have HD : Hid (T0 w ⟨.slice p1 n1 c1, .slice p2 n2 c2, .slice p3 n3 c3, .slice p4 n4 c4⟩ B (.map none) K MB n4 [] (List.replicate n4 none) 0 wd ∧ SM Try.prog 9 CL [] wd ∧ Ext w wd ∧ BoxV BC [.slice p1 n1 c1, .slice p2 n2 c2, .slice p3 n3 c3, .slice p4 n4 c4] wd ∧ SlC wd (.slice po on co) on (i64s OR)) := Lib.hid ⟨H8.out.1.next hxc, hmc, HX8.out.1.trans hxc, HX8.out.2.ext hxc, HSL8.out.ext hxc⟩
  clear hmc hxc hCL H8 HX8 HSL HSL8 HX5 hmk
  have b0 := HD.out.2.2.2.1.cells 0 _ rfl
  have b1 := HD.out.2.2.2.1.cells 1 _ rfl
  have b2 := HD.out.2.2.2.1.cells 2 _ rfl
  have b3 := HD.out.2.2.2.1.cells 3 _ rfl
  have bl := HD.out.2.2.2.1.lt
  obtain ⟨m, hm⟩ : ∃ z, z = c.vars.length := ⟨_, rfl⟩
  have hm6 : m ≤ 6000 := by
    rw [hm]; unfold CP.vars
    rw [List.length_append, List.length_append, ← HN.out.1, ← HN.out.2.1, ← HN.out.2.2.1]
    omega
  have HVS : Hid (∀ w', Ext w w' → Calls Try.prog 29 #[.agg #[.slice p1 n1 c1, .slice p2 n2 c2, .slice p3 n3 c3, .slice p4 n4 c4]] w' (fun e w2 => ∃ p cap qs, e = .returned (.slice p m cap) ∧ Hid (VsIn w w2 (.slice p m cap) c.vars qs ∧ Ext w' w2 ∧ w2.ownsRow w'.heap.size 30 3 (.slice p m cap) m (vrCells c.vars qs)))) := Lib.hid (fun w' hx => by
    have h9 := cvars_any w c ⟨.slice p1 n1 c1, .slice p2 n2 c2, .slice p3 n3 c3, .slice p4 n4 c4⟩ w' (HCX.out w (Ext.refl w)) hx ⟨by rw [← HN.out.1]; omega, by rw [← HN.out.2.1]; omega, by rw [← HN.out.2.2.1]; omega⟩
    rw [hm]
    exact h9.mono (fun e w2 ⟨p, cap, qs, h1, h2⟩ => ⟨p, cap, qs, h1, h2⟩))
  have HM := Lib.hid hm
  clear hm
  go_upto_region 10 with (first | (go_at_call 29; refine (HVS.out _ HD.out.2.2.1).mono ?_; rintro e1 we ⟨pv, cv, qs, rfl, HV⟩) | fail)
  clear b0 b1 b2 b3 bl HVS
  obtain ⟨hdv, hcv2⟩ : m ≤ cv ∧ (cv : Int) ≤ 9223372036854775807 := by
    obtain ⟨p', c', e, h1, h2⟩ := HV.out.1.slice
    simp only [Value.slice.injEq] at e
    rw [e.2.2, HM.out]
    unfold maxLen at h2
    exact ⟨h1, by omega⟩
  go_loopw [45] (fun i wr => ∃ (k : Nat) (tq : TQ), k ≤ m ∧ i = .int .i64 (k : Int) ∧ Hid (T0 w ⟨.slice p1 n1 c1, .slice p2 n2 c2, .slice p3 n3 c3, .slice p4 n4 c4⟩ B (.map none) K MB n4 tq.vt (List.replicate n4 none) 0 wr ∧ SM Try.prog 9 CL (ctL tq) wr ∧ Kb [K, CL] we wr) ∧ Hid ((∀ e ∈ tq, EdIn w e.2 e.1.clk) ∧ tq.vt = (c.vars.take k).reverse)) (fun i _ => m - (intOf i).toNat)
  case atStart => exact ⟨0, [], Nat.zero_le _, rfl, Lib.hid ⟨HD.out.1.next HV.out.2.1, HD.out.2.1.ext HV.out.2.1, Kb.refl _ _⟩, Lib.hid ⟨fun e h => by simp at h, rfl⟩⟩
  case round =>
    obtain ⟨k, tq, hk, rfl, HS, HJ⟩ := hrel
    by_cases hlt : k < m
    · have hki : (k : Int) < (m : Int) := Int.ofNat_lt.2 hlt
      have hlt' : k < m := hlt
      have HV2 : Hid (VsIn w wr (.slice pv m cv) c.vars qs) := Lib.hid (by
        have h1 := HS.out.2.2.row HV.out.2.2 (fun g hg e => by
          have h2 := (HV.out.2.2.lt g e).1
          have h3 := HD.out.2.1.lt
          have h4 := HLT.out
          simp at hg
          omega)
        have h4 := SlC.of_owns h1
        have h5 := HV.out.1.len
        rw [HM.out] at h4 ⊢
        exact ⟨h5, h4, HV.out.1.clk⟩)
      obtain ⟨v, hv⟩ : ∃ v, (c.vars)[k]? = some v := ⟨_, List.getElem?_eq_getElem (by rw [← HM.out]; exact hlt)⟩
      obtain ⟨bv_, ov_, pq, cq, hpe, hqv, v0_, v1_, v2_, hev, hvl⟩ := (HV2.out).at hv
      subst hpe
      obtain ⟨mq, hnq⟩ : ∃ n, n = v.clk.length := ⟨_, rfl⟩
      rw [← hnq] at v2_ hev hqv
      have hjv : k < cv := by omega
      have HVV := Lib.hid (And.intro hv (And.intro hev (And.intro hnq hqv)))
      have hxy : Ext wr (wr.alloc (.cells #[.string v.name, .int .i64 v.kind, .slice pq mq cq] 30)) := (Ext.refl wr).alloc _
      have hby : BoxV wr.heap.size [.string v.name, .int .i64 v.kind, .slice pq mq cq] (wr.alloc (.cells #[.string v.name, .int .i64 v.kind, .slice pq mq cq] 30)) := BoxV.of_row (heap_alloc_last wr _)
      have HXY := Lib.hid hxy
      clear hv hev hnq hqv
      go_upto_region 12 with fail
      generalize (wr.alloc (.cells #[.string v.name, .int .i64 v.kind, .slice pq mq cq] 30)) = wy at hby hxy HXY ⊢
      obtain ⟨Y, hY⟩ : ∃ z, z = wr.heap.size := ⟨_, rfl⟩
      rw [← hY] at hby ⊢
      have HYY := Lib.hid hY
      clear hY
      have d0 := hby.cells 0 _ rfl
      have d1 := hby.cells 1 _ rfl
      have d2 := hby.cells 2 _ rfl
      have hyl := hby.lt
      clear hby hxy v0_ v1_ v2_ hvl
      have HVN : Hid (v.name.size ≤ maxLen) := Lib.hid (by
        have hv := List.mem_of_getElem? HVV.out.1
        unfold CP.vars at hv
        rcases List.mem_append.1 hv with h | h
        · rcases List.mem_append.1 h with h | h
          · exact (HG.out.ok.ins v h).name
          · exact (HG.out.ok.outs v h).name
        · exact (HG.out.ok.locals v h).name)
      have htl : tq.length ≤ 6000 := by
        have h1 := congrArg List.length HJ.out.2
        simp [TQ.vt] at h1
        omega
      have ht2 := HS.out.1.next HXY.out
      have hm2 := HS.out.2.1.ext HXY.out
      have g4 := ht2.box.cells 4 _ rfl
      have gl := ht2.box.lt
      have HTM := Lib.hid (And.intro ht2 hm2)
      clear ht2 hm2
      have HYN : Hid (wr.heap.size ≠ K ∧ wr.heap.size ≠ CL ∧ B ≠ K ∧ B ≠ CL) := Lib.hid (by
        have h1 := HS.out.1.mp.lt
        have h2 := HS.out.2.1.lt
        have h3 := HLT.out
        have h4 := HS.out.1.bk
        omega)
      obtain ⟨a0, sa, w5, w6, w7, hr5, hr6, hr7, ⟨k5, k6, k7⟩, ht9, hm9⟩ := (HTM.out.1.next ((Ext.refl wy).drew)).putKC (HTM.out.2.ext ((Ext.refl wy).drew)) (by have := HLT.out; omega) HW0.out HVN.out (by simp [TQ.vt]; omega) (by omega) (.slice pq mq cq)
      have H9 := Lib.hid (And.intro ht9 (And.intro hm9 k7))
      simp only [goInt] at hr5 hr6 hr7
      have hq0 : wy.cell? ⟨B, 4, none⟩ = some (.map (some K)) ∧ wy.cell? ⟨Y, 0, none⟩ = some (.string v.name) ∧ wy.cell? ⟨Y, 1, none⟩ = some (.int .i64 v.kind) ∧ wy.cell? ⟨Y, 2, none⟩ = some (.slice pq mq cq) := ⟨g4, d0, d1, d2⟩
      have hqq : ∀ wz, Kb [K, CL] wy.drew wz → wz.cell? ⟨B, 4, none⟩ = some (.map (some K)) ∧ wz.cell? ⟨Y, 0, none⟩ = some (.string v.name) ∧ wz.cell? ⟨Y, 1, none⟩ = some (.int .i64 v.kind) ∧ wz.cell? ⟨Y, 2, none⟩ = some (.slice pq mq cq) := fun wz hk => by
        have h1 := HYY.out
        have h2 := HYN.out
        rw [← h1] at h2
        have e1 : B ∉ [K, CL] := by simp; exact h2.2.2
        have e2 : Y ∉ [K, CL] := by simp; exact ⟨h2.1, h2.2.1⟩
        exact ⟨hk.cell e1 hq0.1, hk.cell e2 hq0.2.1, hk.cell e2 hq0.2.2.1, hk.cell e2 hq0.2.2.2⟩
      have hq5 := hqq w5 k5
      have hq6 := hqq w6 k6
      have hq7 := hqq w7 k7
      clear ht9 hm9 k5 k6 k7 hqq
      go_region_held3 (fun w' => w'.cell? ⟨B, 4, none⟩ = some (.map (some K)) ∧ w'.cell? ⟨Y, 0, none⟩ = some (.string v.name) ∧ w'.cell? ⟨Y, 1, none⟩ = some (.int .i64 v.kind) ∧ w'.cell? ⟨Y, 2, none⟩ = some (.slice pq mq cq))
        (first | exact hq0 | exact hq5 | exact hq6 | exact hq7)
        (fail)
      go_wp2
      refine ⟨⟨k + 1, (v, .slice pq mq cq) :: tq, by omega, by go_num, Lib.hid ⟨H9.out.1, H9.out.2.1, (HS.out.2.2.trans (Kb.of_ext HXY.out.drew)).trans H9.out.2.2⟩, Lib.hid ⟨fun e he => ?_, ?_⟩⟩, by simp [intOf]; omega⟩
      · rcases List.mem_cons.1 he with rfl | he
        · exact HVV.out.2.1
        · exact HJ.out.1 e he
      · obtain ⟨h1, h2⟩ := List.getElem?_eq_some_iff.1 HVV.out.1
        rw [List.take_succ_eq_append_getElem h1, h2, List.reverse_append, ← HJ.out.2]
        rfl
    · have hki : ¬ (k : Int) < (m : Int) := fun e => hlt (Int.ofNat_lt.1 e)
      obtain rfl : m = k := by omega
      have HF : Hid (T0 w ⟨.slice p1 n1 c1, .slice p2 n2 c2, .slice p3 n3 c3, .slice p4 n4 c4⟩ B (.map none) K MB n4 (clksH c) (List.replicate n4 none) 0 wr ∧ CLs w c CL tq wr ∧ SlC wr (.slice po on co) on (i64s OR)) := Lib.hid (by
        have e1 : clksH c = tq.vt := by rw [HJ.out.2, HM.out, List.take_length]; rfl
        refine ⟨by rw [e1]; exact HS.out.1, ⟨HS.out.2.1, HJ.out.1, e1⟩, ?_⟩
        refine (HD.out.2.2.2.2.ext HV.out.2.1).kb HS.out.2.2 (fun h0 b hb => ?_)
        have h1 := HPO.out (fun e => h0 (by have h2 := HOR.out.2; rw [e] at h2; rw [List.length_eq_zero_iff.1 h2.symm]; rfl)) b hb
        have h2 := HLT.out
        simp
        omega)
      obtain ⟨PB, hPB1, hPB2⟩ : ∃ PB : List Nat, (on ≠ 0 → ∀ b, (Value.slice po on co).ownBlock = some b → b ∈ PB) ∧ ∀ b ∈ PB, b < B ∧ b < K ∧ b < MB ∧ b < CL := by
        by_cases h0 : on = 0
        · exact ⟨[], fun h => absurd h0 h, fun b hb => by simp at hb⟩
        · exact ⟨(Value.slice po on co).ownBlock.toList, fun _ b hb => Option.mem_toList.2 hb, fun b hb => HPO.out h0 b (Option.mem_toList.1 hb)⟩
      have HPB := Lib.hid (And.intro hPB1 hPB2)
      have HON : Hid (i64s OR ≠ [] → on ≠ 0) := Lib.hid (fun h0 e => h0 (by have h2 := HOR.out.2; rw [e] at h2; rw [List.length_eq_zero_iff.1 h2.symm]; rfl))
      obtain ⟨wq, hwq⟩ : ∃ x, x = wr := ⟨_, rfl⟩
      subst hwq
      clear hk hlt HS HJ hPB1 hPB2
      have hnr4 : nr ≤ 1000 := by
        have h1 := HAZ.out.1
        have h2 := HNR.out.1
        omega
      go_upto_region 16 with fail
      go_loopw [13, 67] (fun o i wr => ∃ (k : Nat) (p9 : Option Addr) (c9 : Nat) (xs : List Value) (os : List (List Int)) (ms : MS) (cm : Value), k ≤ nr ∧ i = .int .i64 (k : Int) ∧ o = .slice p9 k c9 ∧ Hid (T0 w ⟨.slice p1 n1 c1, .slice p2 n2 c2, .slice p3 n3 c3, .slice p4 n4 c4⟩ B cm K MB n4 (clksH c) ms k wr ∧ CLs w c CL tq wr ∧ SlC wr (.slice po on co) on (i64s OR) ∧ OutsA w (.slice p9 k c9) xs os [B, MB] (B :: K :: MB :: CL :: PB) wr ∧ xs.length = k) ∧ Hid (goC c (kindT (clksH c)) (clksH c) OR (c.eqs.map fun _ => none) 0 rs = os ++ goC c (kindT (clksH c)) (clksH c) OR ms k (rs.drop k) ∧ ∀ m ∈ ms, I64 (m.getD 0))) (fun _ i _ => nr - (intOf i).toNat)
      case atStart => exact ⟨0, none, 0, [], [], List.replicate n4 none, .map none, Nat.zero_le _, rfl, rfl, Lib.hid ⟨HF.out.1, HF.out.2.1, HF.out.2.2, OutsA.nilC _ _ _ HF.out.1.ext, rfl⟩, Lib.hid ⟨by rw [List.map_const', ← HN.out.2.2.2]; rfl, fun m hm => by rw [List.eq_of_mem_replicate hm]; exact zero_64⟩⟩
      case round =>
        obtain ⟨k, p9, c9, xs, os, ms, cm, hk, rfl, rfl, HS, HJ⟩ := hrel
        by_cases hlt : k < nr
        · have hki : (k : Int) < (nr : Int) := Int.ofNat_lt.2 hlt
          obtain ⟨x, r, hx, hr, hsl⟩ := HRI.out.1.at (j := k) (by have := HNR.out.1; omega)
          obtain ⟨b, o, rfl, f1⟩ := HNR.out.2 k x hx
          obtain ⟨xa, xcap, rfl, l1, l2, lc⟩ := id hsl
          have hrl : r.length = n1 := HAZ.out.2 r (List.mem_of_getElem? hr)
          rw [hrl] at f1 l1 hsl
          have f2 := HS.out.1.ext.cell f1
          have z1 : b < wr.heap.size := World.block_lt_of_cell? wr _ f2
          have hqc : k < vcap := by omega
          have HST : Hid (Calls Try.prog 30 #[.pointer (some ⟨B, 0, none⟩), .slice po on co, .map (some CL), .slice xa n1 xcap] wr (fun e w' => ∃ p cap C2, e = .returned (.slice p n2 cap) ∧ Hid (TS w ⟨.slice p1 n1 c1, .slice p2 n2 c2, .slice p3 n3 c3, .slice p4 n4 c4⟩ B K C2 MB n4 (clksH c) (tickC c (kindT (clksH c)) (clksH c) OR ms k r) (keepQ (tickC c (kindT (clksH c)) (clksH c) OR ms k r) c.eqs ms) (k + 1) w' ∧ Kb [B, MB] wr w' ∧ w'.ownsRow wr.heap.size 3 1 (.slice p n2 cap) n2 (i64s (c.outs.map fun v => getV (tickC c (kindT (clksH c)) (clksH c) OR ms k r) v.name)) ∧ ∀ m, I64 (getV (tickC c (kindT (clksH c)) (clksH c) OR ms k r) m)))) := Lib.hid (by
            have hlt0 := HLT.out
            have h9 := rstep_any (W0 := w) (w := wr) (c := c) (x := ⟨.slice p1 n1 c1, .slice p2 n2 c2, .slice p3 n3 c3, .slice p4 n4 c4⟩) (B := B) (K := K) (MB := MB) (n := n4) (cm0 := cm) (ms := ms) (tick := (k : Int)) (CL := CL) (tq := tq) (order := OR) (r := r) (po := po) (pr := xa) (no := on) (co := co) (nr := n1) (cr := xcap)
              HS.out.1 (HCX.out w (Ext.refl w)) HG.out HN.out.2.2.2 HS.out.2.1 ⟨by omega, by omega⟩
              ⟨HS.out.2.2.1, HOR.out.2.symm, fun h0 b hb => by have h1 := HPO.out h0 b hb; omega⟩
              HORI.out.1 (by have h1 := HORI.out.2; have h2 := HOR.out.2; omega)
              ⟨hsl.ext HS.out.1.ext, hrl, fun h0 b hb => by
                have h1 := hsl.lt (fun e => h0 (by rw [← hrl]; simp [i64s] at e; rw [e]; rfl)) b hb
                have h2 := HS.out.1.lb
                have h3 := HS.out.1.lm
                omega⟩
              (HRI.out.2 r (List.mem_of_getElem? hr)) HN.out.1 ⟨by omega, by omega⟩ HJ.out.2
            refine h9.mono ?_
            rintro e w' ⟨p, cap, C2, h1, h2⟩
            refine ⟨p, cap, C2, by rw [HN.out.2.1]; exact h1, Lib.hid ⟨h2.out.1, h2.out.2.1, ?_, h2.out.2.2.2.2⟩⟩
            rw [HN.out.2.1]
            exact h2.out.2.2.1)
          have HGG : Hid (goC c (kindT (clksH c)) (clksH c) OR (c.eqs.map fun _ => none) 0 rs = (os ++ [c.outs.map fun v => getV (tickC c (kindT (clksH c)) (clksH c) OR ms k r) v.name]) ++ goC c (kindT (clksH c)) (clksH c) OR (keepQ (tickC c (kindT (clksH c)) (clksH c) OR ms k r) c.eqs ms) (k + 1) (rs.drop (k + 1))) := Lib.hid (by rw [HJ.out.1, goC_at hr]; simp)
          obtain ⟨T, hT⟩ : ∃ z, z = tickC c (kindT (clksH c)) (clksH c) OR ms k r := ⟨_, rfl⟩
          rw [← hT] at HST HGG
          clear hx hr hsl f1 l2 lc hrl hT
          go_upto_region 18 with fail
          clear f2 z1
          go_wp2_with (first | (go_at_call 30; refine HST.out.mono ?_; rintro e1 w6 ⟨p8, z, C2, rfl, H6⟩) | (at_builtin; (refine wpList_append_slc _ rfl (.tmp 71) (.tmp 77) 42 rfl w.heap.size 36 (.slice none 0 0) 1 24 Try.underlying42 infoRows rfl (by decide) (.slice p9 k c9) xs.length xs rfl (ownsRow_ext (HS.out.2.2.2.1.tick (Sr' := [B, MB]) (St' := B :: K :: MB :: CL :: PB) H6.out.2.1 (by simp; exact ⟨HS.out.1.lb, HS.out.1.lm⟩) (fun k hk => .inl hk) (fun k hk => .inl hk)).top (by repeat first | exact Ext.refl _ | assumption | refine Ext.drew ?_ | refine Ext.drewN ?_ _ | refine Ext.extBy ?_ _ | refine Ext.alloc ?_ _ | refine Ext.setCell ?_ (by simp; try omega) _ | (refine Ext.trans ?_ (by assumption)))) _ 1 [.slice p8 n2 z] rfl (SlC.fresh _ #[.slice p8 n2 z] _ 1 _ (by simp) (by decide)) rfl (by simp [Value.oneCell']) (by have := HS.out.2.2.2.2; unfold maxLen; omega) (by have := HS.out.2.2.2.2; omega) (by have h1 := HS.out.1.ext.size; have h2 := H6.out.2.1.size; simp; omega) ?_; intro v9 w9 hown9 hg9 hat9; obtain ⟨x9, y9, z9, rfl⟩ := own_slice3 hown9; have HP := Lib.hid (And.intro hown9 (And.intro hg9 hat9)); clear hown9 hg9 hat9)))
          have HT6 := Lib.hid (HS.out.2.2.2.1.tick (Sr' := [B, MB]) (St' := B :: K :: MB :: CL :: PB) H6.out.2.1 (by simp; exact ⟨HS.out.1.lb, HS.out.1.lm⟩) (fun k hk => .inl hk) (fun k hk => .inl hk))
          have hcl6 := HS.out.2.1.sm.kb H6.out.2.1 (by have := HLT.out; simp; omega)
          have hw6 := H6.out.2.1.size
          have hw5 := HS.out.1.ext.size
          have hpush := HT6.out.push (B := wr.heap.size) (r := c.outs.map fun v => getV T v.name) (x := .slice p8 n2 z) (by
              have h1 := H6.out.2.2.1
              rw [HN.out.2.1] at h1 ⊢
              simpa using h1) hw5 (fun b hb => ⟨fun hs => by
            have h1 := (H6.out.2.2.1.lt b hb).1
            have h2 := HS.out.1.box.lt
            have h3 := HS.out.1.mlt
            simp at hs
            omega, fun e => by
            have h1 := (H6.out.2.2.1.lt b hb).1
            have h2 := (HS.out.2.2.2.1.top.lt b e).2
            omega⟩) (fun k hk => by
            have h2 := HS.out.1.box.lt
            have h3 := HS.out.1.mlt
            simp at hk
            omega) (fun k hk => by
            have h2 := HS.out.1.box.lt
            have h3 := HS.out.1.mlt
            have h4 := HS.out.1.mp.lt
            have h5 := HS.out.2.1.sm.lt
            simp only [List.mem_cons] at hk
            rcases hk with e | e | e | e | e
            · omega
            · omega
            · omega
            · omega
            · have := HPB.out.2 k e; omega) HP.out.2.1 HP.out.1 HP.out.2.2
          have hy : y9 = k + 1 := by
            obtain ⟨a', c', e, -⟩ := SlC.of_owns HP.out.1
            simp at e
            rw [e.2.1, HS.out.2.2.2.2]
          subst hy
          have hoff : ∀ k' ∈ B :: K :: MB :: CL :: PB, k' ∉ (Value.ownBlock (.slice p9 k c9)).toList := fun k' hk' hm => HT6.out.off k' (Option.mem_toList.1 hm) hk'
          have hyoung : ∀ k' ∈ (Value.ownBlock (.slice p9 k c9)).toList, w.heap.size ≤ k' := fun k' hk' => (HT6.out.top.lt k' (Option.mem_toList.1 hk')).1
          have ht9 := H6.out.1.t0.kb hpush.2 hyoung (fun k' hk' => ⟨fun e => hoff B (by simp) (e ▸ hk'), fun e => hoff K (by simp) (e ▸ hk'), fun e => hoff MB (by simp) (e ▸ hk')⟩)
          have hc9 := hcl6.kb hpush.2 (hoff CL (by simp))
          refine ⟨⟨k + 1, x9, z9, xs ++ [.slice p8 n2 z], os ++ [c.outs.map fun v => getV T v.name], keepQ T c.eqs ms, _, by omega, by go_num, rfl, Lib.hid ⟨ht9, ⟨hc9, HS.out.2.1.tab, HS.out.2.1.vt⟩, ?_, hpush.1, by simp [HS.out.2.2.2.2]⟩, Lib.hid ⟨HGG.out, keepQ_64 H6.out.2.2.2 _ _ HJ.out.2⟩⟩, by simp [intOf]; omega⟩
          refine (HS.out.2.2.1.kb H6.out.2.1 (fun h0 b hb => ?_)).kb hpush.2 (fun h0 b hb => hoff b (by simp only [List.mem_cons]; exact .inr (.inr (.inr (.inr (HPB.out.1 (HON.out h0) b hb))))))
          have h1 := HPB.out.2 b (HPB.out.1 (HON.out h0) b hb)
          simp
          omega
        · have hki : ¬ (k : Int) < (nr : Int) := fun e => hlt (Int.ofNat_lt.1 e)
          obtain rfl : nr = k := by omega
          go_wp2
          rw [HQ.out]
          refine RunP.yes (os := goC c (kindT (clksH c)) (clksH c) OR (c.eqs.map fun _ => none) 0 rs) (vs := xs) HC.out ?_ HS.out.1.ext
          have h1 := HJ.out.1
          rw [HNR.out.1, List.drop_length] at h1
          rw [h1]
          have h2 := HS.out.2.2.2.1.rows
          simpa [goC] using h2
end Go.Proofs.Ytmommjagndadjaa
namespace Go.Proofs.Ytmommjagndadjaa
open Go.RowKit Go.Maps
set_option linter.unusedSimpArgs false
set_option linter.unusedVariables false
set_option maxRecDepth 100000

/-! ### Numbers and names that are small: asked by a program -/
def sm9 (n : Int) : Bool := decide (-9999 ≤ n) && decide (n < 9999)
theorem sm9_i64 {n : Int} (h : sm9 n = true) : I64 n := by
  unfold sm9 at h
  rw [Bool.and_eq_true, decide_eq_true_eq, decide_eq_true_eq] at h
  unfold I64; omega
def nm9 (n : ByteArray) : Bool := decide (n.size ≤ 9)
theorem nm9_le {n : ByteArray} (h : nm9 n = true) : n.size ≤ maxLen := by
  unfold nm9 at h
  rw [decide_eq_true_eq] at h
  exact Nat.le_trans h (by decide)
mutual
def okEb : CE → Bool
  | .mk f s k n nm ks => sm9 f && sm9 s && sm9 k && sm9 n && nm9 nm && okKb ks
def okKb : List CE → Bool
  | [] => true
  | e :: l => okEb e && okKb l
end
mutual
theorem okE_b : ∀ e : CE, okEb e = true → okE e
  | .mk f s k n nm ks, h => by
    unfold okEb at h
    simp only [Bool.and_eq_true] at h
    unfold okE
    exact ⟨sm9_i64 h.1.1.1.1.1, sm9_i64 h.1.1.1.1.2, sm9_i64 h.1.1.1.2, sm9_i64 h.1.1.2, nm9_le h.1.2, okK_b ks h.2⟩
theorem okK_b : ∀ l : List CE, okKb l = true → okK l
  | [], _ => by unfold okK; trivial
  | e :: l, h => by
    unfold okKb at h
    rw [Bool.and_eq_true] at h
    unfold okK
    exact ⟨okE_b e h.1, okK_b l h.2⟩
end
def okVb (v : VR) : Bool := nm9 v.name && sm9 v.kind && v.clk.all fun e => nm9 e.1
theorem okV_b {v : VR} (h : okVb v = true) : okV v := by
  unfold okVb at h
  simp only [Bool.and_eq_true, List.all_eq_true] at h
  exact ⟨nm9_le h.1.1, sm9_i64 h.1.2, fun e he => nm9_le (h.2 e he)⟩
def okQb (q : EQ) : Bool := sm9 q.form && nm9 q.name && okEb q.e && sm9 q.init && nm9 q.next && nm9 q.reset && sm9 q.period && sm9 q.offset
theorem okQ_b {q : EQ} (h : okQb q = true) : okQ q := by
  unfold okQb at h
  simp only [Bool.and_eq_true] at h
  exact ⟨sm9_i64 h.1.1.1.1.1.1.1, nm9_le h.1.1.1.1.1.1.2, okE_b _ h.1.1.1.1.1.2, sm9_i64 h.1.1.1.1.2, nm9_le h.1.1.1.2, nm9_le h.1.1.2, sm9_i64 h.1.2, sm9_i64 h.2⟩
def okCb (c : CP) : Bool := c.ins.all okVb && c.outs.all okVb && c.locals.all okVb && c.eqs.all okQb
theorem okC_b {c : CP} (h : okCb c = true) : okC c := by
  unfold okCb at h
  simp only [Bool.and_eq_true, List.all_eq_true] at h
  exact ⟨fun v hv => okV_b (h.1.1.1 v hv), fun v hv => okV_b (h.1.1.2 v hv), fun v hv => okV_b (h.1.2 v hv), fun q hq => okQ_b (h.2 q hq)⟩
def smCb (c : CP) : Bool := (c.eqs.all fun q => decide (cntE q.e ≤ 200000)) && c.vars.all fun v => decide (v.clk.length ≤ 100000)
theorem smC_b {c : CP} (h : smCb c = true) : smC c := by
  unfold smCb at h
  simp only [Bool.and_eq_true, List.all_eq_true, decide_eq_true_eq] at h
  exact ⟨fun q hq _ => h.1 q hq, h.2⟩
/-! ### In memory -/
theorem SlC.blk {w : World} {g : Nat} {arr : Array Value} {e : TypeId} {fr : Nat × Nat} (hg : w.heap[g]? = some (.cells arr e fr)) (n cap : Nat) (cs : List Value) (hn : n ≤ cap) (hc : cap ≤ maxLen) (ha : arr.toList = cs) : SlC w (.slice (some ⟨g, 0, none⟩) n cap) n cs := by
  refine ⟨_, cap, rfl, hn, hc, fun j u hu => ⟨g, 0, rfl, ?_⟩⟩
  subst ha
  rw [Nat.zero_add, cell_of_row w g j arr e fr hg]
  simpa using hu
theorem own_blkC {w : World} {g base : Nat} {arr : Array Value} {e : TypeId} {size : Nat} (hg : w.heap[g]? = some (.cells arr e (0, 0))) (hb : base ≤ g) (n : Nat) (hs : arr.size = n * size) (hm : n ≤ maxLen) (xs : List Value) (hx : arr.toList = xs) : w.ownsRow base e size (.slice (some ⟨g, 0, none⟩) n n) n xs := by
  subst hx
  refine ⟨by simp [hs], .inr ⟨g, n, arr, rfl, hb, hg, Nat.le_refl _, hm, hs, ?_⟩⟩
  rw [List.take_of_length_le (by simp [hs])]
abbrev NLc : Value := .slice none 0 0
theorem KIn.none (w : World) (f s k n : Int) (nm : ByteArray) : KIn w (.mk f s k n nm []) NLc := by
  unfold KIn
  exact ⟨[], SlC.nil w, by unfold KsIn; rfl⟩
theorem KsIn.nilc (w : World) : KsIn w [] [] := by unfold KsIn; rfl
theorem KsIn.consc {w : World} {k : CE} {ks : List CE} {v : Value} {vs : List Value} (h : KIn w k v) (h2 : KsIn w ks vs) : KsIn w (k :: ks) (v :: vs) := by
  unfold KsIn; exact ⟨_, _, rfl, h, h2⟩
theorem VRIn.nil (w : World) : VRIn w NLc [] := ⟨[], rfl, SlC.nil w, fun i x q h => by simp at h⟩
/-- Variables in a block, none of them on a clock. -/
theorem VRIn.blk {w : World} {g : Nat} {arr : Array Value} {t : TypeId} {fr : Nat × Nat} {l : List VR} (h : w.heap[g]? = some (.cells arr t fr)) (hl : l.length ≤ maxLen) (hc : ∀ v ∈ l, v.clk = []) (ha : arr.toList = vrCells l (l.map fun _ => NLc)) : VRIn w (.slice (some ⟨g, 0, none⟩) l.length l.length) l := by
  refine ⟨l.map fun _ => NLc, by simp, SlC.blk h _ _ _ (Nat.le_refl _) hl ha, fun i x q h1 h2 => ?_⟩
  rw [List.getElem?_map, h1] at h2
  simp only [Option.map_some, Option.some.injEq] at h2
  rw [← h2, hc x (List.mem_of_getElem? h1)]
  exact EdIn.nil w
/-- Equations in a block. -/
theorem QIn.blk {w : World} {g : Nat} {arr : Array Value} {t : TypeId} {fr : Nat × Nat} {l : List EQ} (kvs : List Value) (h : w.heap[g]? = some (.cells arr t fr)) (hl : l.length ≤ maxLen) (hk : kvs.length = l.length) (hi : ∀ (i : Nat) (q : EQ) (kv : Value), l[i]? = some q → kvs[i]? = some kv → KIn w q.e kv) (ha : arr.toList = qCells l kvs) : QIn w (.slice (some ⟨g, 0, none⟩) l.length l.length) l :=
  ⟨kvs, hk, hi, SlC.blk h _ _ _ (Nat.le_refl _) hl ha⟩
/-- The example in memory: the slices' blocks from g on. -/
abbrev smQs (g : Nat) : Array Value := #[.int .i64 1, .string nY, .int .i64 4, .int .i64 3, .int .i64 0, .int .i64 0, .string eB, .slice (some ⟨g + 5, 0, none⟩) 2 2, .int .i64 0, .string eB, .string eB, .int .i64 0, .int .i64 0, .int .i64 2, .string nM, .int .i64 0, .int .i64 0, .int .i64 0, .int .i64 0, .string eB, NLc, .int .i64 0, .string nY, .string nR, .int .i64 0, .int .i64 0]
structure LikeC (g : Nat) (qs : Array Value) (w : World) : Prop where
  ins : w.heap[g]? = some (.cells #[.string nX, .int .i64 2, NLc, .string nR, .int .i64 1, NLc] 30 (0, 0))
  outs : w.heap[g + 1]? = some (.cells #[.string nY, .int .i64 2, NLc] 30 (0, 0))
  locals : w.heap[g + 2]? = some (.cells #[.string nM, .int .i64 2, NLc] 30 (0, 0))
  kids : w.heap[g + 5]? = some (.cells #[.int .i64 2, .int .i64 0, .int .i64 0, .int .i64 0, .string nM, NLc, .int .i64 2, .int .i64 0, .int .i64 0, .int .i64 0, .string nX, NLc] 33 (0, 0))
  eqs : w.heap[g + 6]? = some (.cells qs 35 (0, 0))
theorem LikeC.ext {g : Nat} {qs : Array Value} {w w' : World} (h : LikeC g qs w) (hx : Ext w w') : LikeC g qs w' :=
  ⟨ext_block hx h.ins, ext_block hx h.outs, ext_block hx h.locals, ext_block hx h.kids, ext_block hx h.eqs⟩
abbrev smX4 (g : Nat) : S4 := ⟨.slice (some ⟨g, 0, none⟩) 2 2, .slice (some ⟨g + 1, 0, none⟩) 1 1, .slice (some ⟨g + 2, 0, none⟩) 1 1, .slice (some ⟨g + 6, 0, none⟩) 2 2⟩
abbrev smCA (g : Nat) : Array Value := #[.slice (some ⟨g, 0, none⟩) 2 2, .slice (some ⟨g + 1, 0, none⟩) 1 1, .slice (some ⟨g + 2, 0, none⟩) 1 1, .slice (some ⟨g + 6, 0, none⟩) 2 2]
abbrev smEC : CE := .mk 4 3 0 0 eB [exV nM, exV nX]
theorem LikeC.kin {g : Nat} {qs : Array Value} {w : World} (h : LikeC g qs w) : KIn w smEC (.slice (some ⟨g + 5, 0, none⟩) 2 2) := by
  refine KIn.of (kvs := [NLc, NLc]) ?_ (KsIn.consc (KIn.none _ _ _ _ _ _) (KsIn.consc (KIn.none _ _ _ _ _ _) (KsIn.nilc _)))
  exact SlC.blk h.kids 2 2 _ (by decide) (by decide) rfl
theorem LikeC.small {g : Nat} {w : World} (h : LikeC g (smQs g) w) : CPIn w smallC (smX4 g) where
  ins := VRIn.blk (l := smallC.ins) h.ins (by decide) (by simp) rfl
  outs := VRIn.blk (l := smallC.outs) h.outs (by decide) (by simp) rfl
  locals := VRIn.blk (l := smallC.locals) h.locals (by decide) (by simp) rfl
  eqs := QIn.blk (l := smallC.eqs) [.slice (some ⟨g + 5, 0, none⟩) 2 2, NLc] h.eqs (by decide) rfl (fun i q kv h1 h2 => by
    rcases i with _ | _ | i
    · simp at h1 h2
      subst h1 h2
      exact h.kin
    · simp at h1 h2
      subst h1 h2
      exact KIn.none _ _ _ _ _ _
    · simp at h1) rfl
theorem small_okC : okC smallC := okC_b (by decide +kernel)
theorem small_smC : smC smallC := smC_b (by decide +kernel)
theorem num13_any (n : Int) (w : World) : Calls Try.prog 17 #[.int .i64 n] w fun e w' => e = .returned (.int .i64 n) ∧ w = w' := by
  go_enter Try.func17, Try.ntmps17
  go_wp2
  go_ret
  exact ⟨rfl, rfl⟩
theorem var13_any (n : ByteArray) (w : World) : Calls Try.prog 19 #[.string n] w fun e w' => e = .returned (.agg #[.int .i64 2, .int .i64 0, .int .i64 0, .int .i64 0, .string n, NLc]) ∧ w' = w.alloc (.cells #[.int .i64 2, .int .i64 0, .int .i64 0, .int .i64 0, .string n, NLc] 33) := by
  go_enter Try.func19, Try.ntmps19
  go_wp2
  refine ret_row rfl w.heap.size 33 #[.int .i64 2, .int .i64 0, .int .i64 0, .int .i64 0, .string n, NLc] _ rfl ?hg Try.underlying33 rfl (by kernel_rfl) rfl ?_
  case hg => exact heap_alloc_last w _
  exact ⟨rfl, rfl⟩
set_option maxHeartbeats 2000000 in
theorem small13_any (w : World) : Calls Try.prog 18 #[] w fun e w' => e = .returned (.agg (smCA (w.heap.size + 1))) ∧ Ext w w' ∧ w'.heap.size = w.heap.size + 8 ∧ LikeC (w.heap.size + 1) (smQs (w.heap.size + 1)) w' := by
  go_enter Try.func18, Try.ntmps18
  go_wp2_with (first | (go_at_call 19; refine (var13_any _ _).mono ?_; rintro e1 w1 ⟨rfl, rfl⟩))
  refine ret_row rfl w.heap.size 26 #[.slice (some ⟨w.heap.size + 1, 0, none⟩) 2 2, .slice (some ⟨w.heap.size + 1 + 1, 0, none⟩) 1 1, .slice (some ⟨w.heap.size + 1 + 1 + 1, 0, none⟩) 1 1, .slice (some ⟨w.heap.size + 1 + 1 + 1 + 1 + 1 + 1 + 1, 0, none⟩) 2 2] _ rfl ?hg Try.underlying26 rfl (by kernel_rfl) rfl ?_
  case hg => repeat (first | (refine heap_alloc_at _ _ _ ?_; rfl) | (refine (Below.heap_alloc _ _ _ ?_).trans ?_; · (simp only [World.size_alloc]; omega)))
  refine ⟨rfl, (by repeat first | exact Ext.refl _ | assumption | refine Ext.drew ?_ | refine Ext.drewN ?_ _ | refine Ext.extBy ?_ _ | refine Ext.alloc ?_ _ | refine Ext.setCell ?_ (by simp; try omega) _ | (refine Ext.trans ?_ (by assumption))), by simp, ?_, ?_, ?_, ?_, ?_⟩
  all_goals repeat (first | (refine heap_alloc_at _ _ _ ?_; simp; done) | (refine (Below.heap_alloc _ _ _ ?_).trans ?_; · simp))
def SmallCP (w : World) (e : Ending) (w' : World) : Prop := ∃ g, e = .returned (.agg (smCA g)) ∧ Hid (Ext w w' ∧ w.heap.size ≤ g ∧ LikeC g (smQs g) w')
theorem smallC_any (w : World) : Calls Try.prog 18 #[] w (SmallCP w) :=
  (small13_any w).mono fun e w' ⟨h1, h2, h3, h4⟩ => ⟨w.heap.size + 1, h1, Lib.hid ⟨h2, by omega, h4⟩⟩
theorem smC_runs {g : Nat} {w : World} (h : LikeC g (smQs g) w) (w' : World) (hx : Ext w w') {v : Value} {vs : List Value} {rs os : List (List Int)} (hr : RowsIn w' v vs rs) (hI : ∀ r ∈ rs, ∀ n ∈ r, I64 n) (hs : runC smallC rs = (0, os)) :
    Calls Try.prog 16 #[.agg (smCA g), v] w' fun e w'' => ∃ v' vs', e = .returned (.tuple #[v', .int .i64 0]) ∧ Hid (RowsIn w'' v' vs' os ∧ Ext w' w'') := by
  refine (crun_any smallC (smX4 g) v vs rs w' ((h.ext hx).small) small_smC small_okC hr hI).mono ?_
  rintro e w'' ⟨v', vs', h1, h2, h3⟩
  rw [hs] at h1 h2
  exact ⟨v', vs', h1, Lib.hid ⟨h2, h3⟩⟩
theorem smC_check {g : Nat} {w : World} (h : LikeC g (smQs g) w) (w' : World) (hx : Ext w w') :
    Calls Try.prog 20 #[.agg (smCA g)] w' fun e w'' => e = .returned (.int .i64 0) ∧ Hid (Ext w' w'') := by
  have := ccheck_any smallC (smX4 g) w' ((h.ext hx).small) small_okC small_smC
  rw [smallC_chk] at this
  exact this
/-! ### Rows of one number each -/
def onesC (l : List Int) : List (List Int) := l.map fun x => [x]
theorem oneC_row {w : World} {x : Int} : (w.alloc (.cells #[.int .i64 x] 3)).ownsRow w.heap.size 3 1 (.slice (some ⟨w.heap.size, 0, none⟩) 1 1) [x].length (i64s [x]) :=
  own_blkC (heap_alloc_last w _) (Nat.le_refl _) 1 rfl (by decide) _ rfl
/-- A row more, in a new block. -/
theorem OutsA.rowC {W w w2 : World} {ov ov2 : Value} {vs : List Value} {os : List (List Int)} (h : OutsA W ov vs os [] [] w) (arr : Array Value) (r : List Int) (hr : arr.toList = i64s r) (hl : r.length ≤ maxLen) (hg : ((w.alloc (.cells arr 3)).alloc (.cells #[.slice (some ⟨w.heap.size, 0, none⟩) r.length r.length] 36)).grownBy w2 ov.ownBlock) (hown : w2.ownsRow W.heap.size 36 1 ov2 (vs.length + 1) (vs ++ [.slice (some ⟨w.heap.size, 0, none⟩) r.length r.length])) (hat : ov2.ownBlock = ov.ownBlock ∨ ov2.ownBlock = some ((w.alloc (.cells arr 3)).alloc (.cells #[.slice (some ⟨w.heap.size, 0, none⟩) r.length r.length] 36)).heap.size) :
    OutsA W ov2 (vs ++ [.slice (some ⟨w.heap.size, 0, none⟩) r.length r.length]) (os ++ [r]) [] [] w2 ∧ Kb ov.ownBlock.toList w w2 := by
  have h1 : OutsA W ov vs os [] [] (w.alloc (.cells arr 3)) := h.tick (Kb.of_ext (S := []) ((Ext.refl w).alloc _)) (by simp) (fun k hk => .inl hk) (fun k hk => .inl hk)
  have h9 := h1.push (x := .slice (some ⟨w.heap.size, 0, none⟩) r.length r.length) (r := r) (B := w.heap.size) (own_blkC (heap_alloc_last w _) (Nat.le_refl _) r.length (by have := congrArg List.length hr; simp [i64s] at this; omega) hl _ hr) h.ext.size (fun b hb => ⟨by simp, fun e => by
    simp only [Value.ownBlock, Option.some.injEq] at hb
    have := (h.top.lt b e).2
    omega⟩) (by simp) (by simp) hg hown hat
  exact ⟨h9.1, (Kb.of_ext ((Ext.refl w).alloc _)).trans h9.2⟩
/-- A row more, in a new block; blocks that others hold are left alone. -/
theorem OutsA.rowS {W w w2 : World} {ov ov2 : Value} {vs : List Value} {os : List (List Int)} {Sr St : List Nat} (h : OutsA W ov vs os Sr St w) (hS : ∀ k ∈ Sr, k < w.heap.size) (hT : ∀ k ∈ St, k < w.heap.size) (arr : Array Value) (r : List Int) (hr : arr.toList = i64s r) (hl : r.length ≤ maxLen) (hg : ((w.alloc (.cells arr 3)).alloc (.cells #[.slice (some ⟨w.heap.size, 0, none⟩) r.length r.length] 36)).grownBy w2 ov.ownBlock) (hown : w2.ownsRow W.heap.size 36 1 ov2 (vs.length + 1) (vs ++ [.slice (some ⟨w.heap.size, 0, none⟩) r.length r.length])) (hat : ov2.ownBlock = ov.ownBlock ∨ ov2.ownBlock = some ((w.alloc (.cells arr 3)).alloc (.cells #[.slice (some ⟨w.heap.size, 0, none⟩) r.length r.length] 36)).heap.size) :
    OutsA W ov2 (vs ++ [.slice (some ⟨w.heap.size, 0, none⟩) r.length r.length]) (os ++ [r]) Sr St w2 ∧ Kb ov.ownBlock.toList w w2 := by
  have h1 : OutsA W ov vs os Sr St (w.alloc (.cells arr 3)) := h.tick (Kb.of_ext (S := []) ((Ext.refl w).alloc _)) (by simp) (fun k hk => .inl hk) (fun k hk => .inl hk)
  have h9 := h1.push (x := .slice (some ⟨w.heap.size, 0, none⟩) r.length r.length) (r := r) (B := w.heap.size) (own_blkC (heap_alloc_last w _) (Nat.le_refl _) r.length (by have := congrArg List.length hr; simp [i64s] at this; omega) hl _ hr) h.ext.size (fun b hb => by
    simp only [Value.ownBlock, Option.some.injEq] at hb
    exact ⟨fun e => by have := hS b e; omega, fun e => by
      have := (h.top.lt b e).2
      omega⟩) (fun k hk => by have := hS k hk; simp; omega) (fun k hk => by have := hT k hk; simp; omega) hg hown hat
  exact ⟨h9.1, (Kb.of_ext ((Ext.refl w).alloc _)).trans h9.2⟩
/-- Two lists of rows that grow side by side. -/
structure TwoR (W : World) (a b : Value) (xs ys : List Value) (os ps : List (List Int)) (w : World) : Prop where
  fst : OutsA W a xs os b.ownBlock.toList b.ownBlock.toList w
  snd : OutsA W b ys ps a.ownBlock.toList a.ownBlock.toList w
theorem TwoR.swap {W w : World} {a b : Value} {xs ys : List Value} {os ps : List (List Int)} (h : TwoR W a b xs ys os ps w) : TwoR W b a ys xs ps os w := ⟨h.snd, h.fst⟩
theorem TwoR.nil {W w : World} (hx : Ext W w) : TwoR W (.slice none 0 0) (.slice none 0 0) [] [] [] [] w := ⟨OutsA.nilC _ _ _ hx, OutsA.nilC _ _ _ hx⟩
theorem TwoR.next {W w w' : World} {a b : Value} {xs ys : List Value} {os ps : List (List Int)} (h : TwoR W a b xs ys os ps w) (hx : Ext w w') : TwoR W a b xs ys os ps w' :=
  ⟨h.fst.tick (Kb.of_ext (S := []) hx) (by simp) (fun k hk => .inl hk) (fun k hk => .inl hk), h.snd.tick (Kb.of_ext (S := []) hx) (by simp) (fun k hk => .inl hk) (fun k hk => .inl hk)⟩
theorem TwoR.push {W w w2 : World} {a b a2 : Value} {xs ys : List Value} {os ps : List (List Int)} (h : TwoR W a b xs ys os ps w) (arr : Array Value) (r : List Int) (hr : arr.toList = i64s r) (hl : r.length ≤ maxLen) (hg : ((w.alloc (.cells arr 3)).alloc (.cells #[.slice (some ⟨w.heap.size, 0, none⟩) r.length r.length] 36)).grownBy w2 a.ownBlock) (hown : w2.ownsRow W.heap.size 36 1 a2 (xs.length + 1) (xs ++ [.slice (some ⟨w.heap.size, 0, none⟩) r.length r.length])) (hat : a2.ownBlock = a.ownBlock ∨ a2.ownBlock = some ((w.alloc (.cells arr 3)).alloc (.cells #[.slice (some ⟨w.heap.size, 0, none⟩) r.length r.length] 36)).heap.size) :
    TwoR W a2 b (xs ++ [.slice (some ⟨w.heap.size, 0, none⟩) r.length r.length]) ys (os ++ [r]) ps w2 := by
  have hlt : ∀ k ∈ b.ownBlock.toList, k < w.heap.size := fun k hk => (h.snd.top.lt k (Option.mem_toList.1 hk)).2
  obtain ⟨h1, h2⟩ := h.fst.rowS hlt hlt arr r hr hl hg hown hat
  have hnew : ∀ k ∈ a2.ownBlock.toList, k ∈ a.ownBlock.toList ∨ w.heap.size ≤ k := fun k hk => by
    rcases hat with e | e
    · exact .inl (e ▸ hk)
    · rw [e] at hk
      simp at hk
      exact .inr (by omega)
  exact ⟨h1, h.snd.tick h2 (fun k hk => ⟨hk, hk, (h.fst.top.lt k (Option.mem_toList.1 hk)).1⟩) hnew hnew⟩
def RowsPC (W : World) (rs : List (List Int)) (e : Ending) (w' : World) : Prop := ∃ (v : Value) (vs : List Value), e = .returned v ∧ RowsIn w' v vs rs ∧ Ext W w'
set_option maxHeartbeats 2000000 in
theorem rowsC_any (l : List Int) (v : Value) (w : World) (h : SlC w v l.length (i64s l)) (hl : l.length ≤ 100000) : Calls Try.prog 22 #[v] w (RowsPC w (onesC l)) := by
  obtain ⟨Q, hQ⟩ : ∃ Q, Q = RowsPC w (onesC l) := ⟨_, rfl⟩
  rw [← hQ]
  have HQ := Lib.hid hQ
  obtain ⟨p, cap, rfl, h1, h2, hc⟩ := id h
  obtain ⟨n, hn⟩ : ∃ n, n = l.length := ⟨_, rfl⟩
  rw [← hn] at h1 hl ⊢
  have HN := Lib.hid (And.intro hn hc)
  have hcI : (cap : Int) ≤ 9223372036854775807 := by unfold maxLen at h2; omega
  clear hQ hn h hc h2
  go_enter Try.func22, Try.ntmps22
  go_wp2
  go_loopw [3, 4] (fun o i wr => ∃ (j : Nat) (p9 : Option Addr) (c9 : Nat) (xs : List Value), j ≤ n ∧ i = .int .i64 (j : Int) ∧ o = .slice p9 j c9 ∧ Hid (OutsA w (.slice p9 j c9) xs (onesC (l.take j)) [] [] wr ∧ xs.length = j)) (fun _ i _ => n - (intOf i).toNat)
  case atStart => exact ⟨0, none, 0, [], Nat.zero_le _, rfl, rfl, Lib.hid ⟨OutsA.nilC _ _ _ (Ext.refl _), rfl⟩⟩
  case round =>
    obtain ⟨j, p9, c9, xs, hj, rfl, rfl, HO⟩ := hrel
    by_cases hlt : j < n
    · have hji : (j : Int) < (n : Int) := Int.ofNat_lt.2 hlt
      obtain ⟨x, hx⟩ : ∃ x, l[j]? = some x := ⟨_, List.getElem?_eq_getElem (by have := HN.out.1; omega)⟩
      obtain ⟨b, o, rfl, f1⟩ := HN.out.2 j (.int .i64 x) (by unfold i64s; rw [List.getElem?_map, hx]; rfl)
      have f2 := HO.out.1.ext.cell f1
      have z1 : b < wr.heap.size := World.block_lt_of_cell? wr _ f2
      have hjc : j < cap := by omega
      have HX := Lib.hid hx
      clear hx f1
      have hsw : w.heap.size ≤ wr.heap.size := HO.out.1.ext.size
      go_wp2_with (at_builtin; (refine wpList_append_slc _ rfl (.tmp 11) (.tmp 17) 42 rfl w.heap.size 36 (.slice none 0 0) 1 24 Try.underlying42 infoRows rfl (by decide) (.slice p9 j c9) xs.length xs rfl (ownsRow_ext HO.out.1.top (by repeat first | exact Ext.refl _ | assumption | refine Ext.drew ?_ | refine Ext.drewN ?_ _ | refine Ext.extBy ?_ _ | refine Ext.alloc ?_ _ | refine Ext.setCell ?_ (by simp; try omega) _ | (refine Ext.trans ?_ (by assumption)))) _ 1 [.slice (some ⟨wr.heap.size, 0, none⟩) 1 1] rfl (SlC.fresh _ #[.slice (some ⟨wr.heap.size, 0, none⟩) 1 1] _ 1 _ (by simp) (by decide)) rfl (by simp [Value.oneCell']) (by have := HO.out.2; unfold maxLen; omega) (by have := HO.out.2; omega) (by simp; omega) ?_; intro v9 w9 hown9 hg9 hat9; obtain ⟨x9, y9, z9, rfl⟩ := own_slice3 hown9; have HP := Lib.hid (And.intro hown9 (And.intro hg9 hat9)); clear hown9 hg9 hat9))
      have h9 := (HO.out.1.rowC #[.int .i64 x] [x] rfl (show 1 ≤ maxLen by decide) HP.out.2.1 HP.out.1 HP.out.2.2).1
      have hy : y9 = j + 1 := by
        obtain ⟨a', c', e, -⟩ := SlC.of_owns HP.out.1
        simp at e
        rw [e.2.1, HO.out.2]
      subst hy
      refine ⟨⟨j + 1, x9, z9, xs ++ [.slice (some ⟨wr.heap.size, 0, none⟩) 1 1], by omega, by go_num, rfl, Lib.hid ⟨?_, by simp [HO.out.2]⟩⟩, by simp [intOf]; omega⟩
      rw [List.take_add_one, HX.out, Option.toList_some]
      unfold onesC at h9 ⊢
      rw [List.map_append]
      exact h9
    · have hji : ¬ (j : Int) < (n : Int) := fun e => hlt (Int.ofNat_lt.1 e)
      obtain rfl : j = n := by omega
      go_wp2
      rw [HQ.out]
      have h9 := HO.out.1
      rw [HN.out.1, List.take_length] at h9
      refine ⟨_, xs, rfl, ?_, HO.out.1.ext⟩
      rw [HN.out.1]
      exact h9.rows
theorem rows3C (a b c : Int) (w : World) (n : Nat) (hn : n = w.heap.size) : Calls Try.prog 22 #[.slice (some ⟨n, 0, none⟩) 3 3] (w.alloc (.cells #[.int .i64 a, .int .i64 b, .int .i64 c] 3)) fun e w' => ∃ v vs, e = .returned v ∧ Hid (RowsIn w' v vs (onesC [a, b, c]) ∧ Ext w w') := by
  subst hn
  refine (rowsC_any [a, b, c] _ _ (SlC.blk (heap_alloc_last w _) 3 3 _ (by decide) (by decide) rfl) (show 3 ≤ 100000 by decide)).mono ?_
  rintro e w' ⟨v, vs, h1, h2, h3⟩
  exact ⟨v, vs, h1, Lib.hid ⟨h2, ((Ext.refl w).alloc _).trans h3⟩⟩
/-! ### The example is played -/
theorem three_rows {w : World} {n : Nat} {a b c : Int} {d e f : Int} (h0 : w.heap[n]? = some (.cells #[.int .i64 a, .int .i64 d] 3 (0, 0))) (h1 : w.heap[n + 1]? = some (.cells #[.int .i64 b, .int .i64 e] 3 (0, 0))) (h2 : w.heap[n + 1 + 1]? = some (.cells #[.int .i64 c, .int .i64 f] 3 (0, 0)))
    (h3 : w.heap[n + 1 + 1 + 1]? = some (.cells #[.slice (some ⟨n, 0, none⟩) 2 2, .slice (some ⟨n + 1, 0, none⟩) 2 2, .slice (some ⟨n + 1 + 1, 0, none⟩) 2 2] 36 (0, 0))) :
    RowsIn w (.slice (some ⟨n + 1 + 1 + 1, 0, none⟩) 3 3) [.slice (some ⟨n, 0, none⟩) 2 2, .slice (some ⟨n + 1, 0, none⟩) 2 2, .slice (some ⟨n + 1 + 1, 0, none⟩) 2 2] [[a, d], [b, e], [c, f]] := by
  refine ⟨SlC.blk h3 3 3 _ (by decide) (by decide) rfl, rfl, fun j x r e1 e2 => ?_⟩
  rcases j with _ | _ | _ | j
  · simp at e1 e2
    subst e1 e2
    exact SlC.blk h0 2 2 _ (by decide) (by decide) rfl
  · simp at e1 e2
    subst e1 e2
    exact SlC.blk h1 2 2 _ (by decide) (by decide) rfl
  · simp at e1 e2
    subst e1 e2
    exact SlC.blk h2 2 2 _ (by decide) (by decide) rfl
  · simp at e1
theorem i64_all {rs : List (List Int)} (h : (rs.all fun r => r.all sm9) = true) : ∀ r ∈ rs, ∀ n ∈ r, I64 n := fun r hr n hn => sm9_i64 (List.all_eq_true.1 (List.all_eq_true.1 h r hr) n hn)
/-- The example's run with three rows that a law has just made. -/
theorem smC_run3 {g : Nat} {w : World} (h : LikeC g (smQs g) w) {n n1 n2 n3 : Nat} {a b c d e f : Int} {os : List (List Int)} (hn : n = w.heap.size) (hn1 : n1 = n + 1) (hn2 : n2 = n + 1 + 1) (hn3 : n3 = n + 1 + 1 + 1) (hs : runC smallC [[a, d], [b, e], [c, f]] = (0, os)) (hI : ([[a, d], [b, e], [c, f]].all fun r => r.all sm9) = true) :
    Calls Try.prog 16 #[.agg (smCA g), .slice (some ⟨n3, 0, none⟩) 3 3] ((((w.alloc (.cells #[.int .i64 a, .int .i64 d] 3)).alloc (.cells #[.int .i64 b, .int .i64 e] 3)).alloc (.cells #[.int .i64 c, .int .i64 f] 3)).alloc (.cells #[.slice (some ⟨n, 0, none⟩) 2 2, .slice (some ⟨n1, 0, none⟩) 2 2, .slice (some ⟨n2, 0, none⟩) 2 2] 36)) fun e w'' => ∃ v' vs', e = .returned (.tuple #[v', .int .i64 0]) ∧ Hid (RowsIn w'' v' vs' os ∧ Ext w w'') := by
  subst hn1 hn2 hn3 hn
  have hx : Ext w ((((w.alloc (.cells #[.int .i64 a, .int .i64 d] 3)).alloc (.cells #[.int .i64 b, .int .i64 e] 3)).alloc (.cells #[.int .i64 c, .int .i64 f] 3)).alloc (.cells #[.slice (some ⟨w.heap.size, 0, none⟩) 2 2, .slice (some ⟨w.heap.size + 1, 0, none⟩) 2 2, .slice (some ⟨w.heap.size + 1 + 1, 0, none⟩) 2 2] 36)) := ((((Ext.refl w).alloc _).alloc _).alloc _).alloc _
  refine (smC_runs h _ hx (three_rows ?_ ?_ ?_ ?_) (i64_all hI) hs).mono ?_
  · repeat (first | (refine heap_alloc_at _ _ _ ?_; simp; done) | (refine (Below.heap_alloc _ _ _ ?_).trans ?_; · (simp only [World.size_alloc]; omega)))
  · repeat (first | (refine heap_alloc_at _ _ _ ?_; simp; done) | (refine (Below.heap_alloc _ _ _ ?_).trans ?_; · (simp only [World.size_alloc]; omega)))
  · repeat (first | (refine heap_alloc_at _ _ _ ?_; simp; done) | (refine (Below.heap_alloc _ _ _ ?_).trans ?_; · (simp only [World.size_alloc]; omega)))
  · repeat (first | (refine heap_alloc_at _ _ _ ?_; simp; done) | (refine (Below.heap_alloc _ _ _ ?_).trans ?_; · (simp only [World.size_alloc]; omega)))
  · rintro e w'' ⟨v', vs', h1, h2⟩
    exact ⟨v', vs', h1, Lib.hid ⟨h2.out.1, hx.trans h2.out.2⟩⟩
theorem run1_sm : ([[1, 0], [2, 0], [3, 0]].all fun r => r.all sm9) = true := by decide
theorem run2_sm : ([[1, 0], [2, 1], [3, 0]].all fun r => r.all sm9) = true := by decide
end Go.Proofs.Ytmommjagndadjaa
namespace Go.Proofs.Ytmommjagndadjaa
open Go.RowKit Go.Maps
set_option linter.unusedSimpArgs false
set_option linter.unusedVariables false
set_option maxRecDepth 100000

set_option maxHeartbeats 4000000 in
theorem alive13_any (w : World) : Calls Try.prog 14 #[] w fun e w' => e = .returned (.bool true) ∧ Hid (Ext w w') := by
  obtain ⟨Q, hQ⟩ : ∃ Q, Q = fun e w' => e = Ending.returned (.bool true) ∧ Hid (Ext w w') := ⟨_, rfl⟩
  rw [← hQ]
  have HQ := Lib.hid hQ
  clear hQ
  go_enter Try.func14, Try.ntmps14
  go_upto_region 2 with (first
    | (go_at_call 18; refine (smallC_any _).mono ?_; rintro e1 w1 ⟨g1, rfl, H1⟩)
    | (go_at_call 16; refine (smC_run3 H1.out.2.2 rfl rfl rfl rfl smallC_run1 run1_sm).mono ?_; rintro e3 w3 ⟨v3, vs3, rfl, H3⟩) | fail)
  go_upto_region 3 with (first
    | (go_at_call 18; refine (smallC_any _).mono ?_; rintro e4 w4 ⟨g4, rfl, H4⟩)
    | (go_at_call 16; refine (smC_run3 H4.out.2.2 rfl rfl rfl rfl smallC_run2 run2_sm).mono ?_; rintro e5 w5 ⟨v5, vs5, rfl, H5⟩) | fail)
  go_upto_region 4 with (first
    | (go_at_call 18; refine (smallC_any _).mono ?_; rintro e6 w6 ⟨g6, rfl, H6⟩)
    | (go_at_call 20; refine (smC_check H6.out.2.2 _ (Ext.refl _)).mono ?_; rintro e7 w7 ⟨rfl, H7⟩) | fail)
  go_wp2_with (first
    | (go_at_call 17; refine (num13_any _ _).mono ?_; rintro e8 w8 ⟨rfl, rfl⟩)
    | (go_at_call 22; refine (rows3C 1 3 6 _ _ rfl).mono ?_; rintro e9 w9 ⟨v9, vs9, rfl, H9⟩)
    | (go_at_call 22; refine (rows3C 1 2 5 _ _ rfl).mono ?_; rintro ea wa ⟨va, vsa, rfl, HA⟩)
    | (go_at_call 21; refine (sameRows_any (H5.out.1.ext (H6.out.1.trans (H7.out.trans (H9.out.2.trans (hxc.trans HA.out.2))))) HA.out.1).mono ?_; rintro eb wb ⟨rfl, hxb⟩)
    | (go_at_call 21; refine (sameRows_any (H3.out.1.ext (H4.out.1.trans (H5.out.2.trans (H6.out.1.trans (H7.out.trans H9.out.2))))) H9.out.1).mono ?_; rintro ec wc ⟨rfl, hxc⟩) | fail)
  rw [HQ.out]
  exact ⟨rfl, Lib.hid (H1.out.1.trans (H3.out.2.trans (H4.out.1.trans (H5.out.2.trans (H6.out.1.trans (H7.out.trans (H9.out.2.trans (hxc.trans (HA.out.2.trans hxb)))))))))⟩
end Go.Proofs.Ytmommjagndadjaa

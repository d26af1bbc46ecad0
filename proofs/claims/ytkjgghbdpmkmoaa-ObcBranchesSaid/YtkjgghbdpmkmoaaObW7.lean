/-
  The walk: whether a name is there twice.
  Condition: the step code and its checker lie in memory.
-/
import Derived.Test.YtkjgghbdpmkmoaaObW6
namespace Go.Proofs.Ytkjgghbdpmkmoaa
open Go.RowKit Go.Maps
set_option linter.unusedSimpArgs false
set_option linter.unusedVariables false
set_option maxRecDepth 100000

def listP (s : SP) : Nat → List CV | 0 => s.ins | 1 => s.outs | _ => s.vars
def rowsP (s : SP) : Nat → NT
  | 0 => s.names
  | 1 => (s.outs.map fun v => (v.name, v.kind, 2)) ++ (s.vars.map fun v => (v.name, v.kind, 3)) ++ (s.cells.map fun c => (c.name, c.kind, 4))
  | 2 => (s.vars.map fun v => (v.name, v.kind, 3)) ++ (s.cells.map fun c => (c.name, c.kind, 4))
  | _ => s.cells.map fun c => (c.name, c.kind, 4)
theorem rowsP_step (s : SP) {k : Nat} (h : k < 3) : rowsP s k = ((listP s k).map fun v => (v.name, v.kind, 1 + (k : Int))) ++ rowsP s (k + 1) := by
  rcases (show k = 0 ∨ k = 1 ∨ k = 2 by omega) with rfl | rfl | rfl
  · show s.names = _
    unfold SP.names
    simp [listP, rowsP]
  · simp [listP, rowsP]
  · simp [listP, rowsP]
theorem putN_no {t : NT} {e : ByteArray × Int × Int} {l : NT} (h : putOne t e.1 e.2.1 e.2.2 = (t, false)) : putN t (e :: l) = (t, false) := by
  rw [putN]
  unfold putOne at h
  split at h
  · rw [if_pos (by assumption)]
  · simp at h
theorem putN_yes {t : NT} {e : ByteArray × Int × Int} {l : NT} (h : (putOne t e.1 e.2.1 e.2.2).2 = true) : putN t (e :: l) = putN (putOne t e.1 e.2.1 e.2.2).1 l ∧ (putOne t e.1 e.2.1 e.2.2).1.length = t.length + 1 := by
  rw [putN]
  unfold putOne at h ⊢
  split at h
  · simp at h
  · rename_i h2
    rw [if_neg h2, if_neg h2]
    exact ⟨rfl, rfl⟩
theorem putOne_no {t : NT} {n : ByteArray} {k i : Int} (h : (putOne t n k i).2 = false) : putOne t n k i = (t, false) := by
  unfold putOne at h ⊢
  split at h
  · rename_i h2; rw [if_pos h2]
  · simp at h
theorem index3s (a b c : Value) (w : World) : Sem.run Try.prog (Instr.index 65 (.agg #[a, b, c]) (.int .i64 0)) w = .ok a w ∧ Sem.run Try.prog (Instr.index 65 (.agg #[a, b, c]) (.int .i64 1)) w = .ok b w ∧ Sem.run Try.prog (Instr.index 65 (.agg #[a, b, c]) (.int .i64 2)) w = .ok c w :=
  ⟨by kernel_rfl, by kernel_rfl, by kernel_rfl⟩
set_option maxHeartbeats 8000000 in
theorem twice_any (W0 : World) (s : SP) (x : S5) (X M : Nat) (c0 : Int) (w : World) (hs : SPIn W0 s x) (hok : okP s) (hck : CK W0 x X M (ntL []) c0 w) (hnl : s.names.length ≤ 90000) :
    Calls Try.prog 15 #[.pointer (some ⟨X, 0, none⟩)] w (RetN W0 x X M c0 (putN [] s.names) w) := by
  obtain ⟨R, hR⟩ : ∃ R, R = putN [] s.names := ⟨_, rfl⟩
  rw [← hR]
  obtain ⟨Q, hQ⟩ : ∃ Q, Q = RetN W0 x X M c0 R w := ⟨_, rfl⟩
  rw [← hQ]
  have HQ := Lib.hid hQ
  have HR := Lib.hid hR
  have HS := Lib.hid (And.intro hs (And.intro hok hnl))
  obtain ⟨iv, ov, vv, cv, bv⟩ := x
  obtain ⟨p1, c1, e1, -, -⟩ := hs.ins.slice
  obtain ⟨p2, c2, e2, -, -⟩ := hs.outs.slice
  obtain ⟨p3, c3, e3, -, -⟩ := hs.vars.slice
  obtain ⟨p4, c4, e4, hd4, hc4⟩ := hs.cells.slice
  simp only at e1 e2 e3 e4
  subst e1 e2 e3 e4
  obtain ⟨y, hy⟩ : ∃ y : S5, y = ⟨.slice p1 s.ins.length c1, .slice p2 s.outs.length c2, .slice p3 s.vars.length c3, .slice p4 s.cells.length c4, bv⟩ := ⟨_, rfl⟩
  rw [← hy] at hQ HQ HS hck hs
  have HY := Lib.hid hy
  obtain ⟨n1, h1⟩ : ∃ n, n = s.ins.length := ⟨_, rfl⟩
  obtain ⟨n2, h2⟩ : ∃ n, n = s.outs.length := ⟨_, rfl⟩
  obtain ⟨n3, h3⟩ : ∃ n, n = s.vars.length := ⟨_, rfl⟩
  obtain ⟨n4, h4⟩ : ∃ n, n = s.cells.length := ⟨_, rfl⟩
  have HN := Lib.hid (And.intro h1 (And.intro h2 (And.intro h3 h4)))
  have hbx : BoxV X [.slice p1 n1 c1, .slice p2 n2 c2, .slice p3 n3 c3, .slice p4 n4 c4, bv, .map (some M), .int .i64 c0] w := by
    have := hck.box
    rw [hy] at this
    rw [h1, h2, h3, h4]
    exact this
  have g0 := hbx.cells 0 _ rfl
  have g1 := hbx.cells 1 _ rfl
  have g2 := hbx.cells 2 _ rfl
  have gl := hbx.lt
  have HCK := Lib.hid (And.intro hck hbx)
  clear hR hQ hs hck h1 h2 h3 h4 hok hnl hy hbx hd4 hc4
  go_enter Try.func15, Try.ntmps15
  go_upto_region 1 with fail
  (refine region_drew (by kernel_rfl) (by kernel_rfl) ?_; (repeat (go_big_quiet_step (fail))); refine wpQuiet_nil ?_; rintro _ ⟨nq, rfl⟩)
  have HXN : Hid (Ext w (w.drewN nq)) := Lib.hid ((Ext.refl w).drewN nq)
  generalize w.drewN nq = wn at HXN ⊢
  go_wp2
  go_loopw [25] (fun i wr => ∃ (k : Nat) (t : NT), k ≤ 3 ∧ i = .int .i64 (k : Int) ∧ t.length + (rowsP s k).length ≤ 90000 ∧ Hid (Kb [M] w wr ∧ CK W0 y X M (ntL t) c0 wr) ∧ Hid (R = putN t (rowsP s k))) (fun i _ => 3 - (intOf i).toNat)
  case atStart => exact ⟨0, [], by omega, rfl, by have := HS.out.2.2; simpa [rowsP] using this, Lib.hid ⟨Kb.of_ext HXN.out, HCK.out.1.next HXN.out⟩, Lib.hid (by rw [HR.out]; rfl)⟩
  case round =>
    obtain ⟨k, t, hk, rfl, htl, HC, HRR⟩ := hrel
    by_cases hlt : k < 3
    · have hki : (k : Int) < 3 := by omega
      have hkl : ∃ pk ck, (∀ w1, Sem.run Try.prog (Instr.index 65 (.agg #[.slice p1 n1 c1, .slice p2 n2 c2, .slice p3 n3 c3]) (.int .i64 (k : Int))) w1 = .ok (.slice pk (listP s k).length ck) w1) ∧ VIn W0 (.slice pk (listP s k).length ck) (listP s k) ∧ (listP s k).length ≤ ck ∧ ck ≤ maxLen ∧ ∀ v ∈ listP s k, v.name.size ≤ maxLen ∧ I64 v.kind := by
        have hN := HN.out
        have hi := fun w1 => index3s (.slice p1 n1 c1) (.slice p2 n2 c2) (.slice p3 n3 c3) w1
        have hsv := HS.out.1
        rw [HY.out] at hsv
        rcases (show k = 0 ∨ k = 1 ∨ k = 2 by omega) with rfl | rfl | rfl
        · obtain ⟨a, b, e1, h1, h2⟩ := hsv.ins.slice
          simp only [Value.slice.injEq] at e1
          refine ⟨p1, c1, fun w1 => ?_, hsv.ins, by rw [e1.2.2]; exact h1, by rw [e1.2.2]; exact h2, HS.out.2.1.ins⟩
          rw [show (listP s 0).length = n1 from hN.1.symm]
          exact (hi w1).1
        · obtain ⟨a, b, e1, h1, h2⟩ := hsv.outs.slice
          simp only [Value.slice.injEq] at e1
          refine ⟨p2, c2, fun w1 => ?_, hsv.outs, by rw [e1.2.2]; exact h1, by rw [e1.2.2]; exact h2, HS.out.2.1.outs⟩
          rw [show (listP s 1).length = n2 from hN.2.1.symm]
          exact (hi w1).2.1
        · obtain ⟨a, b, e1, h1, h2⟩ := hsv.vars.slice
          simp only [Value.slice.injEq] at e1
          refine ⟨p3, c3, fun w1 => ?_, hsv.vars, by rw [e1.2.2]; exact h1, by rw [e1.2.2]; exact h2, HS.out.2.1.vars⟩
          rw [show (listP s 2).length = n3 from hN.2.2.1.symm]
          exact (hi w1).2.2
      obtain ⟨pk, ck, hidx, hvin, hle, hcm, hnm⟩ := hkl
      obtain ⟨nk, hnk⟩ : ∃ n, n = (listP s k).length := ⟨_, rfl⟩
      rw [← hnk] at hidx hvin hle
      have hcI : (ck : Int) ≤ 9223372036854775807 := by unfold maxLen at hcm; omega
      have hRk : Hid (R = putN t (((listP s k).map fun v => (v.name, v.kind, 1 + (k : Int))) ++ rowsP s (k + 1))) := Lib.hid (by rw [HRR.out, rowsP_step s hlt])
      have hlk : t.length + nk + (rowsP s (k + 1)).length ≤ 90000 := by
        have := congrArg List.length (rowsP_step s hlt)
        rw [List.length_append, List.length_map, ← hnk] at this
        omega
      have HV := Lib.hid (And.intro hvin (And.intro hnm hnk))
      clear hvin hnm hnk hcm htl HRR
      go_wp2
      go_loopw [31] (fun i wr => ∃ (j : Nat) (t2 : NT), j ≤ nk ∧ i = .int .i64 (j : Int) ∧ t2.length + (nk - j) + (rowsP s (k + 1)).length ≤ 90000 ∧ Hid (Kb [M] w wr ∧ CK W0 y X M (ntL t2) c0 wr) ∧ Hid (R = putN t2 ((((listP s k).drop j).map fun v => (v.name, v.kind, 1 + (k : Int))) ++ rowsP s (k + 1)))) (fun i _ => nk - (intOf i).toNat)
      case atStart => exact ⟨0, t, Nat.zero_le _, rfl, by omega, HC, Lib.hid (by rw [hRk.out]; rfl)⟩
      case round =>
        obtain ⟨j, t2, hj, rfl, htl, HC2, HR2⟩ := hrel
        by_cases hlt2 : j < nk
        · have hkj : (j : Int) < (nk : Int) := Int.ofNat_lt.2 hlt2
          obtain ⟨v, hv⟩ : ∃ v, (listP s k)[j]? = some v := ⟨_, List.getElem?_eq_getElem (by have := HV.out.2.2; omega)⟩
          have hxw := HC2.out.2.ext
          obtain ⟨b, o, pq, nq2, cq, rfl, q0, q1, q2, hbl⟩ := (HV.out.1.ext hxw).at hv
          obtain ⟨hsz, hkd⟩ := HV.out.2.1 v (List.mem_of_getElem? hv)
          have hjc : j < ck := by omega
          have hls : (listP s k).drop j = v :: (listP s k).drop (j + 1) := by
            obtain ⟨h1, h2⟩ := List.getElem?_eq_some_iff.1 hv
            rw [List.drop_eq_getElem_cons h1, h2]
          obtain ⟨r, hr⟩ : ∃ r, r = putOne t2 v.name v.kind (1 + (k : Int)) := ⟨_, rfl⟩
          have HX := Lib.hid (And.intro hls (And.intro hsz hr))
          have HF : Hid (∀ w1, Ext wr w1 → Calls Try.prog 28 #[.pointer (some ⟨X, 0, none⟩), .string v.name, .int .i64 v.kind, .int .i64 (1 + (k : Int))] w1 (RetN W0 y X M c0 r w1)) := Lib.hid (fun w1 hx1 => by
            rw [hr]
            exact put_any W0 y X M t2 c0 _ _ _ w1 (HC2.out.2.next hx1) hsz (by omega))
          have hY : Ext wr (wr.alloc (.cells #[.string v.name, .int .i64 v.kind, .slice pq nq2 cq] 32)) := (Ext.refl wr).alloc _
          have HYY := Lib.hid hY
          clear hv hxw hsz hkd hls hr hY
          rcases r with ⟨t3, ok⟩
          cases ok with
          | false =>
            go_wp2_with (first | (go_at_call 28; refine (HF.out _ HYY.out).mono ?_; rintro e1 w1 ⟨rfl, H1⟩) | fail)
            rw [HQ.out]
            have h1 := putOne_no (t := t2) (n := v.name) (k := v.kind) (i := 1 + (k : Int)) (by rw [← HX.out.2.2])
            have h2 := HX.out.2.2
            rw [h1] at h2
            have h3 : R = (t3, false) := by
              rw [HR2.out, HX.out.1, List.map_cons, List.cons_append, putN_no h1, h2]
            rw [h3]
            exact ⟨rfl, Lib.hid ⟨(HC2.out.1.trans (Kb.of_ext HYY.out)).trans H1.out.1, H1.out.2⟩⟩
          | true =>
            go_wp2_with (first | (go_at_call 28; refine (HF.out _ HYY.out).mono ?_; rintro e1 w1 ⟨rfl, H1⟩) | fail)
            have h1 := putN_yes (t := t2) (e := (v.name, v.kind, 1 + (k : Int))) (l := (((listP s k).drop (j + 1)).map fun v => (v.name, v.kind, 1 + (k : Int))) ++ rowsP s (k + 1)) (by rw [← HX.out.2.2])
            rw [← HX.out.2.2] at h1
            have h2 := h1.2
            simp only at h2
            refine ⟨⟨j + 1, t3, by omega, by go_num, by omega, Lib.hid ⟨(HC2.out.1.trans (Kb.of_ext HYY.out)).trans H1.out.1, H1.out.2⟩, Lib.hid ?_⟩, by simp [intOf]; omega⟩
            rw [HR2.out, HX.out.1, List.map_cons, List.cons_append, h1.1]
        · have hkj : ¬ (j : Int) < (nk : Int) := fun e => hlt2 (Int.ofNat_lt.1 e)
          obtain rfl : j = nk := by omega
          have h3 : R = putN t2 (rowsP s (k + 1)) := by
            rw [HR2.out, HV.out.2.2, List.drop_length]; rfl
          have H3 := Lib.hid h3
          clear h3
          go_wp2
          exact ⟨⟨k + 1, t2, by omega, by go_num, by omega, HC2, H3⟩, by simp [intOf]; omega⟩
    · have hki : ¬ (k : Int) < 3 := by omega
      obtain rfl : k = 3 := by omega
      have q3 := HC.out.2.box.cells 3 _ rfl
      have ql := HC.out.2.box.lt
      have hcv : y.cv = .slice p4 n4 c4 := by rw [HY.out, HN.out.2.2.2]
      rw [hcv] at q3
      have hcin := HS.out.1.cells
      rw [hcv] at hcin
      obtain ⟨a4, b4, e4, hd4, hc4⟩ := hcin.slice
      simp only [Value.slice.injEq] at e4
      have hcI : (c4 : Int) ≤ 9223372036854775807 := by rw [e4.2.2]; unfold maxLen at hc4; omega
      have hle : n4 ≤ c4 := by rw [e4.2.2, HN.out.2.2.2]; exact hd4
      have HV := Lib.hid hcin
      have hRk : Hid (R = putN t (s.cells.map fun c => (c.name, c.kind, 4))) := HRR
      have hlk : t.length + n4 ≤ 90000 := by
        have h1 := htl
        have h2 := HN.out.2.2.2
        simp only [rowsP, List.length_map] at h1
        omega
      clear hcv hcin e4 hd4 hc4 htl HRR
      go_wp2
      go_loopw [52] (fun i wr => ∃ (j : Nat) (t2 : NT), j ≤ n4 ∧ i = .int .i64 (j : Int) ∧ t2.length + (n4 - j) ≤ 90000 ∧ Hid (Kb [M] w wr ∧ CK W0 y X M (ntL t2) c0 wr) ∧ Hid (R = putN t2 ((s.cells.drop j).map fun c => (c.name, c.kind, 4)))) (fun i _ => n4 - (intOf i).toNat)
      case atStart => exact ⟨0, t, Nat.zero_le _, rfl, by omega, HC, Lib.hid (by rw [hRk.out]; rfl)⟩
      case round =>
        obtain ⟨j, t2, hj, rfl, htl, HC2, HR2⟩ := hrel
        by_cases hlt2 : j < n4
        · have hkj : (j : Int) < (n4 : Int) := Int.ofNat_lt.2 hlt2
          obtain ⟨v, hv⟩ : ∃ v, s.cells[j]? = some v := ⟨_, List.getElem?_eq_getElem (by have := HN.out.2.2.2; omega)⟩
          have hxw := HC2.out.2.ext
          obtain ⟨b, o, rfl, q0, q1, q2, hbl⟩ := (HV.out.ext hxw).at hv
          obtain ⟨hsz, hkd, -⟩ := HS.out.2.1.cells v (List.mem_of_getElem? hv)
          have hjc : j < c4 := by omega
          have hls : s.cells.drop j = v :: s.cells.drop (j + 1) := by
            obtain ⟨h1, h2⟩ := List.getElem?_eq_some_iff.1 hv
            rw [List.drop_eq_getElem_cons h1, h2]
          obtain ⟨r, hr⟩ : ∃ r, r = putOne t2 v.name v.kind 4 := ⟨_, rfl⟩
          have HX := Lib.hid (And.intro hls (And.intro hsz hr))
          have HF : Hid (∀ w1, Ext wr w1 → Calls Try.prog 28 #[.pointer (some ⟨X, 0, none⟩), .string v.name, .int .i64 v.kind, .int .i64 4] w1 (RetN W0 y X M c0 r w1)) := Lib.hid (fun w1 hx1 => by
            rw [hr]
            exact put_any W0 y X M t2 c0 _ _ _ w1 (HC2.out.2.next hx1) hsz (by omega))
          have hY : Ext wr (wr.alloc (.cells #[.string v.name, .int .i64 v.kind, .int .i64 v.init] 39)) := (Ext.refl wr).alloc _
          have HYY := Lib.hid hY
          clear hv hxw hsz hkd hls hr hY
          rcases r with ⟨t3, ok⟩
          cases ok with
          | false =>
            go_wp2_with (first | (go_at_call 28; refine (HF.out _ HYY.out).mono ?_; rintro e1 w1 ⟨rfl, H1⟩) | fail)
            rw [HQ.out]
            have h1 := putOne_no (t := t2) (n := v.name) (k := v.kind) (i := 4) (by rw [← HX.out.2.2])
            have h2 := HX.out.2.2
            rw [h1] at h2
            have h3 : R = (t3, false) := by
              rw [HR2.out, HX.out.1, List.map_cons, putN_no h1, h2]
            rw [h3]
            exact ⟨rfl, Lib.hid ⟨(HC2.out.1.trans (Kb.of_ext HYY.out)).trans H1.out.1, H1.out.2⟩⟩
          | true =>
            go_wp2_with (first | (go_at_call 28; refine (HF.out _ HYY.out).mono ?_; rintro e1 w1 ⟨rfl, H1⟩) | fail)
            have h1 := putN_yes (t := t2) (e := (v.name, v.kind, 4)) (l := (s.cells.drop (j + 1)).map fun c => (c.name, c.kind, 4)) (by rw [← HX.out.2.2])
            rw [← HX.out.2.2] at h1
            have h2 := h1.2
            simp only at h2
            refine ⟨⟨j + 1, t3, by omega, by go_num, by omega, Lib.hid ⟨(HC2.out.1.trans (Kb.of_ext HYY.out)).trans H1.out.1, H1.out.2⟩, Lib.hid ?_⟩, by simp [intOf]; omega⟩
            rw [HR2.out, HX.out.1, List.map_cons, h1.1]
        · have hkj : ¬ (j : Int) < (n4 : Int) := fun e => hlt2 (Int.ofNat_lt.1 e)
          obtain rfl : j = n4 := by omega
          have h3 : R = (t2, true) := by
            rw [HR2.out, HN.out.2.2.2, List.drop_length]; rfl
          have H3 := Lib.hid h3
          clear h3
          go_wp2
          rw [HQ.out, H3.out]
          exact ⟨rfl, HC2⟩
end Go.Proofs.Ytkjgghbdpmkmoaa

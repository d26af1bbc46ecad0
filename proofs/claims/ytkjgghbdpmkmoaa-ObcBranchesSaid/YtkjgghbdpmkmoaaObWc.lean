/-
  The walk: whether step code has its forms, whole.
  Condition: the step code and its checker lie in memory.
-/
import Derived.Test.YtkjgghbdpmkmoaaObWb
namespace Go.Proofs.Ytkjgghbdpmkmoaa
open Go.RowKit Go.Maps
set_option linter.unusedSimpArgs false
set_option linter.unusedVariables false
set_option maxRecDepth 100000

theorem exps_ask (p : CE → Bool) (l : List ST) : (goL (expStep (fun (_ : Unit) e => ((), p e))) l ()).2 = expsL p l := by
  have h : expStep (fun (_ : Unit) e => ((), p e)) = fun (_ : Unit) (x : ST) => ((), if x.form = 1 ∨ x.form = 2 ∨ x.form = 3 then partsE p x.e else true) := by
    funext a s
    unfold expStep
    by_cases hs : s.form = 1 ∨ s.form = 2 ∨ s.form = 3
    · rw [if_pos hs, if_pos hs]
      exact Prod.ext rfl (gpE_ask p s.e)
    · rw [if_neg hs, if_neg hs]
  rw [h, goL_ask]
  rfl
theorem Kb.toExt {w w' : World} (h : Kb [] w w') : Ext w w' := h.ext (Ext.refl w) (by simp)
theorem clo_form3 (W0 : World) : CloS W0 [] St0 form3 30 #[] where
  st := fun _ _ _ _ _ => trivial
  off := by simp
  lts := by simp
  enter := fun args w => by kernel_rfl
  call := fun _ w s x hx _ hs _ => (forms1_any w s x (SIn.ext hx s x hs))
theorem clo_formE (W0 : World) : CloP W0 [] St0 formE 32 #[] where
  st := fun _ _ _ _ _ => trivial
  off := by simp
  lts := by simp
  enter := fun args w => by kernel_rfl
  call := fun _ w e kv hx _ hk _ => (forms2_any w e kv (KIn.ext hx e kv hk))
set_option maxHeartbeats 8000000 in
theorem forms_any (W0 : World) (s : SP) (x : S5) (X M : Nat) (L : List (ByteArray × Value)) (c0 : Int) (w : World) (hs : SPIn W0 s x) (hok : okP s) (hck : CK W0 x X M L c0 w) :
    Calls Try.prog 17 #[.pointer (some ⟨X, 0, none⟩)] w (RetQ (formsS s) w) := by
  obtain ⟨R, hR⟩ : ∃ R, R = formsS s := ⟨_, rfl⟩
  rw [← hR]
  obtain ⟨Q, hQ⟩ : ∃ Q, Q = RetQ R w := ⟨_, rfl⟩
  rw [← hQ]
  have HQ := Lib.hid hQ
  have HR := Lib.hid hR
  have HS := Lib.hid (And.intro hs (And.intro hok hck))
  obtain ⟨iv, ov, vv, cv, bv⟩ := x
  obtain ⟨p4, c4, e4, hd4, hc4⟩ := hs.cells.slice
  obtain ⟨p5, c5, e5, -, -⟩ := hs.body.slice
  simp only at e4 e5
  subst e4 e5
  obtain ⟨y, hy⟩ : ∃ y : S5, y = ⟨iv, ov, vv, .slice p4 s.cells.length c4, .slice p5 s.body.length c5⟩ := ⟨_, rfl⟩
  rw [← hy] at HS hck hs
  have HY := Lib.hid hy
  obtain ⟨n4, h4⟩ : ∃ n, n = s.cells.length := ⟨_, rfl⟩
  obtain ⟨n5, h5⟩ : ∃ n, n = s.body.length := ⟨_, rfl⟩
  have HN := Lib.hid (And.intro h4 h5)
  have hbx : BoxV X [iv, ov, vv, .slice p4 n4 c4, .slice p5 n5 c5, .map (some M), .int .i64 c0] w := by
    have := hck.box
    rw [hy] at this
    rw [h4, h5]
    exact this
  have hcin : CIn W0 (.slice p4 n4 c4) s.cells := by
    have := hs.cells
    rw [hy] at this
    rw [h4]; exact this
  have hbin : BIn W0 (.slice p5 n5 c5) s.body := by
    have := hs.body
    rw [hy] at this
    rw [h5]; exact this
  rw [← h4] at hd4
  have hcI : (c4 : Int) ≤ 9223372036854775807 := by unfold maxLen at hc4; omega
  obtain ⟨b1, hb1⟩ : ∃ b, b = (goL form3 s.body ()).2 := ⟨_, rfl⟩
  obtain ⟨b2, hb2⟩ : ∃ b, b = (goL (expStep formE) s.body ()).2 := ⟨_, rfl⟩
  have HR2 : Hid (R = (b1 && b2 && s.cells.all fun c => isk c.kind c.init)) := Lib.hid (by
    have e1 : b1 = eachL (fun x => decide (x.form = 1 ∨ x.form = 2 ∨ x.form = 3)) s.body := by rw [hb1]; exact goL_ask _ _
    have e2 : b2 = expsL (fun e => decide (kidsN e.form = e.kids.length) && (decide (e.form ≠ 1) || isk e.kind e.n)) s.body := by rw [hb2]; exact exps_ask _ _
    rw [HR.out, e1, e2]; rfl)
  have HF1 : Hid (Calls Try.prog 23 #[.slice p5 n5 c5, .func (.func 30) #[] #[]] w (RetB [] St0 ((), b1) w)) := Lib.hid (by
    rw [hb1]
    exact each_any (clo_form3 W0) hck.ext trivial hbin hok.body)
  have HF2 : Hid (∀ w1, Ext w w1 → Calls Try.prog 31 #[.pointer (some ⟨X, 0, none⟩), .func (.func 32) #[] #[]] w1 (RetB [] St0 ((), b2) w1)) := Lib.hid (fun w1 hx1 => by
    rw [hb2]
    exact exps_any (clo_formE W0) hs hok (hck.next hx1) trivial)
  have g3 := hbx.cells 3 _ rfl
  have g4 := hbx.cells 4 _ rfl
  have gl := hbx.lt
  have HBX := Lib.hid (And.intro hbx hcin)
  clear hQ hR hs hok hck hy h4 h5 hbx hcin hbin hb1 hb2 hc4 HR
  cases b1 with
  | false =>
    go_enter Try.func17, Try.ntmps17
    go_upto_region 2 with (first | (go_at_call 23; refine HF1.out.mono ?_; rintro e1 w1 ⟨rfl, H1⟩) | fail)
    have HX1 : Hid (Ext w w1) := Lib.hid H1.out.1.toExt
    have HRR : Hid (R = (false && s.cells.all fun c => isk c.kind c.init)) := Lib.hid (by rw [HR2.out]; simp)
    have hbx1 := HBX.out.1.ext HX1.out
    have g3 := hbx1.cells 3 _ rfl
    have gl := hbx1.lt
    clear hbx1
    go_wp2
    go_loopw [3, 22] (fun v i wr => ∃ (j : Nat) (ok : Bool), j ≤ n4 ∧ i = .int .i64 (j : Int) ∧ v = .bool ok ∧ Hid (Ext w wr) ∧ Hid (R = (ok && (s.cells.drop j).all fun c => isk c.kind c.init))) (fun _ i _ => n4 - (intOf i).toNat)
    case atStart => exact ⟨0, _, Nat.zero_le _, rfl, rfl, HX1, Lib.hid (by rw [HRR.out]; rfl)⟩
    case round =>
      obtain ⟨j, ok, hj, rfl, rfl, HX, HRJ⟩ := hrel
      by_cases hlt : j < n4
      · have hki : (j : Int) < (n4 : Int) := Int.ofNat_lt.2 hlt
        obtain ⟨v, hv⟩ : ∃ v, s.cells[j]? = some v := ⟨_, List.getElem?_eq_getElem (by have := HN.out.1; omega)⟩
        have hcw := HBX.out.2.ext (HS.out.2.2.ext.trans HX.out)
        obtain ⟨b, o, rfl, q0, q1, q2, hbl⟩ := hcw.at hv
        have hjc : j < c4 := by omega
        have hls : (s.cells.drop j).all (fun c => isk c.kind c.init) = (isk v.kind v.init && (s.cells.drop (j + 1)).all fun c => isk c.kind c.init) := by
          obtain ⟨h1, h2⟩ := List.getElem?_eq_some_iff.1 hv
          rw [List.drop_eq_getElem_cons h1, h2, List.all_cons]
        have HLS := Lib.hid hls
        have HIS : Hid (∀ w1, Calls Try.prog 34 #[.int .i64 v.kind, .int .i64 v.init] w1 fun e w' => e = .returned (.bool (isk v.kind v.init)) ∧ w1 = w') := Lib.hid (fun w1 => bvIs_any v.kind v.init w1)
        obtain ⟨ik, hik⟩ : ∃ z, z = isk v.kind v.init := ⟨_, rfl⟩
        rw [← hik] at HIS HLS
        have HXA : Hid (Ext w (wr.alloc (.cells #[.string v.name, .int .i64 v.kind, .int .i64 v.init] 39))) := Lib.hid (HX.out.alloc _)
        clear hv hcw hls hik
        cases ok
        all_goals
          go_wp2_with (first | (go_at_call 34; refine (HIS.out _).mono ?_; rintro e1 w2 ⟨rfl, rfl⟩) | fail)
          refine ⟨⟨j + 1, _, by omega, by go_num, rfl, HXA, Lib.hid (by rw [HRJ.out, HLS.out]; simp)⟩, by simp [intOf]; omega⟩
      · have hki : ¬ (j : Int) < (n4 : Int) := fun e => hlt (Int.ofNat_lt.1 e)
        obtain rfl : j = n4 := by omega
        go_wp2
        have h1 : R = ok := by rw [HRJ.out, HN.out.1, List.drop_length]; simp
        rw [HQ.out, h1]
        exact ⟨rfl, HX⟩
  | true =>
    cases b2 with
    | false =>
      go_enter Try.func17, Try.ntmps17
      go_upto_region 2 with (first | (go_at_call 23; refine HF1.out.mono ?_; rintro e1 w0 ⟨rfl, H0⟩; have g3 := H0.out.1.toExt.cell g3; have gl := Nat.lt_of_lt_of_le gl H0.out.1.size) | (go_at_call 31; refine (HF2.out _ H0.out.1.toExt).mono ?_; rintro e2 w1 ⟨rfl, H1⟩) | fail)
      have HX1 : Hid (Ext w w1) := Lib.hid (H0.out.1.toExt.trans H1.out.1.toExt)
      have HRR : Hid (R = (false && s.cells.all fun c => isk c.kind c.init)) := Lib.hid (by rw [HR2.out]; simp)
      have hbx1 := HBX.out.1.ext HX1.out
      have g3 := hbx1.cells 3 _ rfl
      have gl := hbx1.lt
      clear hbx1
      go_wp2
      go_loopw [3, 22] (fun v i wr => ∃ (j : Nat) (ok : Bool), j ≤ n4 ∧ i = .int .i64 (j : Int) ∧ v = .bool ok ∧ Hid (Ext w wr) ∧ Hid (R = (ok && (s.cells.drop j).all fun c => isk c.kind c.init))) (fun _ i _ => n4 - (intOf i).toNat)
      case atStart => exact ⟨0, _, Nat.zero_le _, rfl, rfl, HX1, Lib.hid (by rw [HRR.out]; rfl)⟩
      case round =>
        obtain ⟨j, ok, hj, rfl, rfl, HX, HRJ⟩ := hrel
        by_cases hlt : j < n4
        · have hki : (j : Int) < (n4 : Int) := Int.ofNat_lt.2 hlt
          obtain ⟨v, hv⟩ : ∃ v, s.cells[j]? = some v := ⟨_, List.getElem?_eq_getElem (by have := HN.out.1; omega)⟩
          have hcw := HBX.out.2.ext (HS.out.2.2.ext.trans HX.out)
          obtain ⟨b, o, rfl, q0, q1, q2, hbl⟩ := hcw.at hv
          have hjc : j < c4 := by omega
          have hls : (s.cells.drop j).all (fun c => isk c.kind c.init) = (isk v.kind v.init && (s.cells.drop (j + 1)).all fun c => isk c.kind c.init) := by
            obtain ⟨h1, h2⟩ := List.getElem?_eq_some_iff.1 hv
            rw [List.drop_eq_getElem_cons h1, h2, List.all_cons]
          have HLS := Lib.hid hls
          have HIS : Hid (∀ w1, Calls Try.prog 34 #[.int .i64 v.kind, .int .i64 v.init] w1 fun e w' => e = .returned (.bool (isk v.kind v.init)) ∧ w1 = w') := Lib.hid (fun w1 => bvIs_any v.kind v.init w1)
          obtain ⟨ik, hik⟩ : ∃ z, z = isk v.kind v.init := ⟨_, rfl⟩
          rw [← hik] at HIS HLS
          have HXA : Hid (Ext w (wr.alloc (.cells #[.string v.name, .int .i64 v.kind, .int .i64 v.init] 39))) := Lib.hid (HX.out.alloc _)
          clear hv hcw hls hik
          cases ok
          all_goals
            go_wp2_with (first | (go_at_call 34; refine (HIS.out _).mono ?_; rintro e1 w2 ⟨rfl, rfl⟩) | fail)
            refine ⟨⟨j + 1, _, by omega, by go_num, rfl, HXA, Lib.hid (by rw [HRJ.out, HLS.out]; simp)⟩, by simp [intOf]; omega⟩
        · have hki : ¬ (j : Int) < (n4 : Int) := fun e => hlt (Int.ofNat_lt.1 e)
          obtain rfl : j = n4 := by omega
          go_wp2
          have h1 : R = ok := by rw [HRJ.out, HN.out.1, List.drop_length]; simp
          rw [HQ.out, h1]
          exact ⟨rfl, HX⟩
    | true =>
      go_enter Try.func17, Try.ntmps17
      go_upto_region 2 with (first | (go_at_call 23; refine HF1.out.mono ?_; rintro e1 w0 ⟨rfl, H0⟩; have g3 := H0.out.1.toExt.cell g3; have gl := Nat.lt_of_lt_of_le gl H0.out.1.size) | (go_at_call 31; refine (HF2.out _ H0.out.1.toExt).mono ?_; rintro e2 w1 ⟨rfl, H1⟩) | fail)
      have HX1 : Hid (Ext w w1) := Lib.hid (H0.out.1.toExt.trans H1.out.1.toExt)
      have HRR : Hid (R = (true && s.cells.all fun c => isk c.kind c.init)) := Lib.hid (by rw [HR2.out]; simp)
      have hbx1 := HBX.out.1.ext HX1.out
      have g3 := hbx1.cells 3 _ rfl
      have gl := hbx1.lt
      clear hbx1
      go_wp2
      go_loopw [3, 22] (fun v i wr => ∃ (j : Nat) (ok : Bool), j ≤ n4 ∧ i = .int .i64 (j : Int) ∧ v = .bool ok ∧ Hid (Ext w wr) ∧ Hid (R = (ok && (s.cells.drop j).all fun c => isk c.kind c.init))) (fun _ i _ => n4 - (intOf i).toNat)
      case atStart => exact ⟨0, _, Nat.zero_le _, rfl, rfl, HX1, Lib.hid (by rw [HRR.out]; rfl)⟩
      case round =>
        obtain ⟨j, ok, hj, rfl, rfl, HX, HRJ⟩ := hrel
        by_cases hlt : j < n4
        · have hki : (j : Int) < (n4 : Int) := Int.ofNat_lt.2 hlt
          obtain ⟨v, hv⟩ : ∃ v, s.cells[j]? = some v := ⟨_, List.getElem?_eq_getElem (by have := HN.out.1; omega)⟩
          have hcw := HBX.out.2.ext (HS.out.2.2.ext.trans HX.out)
          obtain ⟨b, o, rfl, q0, q1, q2, hbl⟩ := hcw.at hv
          have hjc : j < c4 := by omega
          have hls : (s.cells.drop j).all (fun c => isk c.kind c.init) = (isk v.kind v.init && (s.cells.drop (j + 1)).all fun c => isk c.kind c.init) := by
            obtain ⟨h1, h2⟩ := List.getElem?_eq_some_iff.1 hv
            rw [List.drop_eq_getElem_cons h1, h2, List.all_cons]
          have HLS := Lib.hid hls
          have HIS : Hid (∀ w1, Calls Try.prog 34 #[.int .i64 v.kind, .int .i64 v.init] w1 fun e w' => e = .returned (.bool (isk v.kind v.init)) ∧ w1 = w') := Lib.hid (fun w1 => bvIs_any v.kind v.init w1)
          obtain ⟨ik, hik⟩ : ∃ z, z = isk v.kind v.init := ⟨_, rfl⟩
          rw [← hik] at HIS HLS
          have HXA : Hid (Ext w (wr.alloc (.cells #[.string v.name, .int .i64 v.kind, .int .i64 v.init] 39))) := Lib.hid (HX.out.alloc _)
          clear hv hcw hls hik
          cases ok
          all_goals
            go_wp2_with (first | (go_at_call 34; refine (HIS.out _).mono ?_; rintro e1 w2 ⟨rfl, rfl⟩) | fail)
            refine ⟨⟨j + 1, _, by omega, by go_num, rfl, HXA, Lib.hid (by rw [HRJ.out, HLS.out]; simp)⟩, by simp [intOf]; omega⟩
        · have hki : ¬ (j : Int) < (n4 : Int) := fun e => hlt (Int.ofNat_lt.1 e)
          obtain rfl : j = n4 := by omega
          go_wp2
          have h1 : R = ok := by rw [HRJ.out, HN.out.1, List.drop_length]; simp
          rw [HQ.out, h1]
          exact ⟨rfl, HX⟩
end Go.Proofs.Ytkjgghbdpmkmoaa

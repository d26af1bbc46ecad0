/-
  The maker's walks: and, or, exclusive-or, choice.
  Condition: the maker lies in memory.
  The maker's walks: lists of wires.
  Condition: the maker and the lists lie in memory.
-/
import Derived.Test.YtdjnekcpeaadhaaGreatJtC
namespace Go.Proofs.YtdjnekcpeaadhaaGreat
open Go.RowKit Go.Maps
set_option linter.unusedSimpArgs false
set_option linter.unusedVariables false
set_option maxRecDepth 100000

theorem zeroE (w : World) : (zeroValue 3).run Tryz.prog w = .ok (.int .i64 0) w := by kernel_rfl
/-- What the map tells at a pair. -/
theorem look_run {W w : World} {N M : Nat} {gv : Value} {s : BSt} (h : GB W N M gv s w) {a b : Nat} (ha : WB a) (hb : WB b) : ∃ c : Int, (∀ w', Ext w w' → (Instr.lookup 55 (.map (some M)) (.agg #[.int .i64 (a : Int), .int .i64 (b : Int)]) true).run Tryz.prog w' = .ok (.tuple #[.int .i64 c, .bool (look s.seen a b).isSome]) w') ∧ ∀ v, look s.seen a b = some v → c = (v : Int) := by
  obtain ⟨D, k, h1, h2, h3⟩ := h.map
  have hk : keyOf Tryz.prog 100 (.agg #[.int .i64 (a : Int), .int .i64 (b : Int)]) = some (pairK a b) := pairKey ha hb
  obtain ⟨h4, h5⟩ := h3.2 a b ha hb
  have hM := h.mlt
  have key : ∀ w', Ext w w' → ∃ c : Int, (Instr.lookup 55 (.map (some M)) (.agg #[.int .i64 (a : Int), .int .i64 (b : Int)]) true).run Tryz.prog w' = .ok (.tuple #[.int .i64 c, .bool (look s.seen a b).isSome]) w' ∧ D.atKey (pairK a b) (.lit (.int .i64 0)) = .lit (.int .i64 c) := fun w' hx => by
    have hm' : w'.ownsMap Tryz.prog 100 (plainElem Tryz.prog 3) M k D := ownsMap_ext h2 (Below.block hx M hM)
    obtain ⟨v, ps, hrun, hv⟩ := hm'.look_ok pairLaw Tryz.underlying55 (zeroE w') (zd := .lit (.int .i64 0)) (zp := []) (plainElem_int Tryz.underlying3 (by decide)) hk
    obtain ⟨c, rfl, hc, hwc⟩ := plainElem_int_inv Tryz.underlying3 hv
    rw [h4] at hrun
    exact ⟨c, hrun, congrArg Prod.fst hc⟩
  obtain ⟨c, -, hc⟩ := key w (Ext.refl w)
  refine ⟨c, fun w' hx => ?_, fun v hv => ?_⟩
  · obtain ⟨c', h6, h7⟩ := key w' hx
    have : c = c' := by
      have := hc.symm.trans h7
      simpa using this
    rw [this]; exact h6
  · have := hc.symm.trans (h5 v hv)
    simpa using this
theorem GB.seenPut {W w : World} {N M : Nat} {gv : Value} {s : BSt} (h : GB W N M gv s w) {a b v : Nat} (ha : WB a) (hb : WB b) (hw : BWf { s with seen := ((a, b), v) :: s.seen }) :
    ∃ w', (Instr.mapUpdate 55 (.map (some M)) (.agg #[.int .i64 (a : Int), .int .i64 (b : Int)]) (.int .i64 (v : Int))).run Tryz.prog w = .ok () w' ∧ GB W N M gv { s with seen := ((a, b), v) :: s.seen } w' ∧ Stp N M gv gv w w' := by
  obtain ⟨D, k, h1, h2, h3⟩ := h.map
  have hv : WB v := hw.seen ((a, b), v) (by simp)
  have hsl := seen_len h.wf
  obtain ⟨w', hrun, hm, hg⟩ := h2.update pairLaw Tryz.underlying55 (by unfold maxLen; omega) (pairKey ha hb) (plainElem_int Tryz.underlying3 (wf_nat hv))
  have hk : Kb [M] w w' := Kb.grown hg (fun g hg => by simp at hg; simp [hg])
  refine ⟨w', hrun, { ext := hk.ext h.ext (fun k hk => by simp at hk; rw [hk]; exact h.ns.2), box := h.box.kb hk (by simpa using h.nm), row := hk.row h.row (fun b hb e => by simp at hb; exact (h.gn b e).2 hb), map := ⟨_, k + 1, by simp; omega, hm, h3.put ha hb⟩, ns := h.ns, nm := h.nm, gn := h.gn, wf := hw }, ⟨hk.mono (fun k hk => by simp at hk; simp [Bs, hk]), fun _ h => .inl h⟩⟩
set_option maxHeartbeats 8000000 in
theorem and_any (W w : World) (N M : Nat) (gv : Value) (s : BSt) (a b : Nat) (h : GB W N M gv s w) (ha : WB a) (hb : WB b) :
    Calls Tryz.prog 87 #[.pointer (some ⟨N, 0, none⟩), .int .i64 (a : Int), .int .i64 (b : Int)] w (RetW W N M gv (andF s a b) w) := by
  obtain ⟨r, hr⟩ : ∃ r, r = andF s a b := ⟨_, rfl⟩
  rw [← hr]
  obtain ⟨Q, hQ⟩ : ∃ Q, Q = RetW W N M gv r w := ⟨_, rfl⟩
  rw [← hQ]
  have HQ := Lib.hid hQ
  have H := Lib.hid h
  have p2 := h.box.cells 2 _ rfl
  have p3 := h.box.cells 3 _ rfl
  have hlN := h.box.lt
  clear hQ h
  by_cases hab : b < a
  · have hxy :  (b : Int) < (a : Int) := by omega
    obtain ⟨x, hx⟩ : ∃ x, x = b := ⟨_, rfl⟩
    obtain ⟨y, hy⟩ : ∃ y, y = a := ⟨_, rfl⟩
    have hrx : r = andO s x y := by rw [hr, hx, hy]; unfold andF; rw [if_pos hab]
    have hbx : WB x := by rw [hx]; assumption
    have hby : WB y := by rw [hy]; assumption
    rw [← hx, ← hy] at hxy ⊢
    have fy := bits_flip y hby
    have HX := Lib.hid (And.intro hrx (And.intro hbx (And.intro hby H.out)))
    clear hr hx hy hrx ha hb hbx hby hab
    by_cases h1 : x = y
    · have HR : Hid (r = (s, x)) := Lib.hid (by rw [HX.out.1]; unfold andO; rw [if_pos h1])
      subst h1
      go_enter Tryz.func87, Tryz.ntmps87
      go_wp2
      rw [HQ.out, HR.out]
      exact ⟨rfl, gv, H.out, Stp.refl _ _ _ _⟩
    have g1 : ((x : Int) == (y : Int)) = false := beq_eq_false_iff_ne.2 (by omega)
    by_cases h2 : x = flip y
    · have HR : Hid (r = zeroF s) := Lib.hid (by rw [HX.out.1]; unfold andO; rw [if_neg h1, if_pos h2])
      have g2 : ((x : Int) == ((flip y : Nat) : Int)) = true := by rw [h2]; simp
      have HZ := Lib.hid (zero_any W w N M gv s H.out)
      rw [← HR.out] at HZ
      clear h1 h2
      go_enter Tryz.func87, Tryz.ntmps87
      go_wp2_with (go_at_call 83; refine HZ.out.mono ?_; rintro e w1 ⟨rfl, gv1, hB1, hS1⟩; have HP := Lib.hid (And.intro hB1 hS1); clear hB1 hS1)
      rw [HQ.out]
      exact ⟨rfl, gv1, HP.out⟩
    have g2 : ((x : Int) == ((flip y : Nat) : Int)) = false := beq_eq_false_iff_ne.2 (fun e => h2 (by omega))
    cases hz : s.zero with
    | none =>
      rw [hz] at p3
      replace p3 : w.cell? ⟨N, 3, none⟩ = some (.int .i64 (-1)) := p3
      have HR : Hid (r = andS s x y) := Lib.hid (by rw [HX.out.1]; unfold andO; rw [if_neg h1, if_neg h2, hz])
      obtain ⟨c, hlk, hlv⟩ := look_run HX.out.2.2.2 HX.out.2.1 HX.out.2.2.1
      have hE1 : Ext w (w.alloc (.cells #[.int .i64 (x : Int), .int .i64 (y : Int)] 100)) := (Ext.refl w).alloc _
      have hK1 := BoxV.of_row (heap_alloc_last w (.cells #[.int .i64 (x : Int), .int .i64 (y : Int)] 100))
      have HK := Lib.hid (And.intro hE1 (And.intro hlk hlv))
      clear hE1 hlk hlv
      have HZ12 := Lib.hid (And.intro h1 h2)
      clear h1 h2 hz
      go_enter Tryz.func87, Tryz.ntmps87
      go_upto_region 14 with fail
      obtain ⟨X, hXd⟩ : ∃ X, X = w.heap.size := ⟨_, rfl⟩
      rw [← hXd] at hK1 ⊢
      have HXd := Lib.hid hXd
      have q2 := HK.out.1.cell p2
      generalize w.alloc (.cells #[.int .i64 (x : Int), .int .i64 (y : Int)] 100) = w1 at hK1 HK q2 ⊢
      have k0 := hK1.cells 0 _ rfl
      have k1 := hK1.cells 1 _ rfl
      have hlX := hK1.lt
      have hlN1 : N < w1.heap.size := Nat.lt_of_lt_of_le hlN HK.out.1.size
      clear hXd hK1 p2 p3 hlN
      cases hsome : look s.seen x y with
      | some v =>
        obtain rfl : c = (v : Int) := HK.out.2.2 v hsome
        have hlk := fun w' hx => HK.out.2.1 w' hx
        rw [hsome] at hlk
        have hl1 := hlk w1 HK.out.1
        have hl2 := hlk w1.drew HK.out.1.drew
        have HRR : Hid (r = (s, v)) := Lib.hid (by rw [HR.out]; unfold andS; rw [hsome])
        clear hlk hsome
        go_region
        go_wp2
        rw [HQ.out, HRR.out]
        exact ⟨rfl, gv, H.out.next HK.out.1.drew, Stp.of_ext HK.out.1.drew⟩
      | none =>
        have hlk := fun w' hx => HK.out.2.1 w' hx
        rw [hsome] at hlk
        have hl1 := hlk w1 HK.out.1
        have hl2 := hlk w1.drew HK.out.1.drew
        obtain ⟨q, hq⟩ : ∃ q, q = gateF s ⟨3, x, y⟩ := ⟨_, rfl⟩
        have HRR : Hid (r = ({ q.1 with seen := ((x, y), q.2) :: q.1.seen }, q.2) ∧ BWf r.1) := Lib.hid (by
          have e : r = ({ q.1 with seen := ((x, y), q.2) :: q.1.seen }, q.2) := by rw [HR.out]; unfold andS; rw [hsome, hq, (gateF_seen s ⟨3, x, y⟩).1]
          exact ⟨e, by rw [HR.out]; exact (andS_wf H.out.wf HX.out.2.1 HX.out.2.2.1).1⟩)
        have HG : Hid (∀ w', GB W N M gv s w' → Calls Tryz.prog 44 #[.pointer (some ⟨N, 0, none⟩), .agg #[.int .i64 3, .int .i64 (x : Int), .int .i64 (y : Int)]] w' (RetW W N M gv q w')) := Lib.hid (fun w' hB => by rw [hq]; exact gate_any W w' N M gv s ⟨3, x, y⟩ hB ⟨by simp, by simp, HX.out.2.1, HX.out.2.2.1⟩)
        have hXn : X ∉ Bs N M gv := fun e => by have := H.out.lts X e; have := HXd.out; omega
        have HXn := Lib.hid hXn
        clear hlk hsome hq hXn
        go_region
        go_upto_region 18 with (go_at_call 44; refine (HG.out _ (H.out.next HK.out.1.drew)).mono ?_; rintro e w2 ⟨rfl, gv2, hB2, hS2⟩; have k0' := hS2.kb.cell HXn.out k0; have k1' := hS2.kb.cell HXn.out k1; have hlX' := Nat.lt_of_lt_of_le hlX hS2.kb.size; have H2 := Lib.hid (And.intro hB2 hS2); clear hB2 hS2 k0 k1 hlX q2 hlN1)
        have q2 := H2.out.1.box.cells 2 _ rfl
        have hlN2 := H2.out.1.box.lt
        obtain ⟨w3, hup, hB3, hS3⟩ := GB.seenPut (H2.out.1.next (Ext.refl w2).drew) (a := x) (b := y) (v := q.2) HX.out.2.1 HX.out.2.2.1 (by have h := HRR.out.2; rw [HRR.out.1] at h; exact h)
        have HF := Lib.hid (And.intro hB3 (((Stp.of_ext HK.out.1.drew).trans H2.out.2).trans ((Stp.of_ext (Ext.refl w2).drew).trans hS3)))
        clear hB3 hS3 H2
        go_region
        go_wp2
        rw [HQ.out, HRR.out.1]
        exact ⟨rfl, gv2, HF.out⟩
    | some z =>
      rw [hz] at p3
      replace p3 : w.cell? ⟨N, 3, none⟩ = some (.int .i64 (z : Int)) := p3
      have fz := bits_flip z (HX.out.2.2.2.wf.zero z hz)
      have g0 : (0 : Int) ≤ (z : Int) := by omega
      by_cases h3 : x = z
      · have HR : Hid (r = (s, z)) := Lib.hid (by rw [HX.out.1]; unfold andO; rw [if_neg h1, if_neg h2, hz]; exact if_pos (.inl h3))
        have g3 : ((x : Int) == (z : Int)) = true := by rw [h3]; simp
        clear hz h1 h2 p2 h3
        go_enter Tryz.func87, Tryz.ntmps87
        go_wp2
        rw [HQ.out, HR.out]
        exact ⟨rfl, gv, H.out, Stp.refl _ _ _ _⟩
      have g3 : ((x : Int) == (z : Int)) = false := beq_eq_false_iff_ne.2 (by omega)
      by_cases h4 : y = z
      · have HR : Hid (r = (s, z)) := Lib.hid (by rw [HX.out.1]; unfold andO; rw [if_neg h1, if_neg h2, hz]; exact if_pos (.inr h4))
        have g4 : ((y : Int) == (z : Int)) = true := by rw [h4]; simp
        clear hz h1 h2 p2 h3 h4
        go_enter Tryz.func87, Tryz.ntmps87
        go_wp2
        rw [HQ.out, HR.out]
        exact ⟨rfl, gv, H.out, Stp.refl _ _ _ _⟩
      have g4 : ((y : Int) == (z : Int)) = false := beq_eq_false_iff_ne.2 (by omega)
      have h34 : ¬ (x = z ∨ y = z) := fun e => e.elim h3 h4
      by_cases h5 : x = flip z
      · have HR : Hid (r = (s, y)) := Lib.hid (by rw [HX.out.1]; unfold andO; rw [if_neg h1, if_neg h2, hz]; exact (if_neg h34).trans (if_pos h5))
        have g5 : ((x : Int) == ((flip z : Nat) : Int)) = true := by rw [h5]; simp
        clear hz h1 h2 p2 h3 h4 h5 h34
        go_enter Tryz.func87, Tryz.ntmps87
        go_wp2
        rw [HQ.out, HR.out]
        exact ⟨rfl, gv, H.out, Stp.refl _ _ _ _⟩
      have g5 : ((x : Int) == ((flip z : Nat) : Int)) = false := beq_eq_false_iff_ne.2 (fun e => h5 (by omega))
      by_cases h6 : y = flip z
      · have HR : Hid (r = (s, x)) := Lib.hid (by rw [HX.out.1]; unfold andO; rw [if_neg h1, if_neg h2, hz]; exact (if_neg h34).trans ((if_neg h5).trans (if_pos h6)))
        have g6 : ((y : Int) == ((flip z : Nat) : Int)) = true := by rw [h6]; simp
        clear hz h1 h2 p2 h3 h4 h5 h34 h6
        go_enter Tryz.func87, Tryz.ntmps87
        go_wp2
        rw [HQ.out, HR.out]
        exact ⟨rfl, gv, H.out, Stp.refl _ _ _ _⟩
      have g6 : ((y : Int) == ((flip z : Nat) : Int)) = false := beq_eq_false_iff_ne.2 (fun e => h6 (by omega))
      have HR : Hid (r = andS s x y) := Lib.hid (by rw [HX.out.1]; unfold andO; rw [if_neg h1, if_neg h2, hz]; exact (if_neg h34).trans ((if_neg h5).trans (if_neg h6)))
      obtain ⟨c, hlk, hlv⟩ := look_run HX.out.2.2.2 HX.out.2.1 HX.out.2.2.1
      have hE1 : Ext w (w.alloc (.cells #[.int .i64 (x : Int), .int .i64 (y : Int)] 100)) := (Ext.refl w).alloc _
      have hK1 := BoxV.of_row (heap_alloc_last w (.cells #[.int .i64 (x : Int), .int .i64 (y : Int)] 100))
      have HK := Lib.hid (And.intro hE1 (And.intro hlk hlv))
      clear hE1 hlk hlv
      have HZ12 := Lib.hid (And.intro h1 h2)
      clear h1 h2 hz h3 h4 h5 h6 h34
      go_enter Tryz.func87, Tryz.ntmps87
      go_upto_region 14 with fail
      obtain ⟨X, hXd⟩ : ∃ X, X = w.heap.size := ⟨_, rfl⟩
      rw [← hXd] at hK1 ⊢
      have HXd := Lib.hid hXd
      have q2 := HK.out.1.cell p2
      generalize w.alloc (.cells #[.int .i64 (x : Int), .int .i64 (y : Int)] 100) = w1 at hK1 HK q2 ⊢
      have k0 := hK1.cells 0 _ rfl
      have k1 := hK1.cells 1 _ rfl
      have hlX := hK1.lt
      have hlN1 : N < w1.heap.size := Nat.lt_of_lt_of_le hlN HK.out.1.size
      clear hXd hK1 p2 p3 hlN
      cases hsome : look s.seen x y with
      | some v =>
        obtain rfl : c = (v : Int) := HK.out.2.2 v hsome
        have hlk := fun w' hx => HK.out.2.1 w' hx
        rw [hsome] at hlk
        have hl1 := hlk w1 HK.out.1
        have hl2 := hlk w1.drew HK.out.1.drew
        have HRR : Hid (r = (s, v)) := Lib.hid (by rw [HR.out]; unfold andS; rw [hsome])
        clear hlk hsome
        go_region
        go_wp2
        rw [HQ.out, HRR.out]
        exact ⟨rfl, gv, H.out.next HK.out.1.drew, Stp.of_ext HK.out.1.drew⟩
      | none =>
        have hlk := fun w' hx => HK.out.2.1 w' hx
        rw [hsome] at hlk
        have hl1 := hlk w1 HK.out.1
        have hl2 := hlk w1.drew HK.out.1.drew
        obtain ⟨q, hq⟩ : ∃ q, q = gateF s ⟨3, x, y⟩ := ⟨_, rfl⟩
        have HRR : Hid (r = ({ q.1 with seen := ((x, y), q.2) :: q.1.seen }, q.2) ∧ BWf r.1) := Lib.hid (by
          have e : r = ({ q.1 with seen := ((x, y), q.2) :: q.1.seen }, q.2) := by rw [HR.out]; unfold andS; rw [hsome, hq, (gateF_seen s ⟨3, x, y⟩).1]
          exact ⟨e, by rw [HR.out]; exact (andS_wf H.out.wf HX.out.2.1 HX.out.2.2.1).1⟩)
        have HG : Hid (∀ w', GB W N M gv s w' → Calls Tryz.prog 44 #[.pointer (some ⟨N, 0, none⟩), .agg #[.int .i64 3, .int .i64 (x : Int), .int .i64 (y : Int)]] w' (RetW W N M gv q w')) := Lib.hid (fun w' hB => by rw [hq]; exact gate_any W w' N M gv s ⟨3, x, y⟩ hB ⟨by simp, by simp, HX.out.2.1, HX.out.2.2.1⟩)
        have hXn : X ∉ Bs N M gv := fun e => by have := H.out.lts X e; have := HXd.out; omega
        have HXn := Lib.hid hXn
        clear hlk hsome hq hXn
        go_region
        go_upto_region 18 with (go_at_call 44; refine (HG.out _ (H.out.next HK.out.1.drew)).mono ?_; rintro e w2 ⟨rfl, gv2, hB2, hS2⟩; have k0' := hS2.kb.cell HXn.out k0; have k1' := hS2.kb.cell HXn.out k1; have hlX' := Nat.lt_of_lt_of_le hlX hS2.kb.size; have H2 := Lib.hid (And.intro hB2 hS2); clear hB2 hS2 k0 k1 hlX q2 hlN1)
        have q2 := H2.out.1.box.cells 2 _ rfl
        have hlN2 := H2.out.1.box.lt
        obtain ⟨w3, hup, hB3, hS3⟩ := GB.seenPut (H2.out.1.next (Ext.refl w2).drew) (a := x) (b := y) (v := q.2) HX.out.2.1 HX.out.2.2.1 (by have h := HRR.out.2; rw [HRR.out.1] at h; exact h)
        have HF := Lib.hid (And.intro hB3 (((Stp.of_ext HK.out.1.drew).trans H2.out.2).trans ((Stp.of_ext (Ext.refl w2).drew).trans hS3)))
        clear hB3 hS3 H2
        go_region
        go_wp2
        rw [HQ.out, HRR.out.1]
        exact ⟨rfl, gv2, HF.out⟩
  · have hxy : ¬ (b : Int) < (a : Int) := by omega
    obtain ⟨x, hx⟩ : ∃ x, x = a := ⟨_, rfl⟩
    obtain ⟨y, hy⟩ : ∃ y, y = b := ⟨_, rfl⟩
    have hrx : r = andO s x y := by rw [hr, hx, hy]; unfold andF; rw [if_neg hab]
    have hbx : WB x := by rw [hx]; assumption
    have hby : WB y := by rw [hy]; assumption
    rw [← hx, ← hy] at hxy ⊢
    have fy := bits_flip y hby
    have HX := Lib.hid (And.intro hrx (And.intro hbx (And.intro hby H.out)))
    clear hr hx hy hrx ha hb hbx hby hab
    by_cases h1 : x = y
    · have HR : Hid (r = (s, x)) := Lib.hid (by rw [HX.out.1]; unfold andO; rw [if_pos h1])
      subst h1
      go_enter Tryz.func87, Tryz.ntmps87
      go_wp2
      rw [HQ.out, HR.out]
      exact ⟨rfl, gv, H.out, Stp.refl _ _ _ _⟩
    have g1 : ((x : Int) == (y : Int)) = false := beq_eq_false_iff_ne.2 (by omega)
    by_cases h2 : x = flip y
    · have HR : Hid (r = zeroF s) := Lib.hid (by rw [HX.out.1]; unfold andO; rw [if_neg h1, if_pos h2])
      have g2 : ((x : Int) == ((flip y : Nat) : Int)) = true := by rw [h2]; simp
      have HZ := Lib.hid (zero_any W w N M gv s H.out)
      rw [← HR.out] at HZ
      clear h1 h2
      go_enter Tryz.func87, Tryz.ntmps87
      go_wp2_with (go_at_call 83; refine HZ.out.mono ?_; rintro e w1 ⟨rfl, gv1, hB1, hS1⟩; have HP := Lib.hid (And.intro hB1 hS1); clear hB1 hS1)
      rw [HQ.out]
      exact ⟨rfl, gv1, HP.out⟩
    have g2 : ((x : Int) == ((flip y : Nat) : Int)) = false := beq_eq_false_iff_ne.2 (fun e => h2 (by omega))
    cases hz : s.zero with
    | none =>
      rw [hz] at p3
      replace p3 : w.cell? ⟨N, 3, none⟩ = some (.int .i64 (-1)) := p3
      have HR : Hid (r = andS s x y) := Lib.hid (by rw [HX.out.1]; unfold andO; rw [if_neg h1, if_neg h2, hz])
      obtain ⟨c, hlk, hlv⟩ := look_run HX.out.2.2.2 HX.out.2.1 HX.out.2.2.1
      have hE1 : Ext w (w.alloc (.cells #[.int .i64 (x : Int), .int .i64 (y : Int)] 100)) := (Ext.refl w).alloc _
      have hK1 := BoxV.of_row (heap_alloc_last w (.cells #[.int .i64 (x : Int), .int .i64 (y : Int)] 100))
      have HK := Lib.hid (And.intro hE1 (And.intro hlk hlv))
      clear hE1 hlk hlv
      have HZ12 := Lib.hid (And.intro h1 h2)
      clear h1 h2 hz
      go_enter Tryz.func87, Tryz.ntmps87
      go_upto_region 14 with fail
      obtain ⟨X, hXd⟩ : ∃ X, X = w.heap.size := ⟨_, rfl⟩
      rw [← hXd] at hK1 ⊢
      have HXd := Lib.hid hXd
      have q2 := HK.out.1.cell p2
      generalize w.alloc (.cells #[.int .i64 (x : Int), .int .i64 (y : Int)] 100) = w1 at hK1 HK q2 ⊢
      have k0 := hK1.cells 0 _ rfl
      have k1 := hK1.cells 1 _ rfl
      have hlX := hK1.lt
      have hlN1 : N < w1.heap.size := Nat.lt_of_lt_of_le hlN HK.out.1.size
      clear hXd hK1 p2 p3 hlN
      cases hsome : look s.seen x y with
      | some v =>
        obtain rfl : c = (v : Int) := HK.out.2.2 v hsome
        have hlk := fun w' hx => HK.out.2.1 w' hx
        rw [hsome] at hlk
        have hl1 := hlk w1 HK.out.1
        have hl2 := hlk w1.drew HK.out.1.drew
        have HRR : Hid (r = (s, v)) := Lib.hid (by rw [HR.out]; unfold andS; rw [hsome])
        clear hlk hsome
        go_region
        go_wp2
        rw [HQ.out, HRR.out]
        exact ⟨rfl, gv, H.out.next HK.out.1.drew, Stp.of_ext HK.out.1.drew⟩
      | none =>
        have hlk := fun w' hx => HK.out.2.1 w' hx
        rw [hsome] at hlk
        have hl1 := hlk w1 HK.out.1
        have hl2 := hlk w1.drew HK.out.1.drew
        obtain ⟨q, hq⟩ : ∃ q, q = gateF s ⟨3, x, y⟩ := ⟨_, rfl⟩
        have HRR : Hid (r = ({ q.1 with seen := ((x, y), q.2) :: q.1.seen }, q.2) ∧ BWf r.1) := Lib.hid (by
          have e : r = ({ q.1 with seen := ((x, y), q.2) :: q.1.seen }, q.2) := by rw [HR.out]; unfold andS; rw [hsome, hq, (gateF_seen s ⟨3, x, y⟩).1]
          exact ⟨e, by rw [HR.out]; exact (andS_wf H.out.wf HX.out.2.1 HX.out.2.2.1).1⟩)
        have HG : Hid (∀ w', GB W N M gv s w' → Calls Tryz.prog 44 #[.pointer (some ⟨N, 0, none⟩), .agg #[.int .i64 3, .int .i64 (x : Int), .int .i64 (y : Int)]] w' (RetW W N M gv q w')) := Lib.hid (fun w' hB => by rw [hq]; exact gate_any W w' N M gv s ⟨3, x, y⟩ hB ⟨by simp, by simp, HX.out.2.1, HX.out.2.2.1⟩)
        have hXn : X ∉ Bs N M gv := fun e => by have := H.out.lts X e; have := HXd.out; omega
        have HXn := Lib.hid hXn
        clear hlk hsome hq hXn
        go_region
        go_upto_region 18 with (go_at_call 44; refine (HG.out _ (H.out.next HK.out.1.drew)).mono ?_; rintro e w2 ⟨rfl, gv2, hB2, hS2⟩; have k0' := hS2.kb.cell HXn.out k0; have k1' := hS2.kb.cell HXn.out k1; have hlX' := Nat.lt_of_lt_of_le hlX hS2.kb.size; have H2 := Lib.hid (And.intro hB2 hS2); clear hB2 hS2 k0 k1 hlX q2 hlN1)
        have q2 := H2.out.1.box.cells 2 _ rfl
        have hlN2 := H2.out.1.box.lt
        obtain ⟨w3, hup, hB3, hS3⟩ := GB.seenPut (H2.out.1.next (Ext.refl w2).drew) (a := x) (b := y) (v := q.2) HX.out.2.1 HX.out.2.2.1 (by have h := HRR.out.2; rw [HRR.out.1] at h; exact h)
        have HF := Lib.hid (And.intro hB3 (((Stp.of_ext HK.out.1.drew).trans H2.out.2).trans ((Stp.of_ext (Ext.refl w2).drew).trans hS3)))
        clear hB3 hS3 H2
        go_region
        go_wp2
        rw [HQ.out, HRR.out.1]
        exact ⟨rfl, gv2, HF.out⟩
    | some z =>
      rw [hz] at p3
      replace p3 : w.cell? ⟨N, 3, none⟩ = some (.int .i64 (z : Int)) := p3
      have fz := bits_flip z (HX.out.2.2.2.wf.zero z hz)
      have g0 : (0 : Int) ≤ (z : Int) := by omega
      by_cases h3 : x = z
      · have HR : Hid (r = (s, z)) := Lib.hid (by rw [HX.out.1]; unfold andO; rw [if_neg h1, if_neg h2, hz]; exact if_pos (.inl h3))
        have g3 : ((x : Int) == (z : Int)) = true := by rw [h3]; simp
        clear hz h1 h2 p2 h3
        go_enter Tryz.func87, Tryz.ntmps87
        go_wp2
        rw [HQ.out, HR.out]
        exact ⟨rfl, gv, H.out, Stp.refl _ _ _ _⟩
      have g3 : ((x : Int) == (z : Int)) = false := beq_eq_false_iff_ne.2 (by omega)
      by_cases h4 : y = z
      · have HR : Hid (r = (s, z)) := Lib.hid (by rw [HX.out.1]; unfold andO; rw [if_neg h1, if_neg h2, hz]; exact if_pos (.inr h4))
        have g4 : ((y : Int) == (z : Int)) = true := by rw [h4]; simp
        clear hz h1 h2 p2 h3 h4
        go_enter Tryz.func87, Tryz.ntmps87
        go_wp2
        rw [HQ.out, HR.out]
        exact ⟨rfl, gv, H.out, Stp.refl _ _ _ _⟩
      have g4 : ((y : Int) == (z : Int)) = false := beq_eq_false_iff_ne.2 (by omega)
      have h34 : ¬ (x = z ∨ y = z) := fun e => e.elim h3 h4
      by_cases h5 : x = flip z
      · have HR : Hid (r = (s, y)) := Lib.hid (by rw [HX.out.1]; unfold andO; rw [if_neg h1, if_neg h2, hz]; exact (if_neg h34).trans (if_pos h5))
        have g5 : ((x : Int) == ((flip z : Nat) : Int)) = true := by rw [h5]; simp
        clear hz h1 h2 p2 h3 h4 h5 h34
        go_enter Tryz.func87, Tryz.ntmps87
        go_wp2
        rw [HQ.out, HR.out]
        exact ⟨rfl, gv, H.out, Stp.refl _ _ _ _⟩
      have g5 : ((x : Int) == ((flip z : Nat) : Int)) = false := beq_eq_false_iff_ne.2 (fun e => h5 (by omega))
      by_cases h6 : y = flip z
      · have HR : Hid (r = (s, x)) := Lib.hid (by rw [HX.out.1]; unfold andO; rw [if_neg h1, if_neg h2, hz]; exact (if_neg h34).trans ((if_neg h5).trans (if_pos h6)))
        have g6 : ((y : Int) == ((flip z : Nat) : Int)) = true := by rw [h6]; simp
        clear hz h1 h2 p2 h3 h4 h5 h34 h6
        go_enter Tryz.func87, Tryz.ntmps87
        go_wp2
        rw [HQ.out, HR.out]
        exact ⟨rfl, gv, H.out, Stp.refl _ _ _ _⟩
      have g6 : ((y : Int) == ((flip z : Nat) : Int)) = false := beq_eq_false_iff_ne.2 (fun e => h6 (by omega))
      have HR : Hid (r = andS s x y) := Lib.hid (by rw [HX.out.1]; unfold andO; rw [if_neg h1, if_neg h2, hz]; exact (if_neg h34).trans ((if_neg h5).trans (if_neg h6)))
      obtain ⟨c, hlk, hlv⟩ := look_run HX.out.2.2.2 HX.out.2.1 HX.out.2.2.1
      have hE1 : Ext w (w.alloc (.cells #[.int .i64 (x : Int), .int .i64 (y : Int)] 100)) := (Ext.refl w).alloc _
      have hK1 := BoxV.of_row (heap_alloc_last w (.cells #[.int .i64 (x : Int), .int .i64 (y : Int)] 100))
      have HK := Lib.hid (And.intro hE1 (And.intro hlk hlv))
      clear hE1 hlk hlv
      have HZ12 := Lib.hid (And.intro h1 h2)
      clear h1 h2 hz h3 h4 h5 h6 h34
      go_enter Tryz.func87, Tryz.ntmps87
      go_upto_region 14 with fail
      obtain ⟨X, hXd⟩ : ∃ X, X = w.heap.size := ⟨_, rfl⟩
      rw [← hXd] at hK1 ⊢
      have HXd := Lib.hid hXd
      have q2 := HK.out.1.cell p2
      generalize w.alloc (.cells #[.int .i64 (x : Int), .int .i64 (y : Int)] 100) = w1 at hK1 HK q2 ⊢
      have k0 := hK1.cells 0 _ rfl
      have k1 := hK1.cells 1 _ rfl
      have hlX := hK1.lt
      have hlN1 : N < w1.heap.size := Nat.lt_of_lt_of_le hlN HK.out.1.size
      clear hXd hK1 p2 p3 hlN
      cases hsome : look s.seen x y with
      | some v =>
        obtain rfl : c = (v : Int) := HK.out.2.2 v hsome
        have hlk := fun w' hx => HK.out.2.1 w' hx
        rw [hsome] at hlk
        have hl1 := hlk w1 HK.out.1
        have hl2 := hlk w1.drew HK.out.1.drew
        have HRR : Hid (r = (s, v)) := Lib.hid (by rw [HR.out]; unfold andS; rw [hsome])
        clear hlk hsome
        go_region
        go_wp2
        rw [HQ.out, HRR.out]
        exact ⟨rfl, gv, H.out.next HK.out.1.drew, Stp.of_ext HK.out.1.drew⟩
      | none =>
        have hlk := fun w' hx => HK.out.2.1 w' hx
        rw [hsome] at hlk
        have hl1 := hlk w1 HK.out.1
        have hl2 := hlk w1.drew HK.out.1.drew
        obtain ⟨q, hq⟩ : ∃ q, q = gateF s ⟨3, x, y⟩ := ⟨_, rfl⟩
        have HRR : Hid (r = ({ q.1 with seen := ((x, y), q.2) :: q.1.seen }, q.2) ∧ BWf r.1) := Lib.hid (by
          have e : r = ({ q.1 with seen := ((x, y), q.2) :: q.1.seen }, q.2) := by rw [HR.out]; unfold andS; rw [hsome, hq, (gateF_seen s ⟨3, x, y⟩).1]
          exact ⟨e, by rw [HR.out]; exact (andS_wf H.out.wf HX.out.2.1 HX.out.2.2.1).1⟩)
        have HG : Hid (∀ w', GB W N M gv s w' → Calls Tryz.prog 44 #[.pointer (some ⟨N, 0, none⟩), .agg #[.int .i64 3, .int .i64 (x : Int), .int .i64 (y : Int)]] w' (RetW W N M gv q w')) := Lib.hid (fun w' hB => by rw [hq]; exact gate_any W w' N M gv s ⟨3, x, y⟩ hB ⟨by simp, by simp, HX.out.2.1, HX.out.2.2.1⟩)
        have hXn : X ∉ Bs N M gv := fun e => by have := H.out.lts X e; have := HXd.out; omega
        have HXn := Lib.hid hXn
        clear hlk hsome hq hXn
        go_region
        go_upto_region 18 with (go_at_call 44; refine (HG.out _ (H.out.next HK.out.1.drew)).mono ?_; rintro e w2 ⟨rfl, gv2, hB2, hS2⟩; have k0' := hS2.kb.cell HXn.out k0; have k1' := hS2.kb.cell HXn.out k1; have hlX' := Nat.lt_of_lt_of_le hlX hS2.kb.size; have H2 := Lib.hid (And.intro hB2 hS2); clear hB2 hS2 k0 k1 hlX q2 hlN1)
        have q2 := H2.out.1.box.cells 2 _ rfl
        have hlN2 := H2.out.1.box.lt
        obtain ⟨w3, hup, hB3, hS3⟩ := GB.seenPut (H2.out.1.next (Ext.refl w2).drew) (a := x) (b := y) (v := q.2) HX.out.2.1 HX.out.2.2.1 (by have h := HRR.out.2; rw [HRR.out.1] at h; exact h)
        have HF := Lib.hid (And.intro hB3 (((Stp.of_ext HK.out.1.drew).trans H2.out.2).trans ((Stp.of_ext (Ext.refl w2).drew).trans hS3)))
        clear hB3 hS3 H2
        go_region
        go_wp2
        rw [HQ.out, HRR.out.1]
        exact ⟨rfl, gv2, HF.out⟩
/-- A contract on a wire, at any later world. -/
theorem RetW.at {W : World} {N M : Nat} {gv : Value} {r : BR} {w : World} {e : Ending} {w' : World} (h : RetW W N M gv r w e w') : ∃ gv', e = .returned (.int .i64 (r.2 : Int)) ∧ Hid (GB W N M gv' r.1 w' ∧ Stp N M gv gv' w w') :=
  let ⟨h1, gv', h2⟩ := h; ⟨gv', h1, Lib.hid h2⟩
set_option maxHeartbeats 4000000 in
theorem or_any (W w : World) (N M : Nat) (gv : Value) (s : BSt) (a b : Nat) (h : GB W N M gv s w) (ha : WB a) (hb : WB b) :
    Calls Tryz.prog 94 #[.pointer (some ⟨N, 0, none⟩), .int .i64 (a : Int), .int .i64 (b : Int)] w (RetW W N M gv (orF s a b) w) := by
  obtain ⟨Q, hQ⟩ : ∃ Q, Q = RetW W N M gv (orF s a b) w := ⟨_, rfl⟩
  rw [← hQ]
  have HQ := Lib.hid hQ
  obtain ⟨r, hr⟩ : ∃ r, r = andF s (flip a) (flip b) := ⟨_, rfl⟩
  have HA := Lib.hid (and_any W w N M gv s (flip a) (flip b) h ha.flip hb.flip)
  have fr := bits_flip r.2 (by rw [hr]; exact (andF_wf h.wf ha.flip hb.flip).2)
  have fa := bits_flip a ha
  have fb := bits_flip b hb
  rw [← hr] at HA
  have HR := Lib.hid hr
  clear hQ h hr ha hb
  go_enter Tryz.func94, Tryz.ntmps94
  go_wp2_with (go_at_call 87; refine HA.out.mono ?_; rintro e w1 ⟨rfl, gv1, hB1, hS1⟩; have HP := Lib.hid (And.intro hB1 hS1); clear hB1 hS1)
  rw [HQ.out]
  unfold orF
  rw [← HR.out]
  exact ⟨rfl, gv1, HP.out⟩
set_option maxHeartbeats 4000000 in
theorem xor_any (W w : World) (N M : Nat) (gv : Value) (s : BSt) (a b : Nat) (h : GB W N M gv s w) (ha : WB a) (hb : WB b) :
    Calls Tryz.prog 91 #[.pointer (some ⟨N, 0, none⟩), .int .i64 (a : Int), .int .i64 (b : Int)] w (RetW W N M gv (xorF s a b) w) := by
  obtain ⟨Q, hQ⟩ : ∃ Q, Q = RetW W N M gv (xorF s a b) w := ⟨_, rfl⟩
  rw [← hQ]
  have HQ := Lib.hid hQ
  obtain ⟨p, hp⟩ : ∃ r, r = andF s a (flip b) := ⟨_, rfl⟩
  obtain ⟨q, hq⟩ : ∃ r, r = andF p.1 (flip a) b := ⟨_, rfl⟩
  have hpw : BWf p.1 ∧ WB p.2 := by rw [hp]; exact andF_wf h.wf ha hb.flip
  have hqw : BWf q.1 ∧ WB q.2 := by rw [hq]; exact andF_wf hpw.1 ha.flip hb
  have HA : Hid (Calls Tryz.prog 87 #[.pointer (some ⟨N, 0, none⟩), .int .i64 (a : Int), .int .i64 ((flip b : Nat) : Int)] w (RetW W N M gv p w)) := Lib.hid (by rw [hp]; exact and_any W w N M gv s a (flip b) h ha hb.flip)
  have HA2 : Hid (∀ gv1 w1, GB W N M gv1 p.1 w1 → Calls Tryz.prog 87 #[.pointer (some ⟨N, 0, none⟩), .int .i64 ((flip a : Nat) : Int), .int .i64 (b : Int)] w1 (RetW W N M gv1 q w1)) := Lib.hid (fun gv1 w1 h1 => by rw [hq]; exact and_any W w1 N M gv1 p.1 (flip a) b h1 ha.flip hb)
  have HO : Hid (∀ gv1 w1, GB W N M gv1 q.1 w1 → Calls Tryz.prog 94 #[.pointer (some ⟨N, 0, none⟩), .int .i64 (p.2 : Int), .int .i64 (q.2 : Int)] w1 (RetW W N M gv1 (xorF s a b) w1)) := Lib.hid (fun gv1 w1 h1 => by
    have e : xorF s a b = orF q.1 p.2 q.2 := by unfold xorF; rw [hq, hp]
    rw [e]; exact or_any W w1 N M gv1 q.1 p.2 q.2 h1 hpw.2 hqw.2)
  have fa := bits_flip a ha
  have fb := bits_flip b hb
  obtain ⟨o, ho⟩ : ∃ o, o = xorF s a b := ⟨_, rfl⟩
  rw [← ho] at HO
  have HOo := Lib.hid ho
  clear hQ h hp hq hpw hqw ha hb ho
  go_enter Tryz.func91, Tryz.ntmps91
  go_wp2_with (first | (go_at_call 87; first | (refine (HA2.out _ _ HP.out.1).mono ?_; rintro e w2 ⟨rfl, gv2, hB2, hS2⟩; have HP2 := Lib.hid (And.intro hB2 hS2); clear hB2 hS2) | (refine HA.out.mono ?_; rintro e w1 ⟨rfl, gv1, hB1, hS1⟩; have HP := Lib.hid (And.intro hB1 hS1); clear hB1 hS1)) | (go_at_call 94; refine (HO.out _ _ HP2.out.1).mono ?_; rintro e w3 ⟨rfl, gv3, hB3, hS3⟩; have HP3 := Lib.hid (And.intro hB3 hS3); clear hB3 hS3))
  rw [HQ.out, ← HOo.out]
  exact ⟨rfl, gv3, HP3.out.1, (HP.out.2.trans HP2.out.2).trans HP3.out.2⟩
set_option maxHeartbeats 4000000 in
theorem mux_any (W w : World) (N M : Nat) (gv : Value) (s : BSt) (c a b : Nat) (h : GB W N M gv s w) (hc : WB c) (ha : WB a) (hb : WB b) :
    Calls Tryz.prog 104 #[.pointer (some ⟨N, 0, none⟩), .int .i64 (c : Int), .int .i64 (a : Int), .int .i64 (b : Int)] w (RetW W N M gv (muxF c s a b) w) := by
  obtain ⟨Q, hQ⟩ : ∃ Q, Q = RetW W N M gv (muxF c s a b) w := ⟨_, rfl⟩
  rw [← hQ]
  have HQ := Lib.hid hQ
  by_cases hab : a = b
  · have HR : Hid (muxF c s a b = (s, a)) := Lib.hid (by unfold muxF; rw [if_pos hab])
    have H := Lib.hid h
    subst hab
    clear hQ h
    go_enter Tryz.func104, Tryz.ntmps104
    go_wp2
    rw [HQ.out, HR.out]
    exact ⟨rfl, gv, H.out, Stp.refl _ _ _ _⟩
  have g1 : ((a : Int) == (b : Int)) = false := beq_eq_false_iff_ne.2 (by omega)
  obtain ⟨p, hp⟩ : ∃ r, r = andF s c a := ⟨_, rfl⟩
  obtain ⟨q, hq⟩ : ∃ r, r = andF p.1 (flip c) b := ⟨_, rfl⟩
  have hpw : BWf p.1 ∧ WB p.2 := by rw [hp]; exact andF_wf h.wf hc ha
  have hqw : BWf q.1 ∧ WB q.2 := by rw [hq]; exact andF_wf hpw.1 hc.flip hb
  have HA : Hid (Calls Tryz.prog 87 #[.pointer (some ⟨N, 0, none⟩), .int .i64 (c : Int), .int .i64 (a : Int)] w (RetW W N M gv p w)) := Lib.hid (by rw [hp]; exact and_any W w N M gv s c a h hc ha)
  have HA2 : Hid (∀ gv1 w1, GB W N M gv1 p.1 w1 → Calls Tryz.prog 87 #[.pointer (some ⟨N, 0, none⟩), .int .i64 ((flip c : Nat) : Int), .int .i64 (b : Int)] w1 (RetW W N M gv1 q w1)) := Lib.hid (fun gv1 w1 h1 => by rw [hq]; exact and_any W w1 N M gv1 p.1 (flip c) b h1 hc.flip hb)
  have HO : Hid (∀ gv1 w1, GB W N M gv1 q.1 w1 → Calls Tryz.prog 94 #[.pointer (some ⟨N, 0, none⟩), .int .i64 (p.2 : Int), .int .i64 (q.2 : Int)] w1 (RetW W N M gv1 (muxF c s a b) w1)) := Lib.hid (fun gv1 w1 h1 => by
    have e : muxF c s a b = orF q.1 p.2 q.2 := by unfold muxF; rw [if_neg hab, hq, hp]
    rw [e]; exact or_any W w1 N M gv1 q.1 p.2 q.2 h1 hpw.2 hqw.2)
  have fc := bits_flip c hc
  obtain ⟨o, ho⟩ : ∃ o, o = muxF c s a b := ⟨_, rfl⟩
  rw [← ho] at HO
  have HOo := Lib.hid ho
  clear hQ h hp hq hpw hqw ha hb hc ho hab
  go_enter Tryz.func104, Tryz.ntmps104
  go_wp2_with (first | (go_at_call 87; first | (refine (HA2.out _ _ HP.out.1).mono ?_; rintro e w2 ⟨rfl, gv2, hB2, hS2⟩; have HP2 := Lib.hid (And.intro hB2 hS2); clear hB2 hS2) | (refine HA.out.mono ?_; rintro e w1 ⟨rfl, gv1, hB1, hS1⟩; have HP := Lib.hid (And.intro hB1 hS1); clear hB1 hS1)) | (go_at_call 94; refine (HO.out _ _ HP2.out.1).mono ?_; rintro e w3 ⟨rfl, gv3, hB3, hS3⟩; have HP3 := Lib.hid (And.intro hB3 hS3); clear hB3 hS3))
  rw [HQ.out, ← HOo.out]
  exact ⟨rfl, gv3, HP3.out.1, (HP.out.2.trans HP2.out.2).trans HP3.out.2⟩
end Go.Proofs.YtdjnekcpeaadhaaGreat
namespace Go.Proofs.YtdjnekcpeaadhaaGreat
open Go.RowKit Go.Maps
set_option linter.unusedSimpArgs false
set_option linter.unusedVariables false
set_option maxRecDepth 100000

/-- A row of wires that a function without a maker makes. -/
structure RowF (W wr : World) (v : Value) (l : List Nat) : Prop where
  ext : Ext W wr
  own : wr.ownsRow W.heap.size 3 1 v l.length (wvs l)
theorem wvs_snoc (l : List Nat) (x : Nat) : wvs (l ++ [x]) = wvs l ++ [.int .i64 (x : Int)] := by simp [wvs]
theorem RowF.app {W wr w9 : World} {v v9 : Value} {l : List Nat} {x : Nat} {o : Obj} (h : RowF W wr v l) (hg : (wr.alloc o).grownBy w9 v.ownBlock) (hown : w9.ownsRow W.heap.size 3 1 v9 (l.length + 1) (wvs l ++ [.int .i64 (x : Int)])) : RowF W w9 v9 (l ++ [x]) := by
  have hk : Kb v.ownBlock.toList (wr.alloc o) w9 := Kb.grown hg (fun g hg => Option.mem_toList.2 hg)
  refine ⟨hk.ext (h.ext.alloc _) (fun b hb => (h.own.lt b (Option.mem_toList.1 hb)).1), ?_⟩
  rw [wvs_snoc, List.length_append, List.length_singleton]
  exact hown
theorem rep_snoc (k x : Nat) : List.replicate (k + 1) x = List.replicate k x ++ [x] := List.replicate_succ'
set_option maxHeartbeats 4000000 in
theorem fill_any (n x : Nat) (w : World) (hn : n ≤ 100000) :
    Calls Tryz.prog 85 #[.int .i64 (n : Int), .int .i64 (x : Int)] w fun e w' => ∃ a c, e = .returned (.slice a n c) ∧ Hid (RowF w w' (.slice a n c) (List.replicate n x)) := by
  go_enter Tryz.func85, Tryz.ntmps85
  go_wp2
  go_loopw [5, 7] (fun v i wr => ∃ (k c : Nat) (a : Option Addr), k ≤ n ∧ i = .int .i64 (k : Int) ∧ v = .slice a k c ∧ Hid (RowF w wr (.slice a k c) (List.replicate k x))) (fun _ i _ => n - (intOf i).toNat)
  case atStart => exact ⟨0, 0, none, Nat.zero_le _, rfl, rfl, Lib.hid ⟨Ext.refl _, own_nil _ _ _ _⟩⟩
  case round =>
    obtain ⟨k, c, a, hk, rfl, rfl, H⟩ := hrel
    by_cases hlt : k < n
    · have hki : (k : Int) < (n : Int) := Int.ofNat_lt.2 hlt
      go_wp2_with (at_builtin; (refine wpList_append_slc _ rfl (.tmp 9) (.tmp 11) 29 rfl w.heap.size 3 (.int .i64 0) 1 8 Tryz.underlying29 infoInt rfl (by decide) (.slice a k c) k (wvs (List.replicate k x)) rfl (by have := H.out.own.alloc (.cells #[.int .i64 (x : Int)] 3); simp only [List.length_replicate] at this; exact this) _ 1 [.int .i64 (x : Int)] rfl (SlC.fresh _ #[.int .i64 (x : Int)] _ 1 _ (by simp) (by decide)) rfl (by simp [Value.oneCell']) (by unfold maxLen; omega) (by omega) (by have := H.out.ext.size; simp; omega) ?_; intro v9 w9 hown9 hg9 hat9; obtain ⟨x9, y9, z9, rfl⟩ := own_slice3 hown9; have HP := Lib.hid (RowF.app (x := x) H.out hg9 (by simp only [List.length_replicate]; exact hown9)); clear hown9 hg9 hat9))
      rw [← rep_snoc] at HP
      have hy : y9 = k + 1 := by
        obtain ⟨a', c', e, -⟩ := SlC.of_owns HP.out.own
        simp at e
        exact e.2.1
      subst hy
      exact ⟨⟨k + 1, z9, x9, by omega, by go_num, rfl, HP⟩, by simp [intOf]; omega⟩
    · have hki : ¬ (k : Int) < (n : Int) := fun e => hlt (Int.ofNat_lt.1 e)
      obtain rfl : k = n := by omega
      go_wp2
      go_ret
      exact ⟨a, c, rfl, H⟩
theorem wvs_get {l : List Nat} {k : Nat} {x : Nat} (h : l[k]? = some x) : (wvs l)[k]? = some (.int .i64 (x : Int)) := by simp [wvs, h]
set_option maxHeartbeats 4000000 in
theorem not_any (l : List Nat) (v : Value) (w : World) (h : SlC w v l.length (wvs l)) (hb : WsB l) (hn : l.length ≤ 100000) :
    Calls Tryz.prog 80 #[v] w fun e w' => ∃ a c, e = .returned (.slice a l.length c) ∧ Hid (RowF w w' (.slice a l.length c) (l.map flip)) := by
  obtain ⟨pa, ca, rfl, hnc, hcm, hcell⟩ := h
  obtain ⟨n, hnl⟩ : ∃ n, n = l.length := ⟨_, rfl⟩
  have HC := Lib.hid (And.intro hcell (And.intro hb hnl))
  rw [← hnl] at hn hnc ⊢
  have hcI : (ca : Int) ≤ 9223372036854775807 := by unfold maxLen at hcm; omega
  clear hcell hb hnl hcm
  go_enter Tryz.func80, Tryz.ntmps80
  go_wp2
  go_loopw [3, 8] (fun v i wr => ∃ (k c : Nat) (a : Option Addr), k ≤ n ∧ i = .int .i64 (k : Int) ∧ v = .slice a k c ∧ Hid (RowF w wr (.slice a k c) ((l.take k).map flip))) (fun _ i _ => n - (intOf i).toNat)
  case atStart => exact ⟨0, 0, none, Nat.zero_le _, rfl, rfl, Lib.hid ⟨Ext.refl _, own_nil _ _ _ _⟩⟩
  case round =>
    obtain ⟨k, c, a, hk, rfl, rfl, H⟩ := hrel
    by_cases hlt : k < n
    · have hki : (k : Int) < (n : Int) := Int.ofNat_lt.2 hlt
      obtain ⟨x, hx⟩ : ∃ x, l[k]? = some x := ⟨_, List.getElem?_eq_getElem (by have := HC.out.2.2; omega)⟩
      obtain ⟨b0, o0, rfl, hcx⟩ := HC.out.1 k _ (wvs_get hx)
      have hcx2 := H.out.ext.cell hcx
      have fx := bits_flip x (HC.out.2.1 x (List.mem_of_getElem? hx))
      have HT : Hid ((l.take (k + 1)).map flip = (l.take k).map flip ++ [flip x]) := Lib.hid (by rw [List.take_add_one, hx]; simp)
      have HL : Hid (((l.take k).map flip).length = k) := Lib.hid (by have := HC.out.2.2; simp; omega)
      clear hx hcx
      go_wp2_with (at_builtin; (refine wpList_append_slc _ rfl (.tmp 12) (.tmp 15) 29 rfl w.heap.size 3 (.int .i64 0) 1 8 Tryz.underlying29 infoInt rfl (by decide) (.slice a k c) k (wvs ((l.take k).map flip)) rfl (by have := H.out.own.alloc (.cells #[.int .i64 ((flip x : Nat) : Int)] 3); rw [HL.out] at this; exact this) _ 1 [.int .i64 ((flip x : Nat) : Int)] rfl (SlC.fresh _ #[.int .i64 ((flip x : Nat) : Int)] _ 1 _ (by simp) (by decide)) rfl (by simp [Value.oneCell']) (by unfold maxLen; omega) (by omega) (by have := H.out.ext.size; simp; omega) ?_; intro v9 w9 hown9 hg9 hat9; obtain ⟨x9, y9, z9, rfl⟩ := own_slice3 hown9; have HP := Lib.hid (RowF.app (x := flip x) H.out hg9 (by rw [HL.out]; exact hown9)); clear hown9 hg9 hat9))
      rw [← HT.out] at HP
      have hy : y9 = k + 1 := by
        obtain ⟨a', c', e, -⟩ := SlC.of_owns HP.out.own
        simp at e
        have := HC.out
        omega
      subst hy
      exact ⟨⟨k + 1, z9, x9, by omega, by go_num, rfl, HP⟩, by simp [intOf]; omega⟩
    · have hki : ¬ (k : Int) < (n : Int) := fun e => hlt (Int.ofNat_lt.1 e)
      obtain rfl : k = n := by omega
      rw [List.take_of_length_le (by have := HC.out.2.2; omega)] at H
      go_wp2
      go_ret
      exact ⟨a, c, rfl, H⟩
set_option maxHeartbeats 4000000 in
theorem turned_any (l : List Nat) (v : Value) (w : World) (h : SlC w v l.length (wvs l)) (hn : l.length ≤ 100000) :
    Calls Tryz.prog 96 #[v] w fun e w' => ∃ a c, e = .returned (.slice a l.length c) ∧ Hid (RowF w w' (.slice a l.length c) l.reverse) := by
  obtain ⟨pa, ca, rfl, hnc, hcm, hcell⟩ := h
  obtain ⟨n, hnl⟩ : ∃ n, n = l.length := ⟨_, rfl⟩
  have HC := Lib.hid (And.intro hcell hnl)
  rw [← hnl] at hn hnc ⊢
  have hcI : (ca : Int) ≤ 9223372036854775807 := by unfold maxLen at hcm; omega
  clear hcell hnl hcm
  go_enter Tryz.func96, Tryz.ntmps96
  go_wp2
  go_loopw [3, 4] (fun v i wr => ∃ (k m c : Nat) (a : Option Addr), k + m = n ∧ i = .int .i64 ((m : Int) - 1) ∧ v = .slice a k c ∧ Hid (RowF w wr (.slice a k c) (l.reverse.take k))) (fun _ i _ => (intOf i + 1).toNat)
  case atStart => exact ⟨0, n, 0, none, by omega, by go_num, rfl, Lib.hid ⟨Ext.refl _, own_nil _ _ _ _⟩⟩
  case round =>
    obtain ⟨k, m, c, a, hk, rfl, rfl, H⟩ := hrel
    cases m with
    | succ m =>
      have hki : (0 : Int) ≤ (m : Int) := by omega
      have hmn : (m : Int) < (n : Int) := by omega
      obtain ⟨x, hx⟩ : ∃ x, l[m]? = some x := ⟨_, List.getElem?_eq_getElem (by have := HC.out.2; omega)⟩
      obtain ⟨b0, o0, rfl, hcx⟩ := HC.out.1 m _ (wvs_get hx)
      have hcx2 := H.out.ext.cell hcx
      have hmc : m < ca := by omega
      have HT : Hid (l.reverse.take (k + 1) = l.reverse.take k ++ [x]) := Lib.hid (by
        have := HC.out.2
        rw [List.take_add_one, List.getElem?_reverse (by omega), show l.length - 1 - k = m by omega, hx]; rfl)
      have HL : Hid ((l.reverse.take k).length = k) := Lib.hid (by have := HC.out.2; simp; omega)
      have e1 : ((m + 1 : Nat) : Int) - 1 = (m : Int) := by omega
      rw [e1]
      clear hx hcx
      go_wp2_with (at_builtin; (refine wpList_append_slc _ rfl (.tmp 12) (.tmp 17) 29 rfl w.heap.size 3 (.int .i64 0) 1 8 Tryz.underlying29 infoInt rfl (by decide) (.slice a k c) k (wvs (l.reverse.take k)) rfl (by have := H.out.own.alloc (.cells #[.int .i64 ((x : Nat) : Int)] 3); rw [HL.out] at this; exact this) _ 1 [.int .i64 ((x : Nat) : Int)] rfl (SlC.fresh _ #[.int .i64 ((x : Nat) : Int)] _ 1 _ (by simp) (by decide)) rfl (by simp [Value.oneCell']) (by unfold maxLen; omega) (by omega) (by have := H.out.ext.size; simp; omega) ?_; intro v9 w9 hown9 hg9 hat9; obtain ⟨x9, y9, z9, rfl⟩ := own_slice3 hown9; have HP := Lib.hid (RowF.app (x := x) H.out hg9 (by rw [HL.out]; exact hown9)); clear hown9 hg9 hat9))
      rw [← HT.out] at HP
      have hy : y9 = k + 1 := by
        obtain ⟨a', c', e, -⟩ := SlC.of_owns HP.out.own
        simp at e
        have := HC.out
        omega
      subst hy
      exact ⟨⟨k + 1, m, z9, x9, by omega, by go_num, rfl, HP⟩, by simp [intOf]⟩
    | zero =>
      obtain rfl : k = n := by omega
      rw [List.take_of_length_le (by have := HC.out.2; simp; omega)] at H
      go_wp2
      go_ret
      exact ⟨a, c, rfl, H⟩
set_option maxHeartbeats 4000000 in
theorem top_any (l : List Nat) (v : Value) (w : World) (h : SlC w v l.length (wvs l)) (h0 : 0 < l.length) (hn : l.length ≤ 100000) :
    Calls Tryz.prog 92 #[v] w fun e w' => e = .returned (.int .i64 ((topF l : Nat) : Int)) ∧ w' = w := by
  obtain ⟨pa, ca, rfl, hnc, hcm, hcell⟩ := h
  obtain ⟨n, hnl⟩ : ∃ n, l.length = n + 1 := ⟨l.length - 1, by omega⟩
  obtain ⟨x, hx⟩ : ∃ x, l[n]? = some x := ⟨_, List.getElem?_eq_getElem (by omega)⟩
  obtain ⟨b0, o0, rfl, hcx⟩ := hcell n _ (wvs_get hx)
  have ht : topF l = x := by unfold topF; rw [hnl, Nat.add_sub_cancel, List.getD_eq_getElem?_getD, hx]; rfl
  rw [ht]
  rw [hnl] at hnc ⊢
  have hcI : (ca : Int) ≤ 9223372036854775807 := by unfold maxLen at hcm; omega
  have e1 : ((n + 1 : Nat) : Int) - 1 = (n : Int) := by omega
  have hnc2 : n < ca := by omega
  clear hcell hx ht hcm
  go_enter Tryz.func92, Tryz.ntmps92
  go_wp2
  go_ret
  exact ⟨rfl, rfl⟩
end Go.Proofs.YtdjnekcpeaadhaaGreat

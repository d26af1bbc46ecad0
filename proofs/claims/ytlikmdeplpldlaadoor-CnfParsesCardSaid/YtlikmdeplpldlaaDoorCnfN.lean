/-
  The reference's walk that tells a net's formula.
  Conditions: the net and the wires lie in memory, and are small.
-/
import Derived.Test.YtlikmdeplpldlaaDoorCnfM
namespace Go.Proofs.YtlikmdeplpldlaaDoor
open Go.RowKit
set_option linter.unusedSimpArgs false
set_option linter.unusedVariables false
set_option maxRecDepth 100000

section
variable {W w w' w2 : World} {B D C n : Nat} {gv ov ov2 : Value} {vs xs : List Value} {os rs : List (List Int)}
theorem OS.appX (h : OS W B D C n gv ov vs os w) (hl : xs.length = rs.length)
    (hx : ∀ (j : Nat) (x : Value) (r : List Int), xs[j]? = some x → rs[j]? = some r → w.ownsRow W.heap.size 3 1 x r.length (i64s r) ∧ ∀ b, x.ownBlock = some b → b ∉ [B, D, C] ∧ ov.ownBlock ≠ some b)
    (hg : w.grownBy w2 ov.ownBlock) (hown : w2.ownsRow W.heap.size 36 1 ov2 (vs.length + xs.length) (vs ++ xs)) (hat : ov2.ownBlock = ov.ownBlock ∨ ov2.ownBlock = some w.heap.size) : Ext W w2 := (h.fr.push hl hx h.lts hg hown hat).ext
end
set_option maxHeartbeats 8000000 in
theorem ofR_any (l : List GateV) (gv : Value) (ws : List Int) (wv : Value) (w : World) (h : GatesIn w gv l) (hwf : GatesWf l) (hw : SlC w wv ws.length (i64s ws)) (hwI : ∀ x ∈ ws, I64 x) (hl : 10 * l.length + 2 * ws.length ≤ 200000) :
    Calls Tryd.prog 17 #[.agg #[gv], wv] w (OfP w l ws) := by
  obtain ⟨Q, hQ⟩ : ∃ Q, Q = OfP w l ws := ⟨_, rfl⟩
  rw [← hQ]
  have HQ := Lib.hid hQ
  have HG := Lib.hid (And.intro h hwf)
  have HW := Lib.hid (And.intro hw hwI)
  obtain ⟨a, cap, rfl, -, -, -⟩ := id h
  obtain ⟨aw, capw, rfl, -, -, -⟩ := id hw
  obtain ⟨n, hn⟩ : ∃ n, n = l.length := ⟨_, rfl⟩
  obtain ⟨M, hM⟩ : ∃ n, n = ws.length := ⟨_, rfl⟩
  have hn2 : n ≤ 20000 := by omega
  have hM2 : M ≤ 100000 := by omega
  have HN := Lib.hid (And.intro hn (And.intro hM hl))
  rw [← hn, ← hM]
  have HGn : Hid (GatesIn w (.slice a n cap) l) := Lib.hid (by rw [hn]; exact h)
  have HWn : Hid (SlC w (.slice aw M capw) ws.length (i64s ws)) := Lib.hid (by rw [hM]; exact hw)
  clear hQ h hwf hw hwI hn hM hl
  go_enter Tryd.func17, Tryd.ntmps17
  go_upto_region 1 with fail
  have hbB := (BoxV.of_row (heap_alloc_last w (.cells #[.slice a n cap] 35))).ext ((Ext.refl _).alloc (.cells #[.int .i64 0, .slice none 0 0] 24))
  have hD := heap_alloc_last (w.alloc (.cells #[.slice a n cap] 35)) (.cells #[.int .i64 0, .slice none 0 0] 24)
  have hE : Ext w ((w.alloc (.cells #[.slice a n cap] 35)).alloc (.cells #[.int .i64 0, .slice none 0 0] 24)) := ((Ext.refl w).alloc _).alloc _
  rw [World.size_alloc] at hD
  generalize (w.alloc (.cells #[.slice a n cap] 35)).alloc (.cells #[.int .i64 0, .slice none 0 0] 24) = w2 at hbB hD hE ⊢
  obtain ⟨B, hB⟩ : ∃ B, B = w.heap.size := ⟨_, rfl⟩
  obtain ⟨D, hDn⟩ : ∃ D, D = w.heap.size + 1 := ⟨_, rfl⟩
  rw [← hDn] at hD ⊢
  rw [← hB] at hbB ⊢
  have HE := Lib.hid (And.intro hE (And.intro hbB (And.intro hD (And.intro hB hDn))))
  have hHE := HE.out
  have p0 := hbB.cells 0 _ rfl
  have hlB := hbB.lt
  have hlD : D < w2.heap.size := (Array.getElem?_eq_some_iff.1 hD).1
  clear hbB hD hE hB hDn hHE
  rcases chkN_or l with ⟨hc, ho⟩ | ⟨hc, ho⟩
  · have HC := Lib.hid hc
    have HO := Lib.hid ho
    clear hc ho
    go_upto_region 3 with (go_at_call 31; refine (checkNR_any l _ _ (SlC.ext HGn.out HE.out.1) HG.out.2 (by have := HN.out; omega)).mono ?_; rintro e w' ⟨rfl, hE'⟩; rw [HC.out]; (first | (with_reducible obtain ⟨t2, rfl⟩ := Ext.tok2 hE') | (obtain ⟨t2, rfl⟩ := Ext.tok hE')))
    go_wp2_with (refine wpList_store_row rfl 24 (.tmp 4) (.tmp 19) rfl D #[.int .i64 0, .slice none 0 0] rfl rfl 24 _ (ext_block (Ext.by w2 t2) HE.out.2.2.1) rfl rfl (by simp [Value.oneCell']) ?_)
    refine ret_row2 rfl D 24 #[.int .i64 0, .slice none 0 0] _ rfl (setRow_heap _ _ _ _ _ _ (ext_block (Ext.by w2 t2) HE.out.2.2.1)) Tryd.underlying24 rfl (by kernel_rfl) rfl ?_
    rw [HQ.out]
    refine OfP.no ((kb_setRow _ D _).ext (HE.out.1.trans (Ext.by w2 t2)) (fun k hk => ?_)) (by unfold ofV; rw [HO.out]; rfl)
    have := HE.out.2.2.2.2
    simp at hk
    omega
  · have HC := Lib.hid hc
    have HO := Lib.hid ho
    clear hc ho
    go_upto_region 4 with (go_at_call 31; refine (checkNR_any l _ _ (SlC.ext HGn.out HE.out.1) HG.out.2 (by have := HN.out; omega)).mono ?_; rintro e w' ⟨rfl, hE'⟩; rw [HC.out]; (first | (with_reducible obtain ⟨t2, rfl⟩ := Ext.tok2 hE') | (obtain ⟨t2, rfl⟩ := Ext.tok hE')))
    have hT := Ext.by w2 t2
    have HE3 := Lib.hid (And.intro (HE.out.1.trans hT) (And.intro (HE.out.2.1.ext hT) (And.intro (ext_block hT HE.out.2.2.1) HE.out.2.2.2)))
    have p0' := hT.cell p0
    have hlB' := Nat.lt_of_lt_of_le hlB hT.size
    have hlD' := Nat.lt_of_lt_of_le hlD hT.size
    clear p0 hlB hlD HE hE'
    generalize w2.extBy t2 = w3 at hT HE3 p0' hlB' hlD' ⊢
    clear hT
    have HW3 : Hid (∀ (k : Nat) (q : Int), ws[k]? = some q → ∃ b o, aw = some ⟨b, o, none⟩ ∧ b < w3.heap.size ∧ w3.cell? ⟨b, o + k, none⟩ = some (.int .i64 q)) := Lib.hid fun k q hq => by
      obtain ⟨a', cap', ea, -, -, hc⟩ := HWn.out.ext HE3.out.1
      simp only [Value.slice.injEq] at ea
      rw [← ea.1] at hc
      obtain ⟨b, o, z1, z2⟩ := hc k (.int .i64 q) (by simp [i64s, hq])
      exact ⟨b, o, z1, World.block_lt_of_cell? w3 _ z2, z2⟩
    go_wp2
    go_loopw [7] (fun i wr => ∃ j : Nat, j ≤ M ∧ i = .int .i64 j ∧ Ext w3 wr ∧ Hid (∀ q ∈ ws.take j, wireOk n q = true)) (fun i _ => M - (intOf i).toNat)
    case atStart => exact ⟨0, Nat.zero_le _, rfl, Ext.refl _, Lib.hid (by simp)⟩
    case round =>
      obtain ⟨j, hj, rfl, hxr, hok⟩ := hrel
      by_cases hlt : j < M
      · (first | (with_reducible obtain ⟨t1, rfl⟩ := Ext.tok2 hxr) | (obtain ⟨t1, rfl⟩ := Ext.tok hxr))
        obtain ⟨q, hq⟩ : ∃ q, ws[j]? = some q := ⟨_, List.getElem?_eq_getElem (by have := HN.out.2.1; omega)⟩
        obtain ⟨b, o, rfl, z1, g1⟩ := HW3.out j q hq
        have hji : (j : Int) < (M : Int) := Int.ofNat_lt.2 hlt
        have hqI := HW.out.2 q (List.mem_of_getElem? hq)
        obtain ⟨hq1, hq2⟩ := hqI
        have HQQ := Lib.hid hq
        clear hq
        by_cases hw : 0 ≤ q ∧ q < 2 * (n : Int)
        · obtain ⟨w0, w1⟩ := hw
          have hd1 : decide (q < 0) = false := decide_eq_false (by omega)
          have hd2 : decide (2 * (n : Int) ≤ q) = false := decide_eq_false (by omega)
          go_upto_region 7 with fail
          (refine region_drew (by kernel_rfl) (by kernel_rfl) ?_; (repeat (go_big_quiet_step (fail))); refine wpQuiet_nil ?_; rintro _ ⟨nq, rfl⟩)
          have hx8 := (Ext.by w3 t1).drewN nq
          have hD8 := ext_block hx8 HE3.out.2.2.1
          have hE8 := HE3.out.1.trans hx8
          generalize (w3.extBy t1).drewN nq = w8 at hx8 hD8 hE8 ⊢
          go_wp2
          go_roundw
          case rel => exact ⟨j + 1, by omega, by go_num, hx8, Lib.hid (by
            rw [List.take_add_one, HQQ.out]
            intro q' hq'
            rcases List.mem_append.1 hq' with h1 | h1
            · exact hok.out q' h1
            · simp at h1; subst h1; unfold wireOk; simp [w0, w1])⟩
          case measure => simp [intOf]; omega
        · have HBAD : Hid (ofV l ws = (0, [], 1)) := Lib.hid (by
            unfold ofV
            rw [HO.out, if_pos rfl, if_neg]
            intro hall
            have := List.all_eq_true.1 hall q (List.mem_of_getElem? HQQ.out)
            unfold wireOk at this
            rw [← HN.out.1] at this
            simp at this
            exact hw this)
          by_cases w0 : 0 ≤ q
          · have w1 : 2 * (n : Int) ≤ q := by
              by_cases w1 : q < 2 * (n : Int)
              · exact absurd ⟨w0, w1⟩ hw
              · omega
            clear hw
            have hd1 : decide (q < 0) = false := decide_eq_false (by omega)
            have hd2 : decide (2 * (n : Int) ≤ q) = true := decide_eq_true w1
            go_upto_region 7 with fail
            (refine region_drew (by kernel_rfl) (by kernel_rfl) ?_; (repeat (go_big_quiet_step (fail))); refine wpQuiet_nil ?_; rintro _ ⟨nq, rfl⟩)
            have hx8 := (Ext.by w3 t1).drewN nq
            have hD8 := ext_block hx8 HE3.out.2.2.1
            have hE8 := HE3.out.1.trans hx8
            generalize (w3.extBy t1).drewN nq = w8 at hx8 hD8 hE8 ⊢
            go_wp2_with (refine wpList_store_row rfl 24 (.tmp 4) (.tmp 43) rfl D #[.int .i64 0, .slice none 0 0] rfl rfl 24 _ hD8 rfl rfl (by simp [Value.oneCell']) ?_)
            refine ret_row2 rfl D 24 #[.int .i64 0, .slice none 0 0] _ rfl (setRow_heap _ _ _ _ _ _ hD8) Tryd.underlying24 rfl (by kernel_rfl) rfl ?_
            rw [HQ.out]
            refine OfP.no ((kb_setRow _ D _).ext hE8 (fun k hk => ?_)) HBAD.out
            have := HE3.out.2.2.2.2
            simp at hk
            omega
          · have w1 : q < 0 := by omega
            clear hw w0
            have hd1 : decide (q < 0) = true := decide_eq_true w1
            go_upto_region 7 with fail
            (refine region_drew (by kernel_rfl) (by kernel_rfl) ?_; (repeat (go_big_quiet_step (fail))); refine wpQuiet_nil ?_; rintro _ ⟨nq, rfl⟩)
            have hx8 := (Ext.by w3 t1).drewN nq
            have hD8 := ext_block hx8 HE3.out.2.2.1
            have hE8 := HE3.out.1.trans hx8
            generalize (w3.extBy t1).drewN nq = w8 at hx8 hD8 hE8 ⊢
            go_wp2_with (refine wpList_store_row rfl 24 (.tmp 4) (.tmp 43) rfl D #[.int .i64 0, .slice none 0 0] rfl rfl 24 _ hD8 rfl rfl (by simp [Value.oneCell']) ?_)
            refine ret_row2 rfl D 24 #[.int .i64 0, .slice none 0 0] _ rfl (setRow_heap _ _ _ _ _ _ hD8) Tryd.underlying24 rfl (by kernel_rfl) rfl ?_
            rw [HQ.out]
            refine OfP.no ((kb_setRow _ D _).ext hE8 (fun k hk => ?_)) HBAD.out
            have := HE3.out.2.2.2.2
            simp at hk
            omega
      · have hji : ¬ (j : Int) < (M : Int) := fun e => hlt (Int.ofNat_lt.1 e)
        replace HE3 := Lib.hid (And.intro (HE3.out.1.trans hxr) (And.intro (HE3.out.2.1.ext hxr) (And.intro (ext_block hxr HE3.out.2.2.1) HE3.out.2.2.2)))
        replace p0' := hxr.cell p0'
        replace hlB' := Nat.lt_of_lt_of_le hlB' hxr.size
        replace hlD' := Nat.lt_of_lt_of_le hlD' hxr.size
        clear hxr HW3
        have HALL : Hid (∀ q ∈ ws, wireOk l.length q = true) := Lib.hid fun q hq => by
          rw [← HN.out.1]
          exact hok.out q (by rw [List.take_of_length_le (by have := HN.out.2.1; omega)]; exact hq)
        clear hok
        go_upto_region 10 with (refine wpList_store_last rfl 24 (.tmp 8) (.tmp 47) rfl _ _ _ _ rfl rfl (by simp) (by kernel_rfl) (by kernel_rfl) (by kernel_rfl) ?_)
        go_frame
        have hx4 : Ext wr (wr.alloc (.cells #[.int .i64 n, .slice none 0 0] 24)) := (Ext.refl wr).alloc _
        have hbC := BoxV.of_row (heap_alloc_last wr (.cells #[.int .i64 n, .slice none 0 0] 24))
        have HOS0 : Hid (OS w B D wr.heap.size n (.slice a n cap) (.slice none 0 0) [] (clsN 0 (l.take 0)) (wr.alloc (.cells #[.int .i64 n, .slice none 0 0] 24))) := Lib.hid
          ⟨FR.nil w _ (HE3.out.1.trans hx4), HE3.out.2.1.ext hx4, ext_block hx4 HE3.out.2.2.1, hbC, by have := HE3.out.2.2.2; omega, by have := HE3.out.2.2.2; omega, HE3.out.1.size, by omega, by omega⟩
        have hszC := HE3.out.1.size
        generalize wr.alloc (.cells #[.int .i64 n, .slice none 0 0] 24) = w4 at HOS0 ⊢
        generalize wr.heap.size = C at HOS0 hszC ⊢
        have HG4 : Hid (∀ (k : Nat) (u : Value), (gateCells l)[k]? = some u → ∃ b o, a = some ⟨b, o, none⟩ ∧ b < w.heap.size ∧ w.cell? ⟨b, o + k, none⟩ = some u) := Lib.hid fun k u hu => by
          obtain ⟨a', cap', ea, -, -, hc⟩ := HGn.out
          simp only [Value.slice.injEq] at ea
          rw [← ea.1] at hc
          obtain ⟨b, o, z1, z2⟩ := hc k u hu
          exact ⟨b, o, z1, World.block_lt_of_cell? w _ z2, z2⟩
        have q0 := HOS0.out.b.cells 0 _ rfl
        clear hbC hx4 p0' hlB' hlD' HE3 hlt hj hji
        go_wp2
        go_loopw [9] (fun i wr => ∃ (j : Nat) (ov : Value) (vs : List Value), j ≤ n ∧ i = .int .i64 j ∧ Hid (OS w B D C n (.slice a n cap) ov vs (clsN 0 (l.take j)) wr) ∧ ∃ x y z, ov = .slice x y z) (fun i _ => n - (intOf i).toNat)
        case atStart => exact ⟨0, _, [], Nat.zero_le _, rfl, HOS0, _, _, _, rfl⟩
        case round =>
          obtain ⟨j, ov, vs, hj, rfl, HOS, ox, oy, oz, rfl⟩ := hrel
          clear HOS0 q0
          have q0 := HOS.out.b.cells 0 _ rfl
          have q0l := HOS.out.b.lt
          by_cases hlt : j < n
          · obtain ⟨q, hq⟩ : ∃ q, l[j]? = some q := ⟨_, List.getElem?_eq_getElem (by have := HN.out; omega)⟩
            have hcs3 := gateCells_at l j q hq
            obtain ⟨b3, o3, rfl, y3, g0⟩ := HG4.out (j * 3) _ hcs3.1
            obtain ⟨b3', o3', e0, -, g1⟩ := HG4.out (j * 3 + 1) _ hcs3.2.1
            simp only [Option.some.injEq, Addr.mk.injEq] at e0
            obtain ⟨rfl, rfl, -⟩ := e0
            obtain ⟨b3', o3', e0, -, g2⟩ := HG4.out (j * 3 + 2) _ hcs3.2.2
            simp only [Option.some.injEq, Addr.mk.injEq] at e0
            obtain ⟨rfl, rfl, -⟩ := e0
            rw [← Nat.add_assoc] at g1 g2
            have hEw := HOS.out.fr.ext
            replace g0 := hEw.cell g0
            replace g1 := hEw.cell g1
            replace g2 := hEw.cell g2
            have hgok := netOk_at HO.out hq
            have HCL := Lib.hid (clsN_take hq)
            have hI := HG.out.2 q (List.mem_of_getElem? hq)
            have hji : (j : Int) < (n : Int) := Int.ofNat_lt.2 hlt
            obtain ⟨op, qa, qb⟩ := q
            dsimp only at g0 g1 g2 hI
            have hvl : vs.length ≤ 200000 := by
              have h1 := HOS.out.fr.len
              have h2 := szF_len (clsN 0 (l.take j))
              have h3 := clsN_sz (l.take j) 0
              have h4 : (l.take j).length ≤ j := by simp; omega
              have := HN.out
              omega
            clear hq hcs3 hEw
            rw [Nat.zero_add] at hgok
            have HGOK := Lib.hid hgok
            clear hgok
            go_upto_region 14 with (refine wpList_store_last rfl 48 (.tmp 10) (.tmp 59) rfl _ _ _ _ rfl rfl (by simp) (by kernel_rfl) (by kernel_rfl) (by kernel_rfl) ?_)
            go_frame
            have HB5 := Lib.hid (BoxV.of_row (heap_alloc_last wr (.cells #[.int .i64 op, .int .i64 qa, .int .i64 qb] 48)))
            have HOS5 := Lib.hid (HOS.out.next ((Ext.refl wr).alloc (.cells #[.int .i64 op, .int .i64 qa, .int .i64 qb] 48)))
            clear HOS
            generalize wr.alloc (.cells #[.int .i64 op, .int .i64 qa, .int .i64 qb] 48) = w5 at HOS5 HB5 ⊢
            generalize wr.heap.size = Y at HB5 ⊢
            have hY0 := HB5.out.cells 0 _ rfl
            have hY1 := HB5.out.cells 1 _ rfl
            have hY2 := HB5.out.cells 2 _ rfl
            have hYl := HB5.out.lt
            have hC1 := HOS5.out.c.cells 1 _ rfl
            have hCl := HOS5.out.c.lt
            have hszW := HOS5.out.fr.ext.size
            clear g0 g1 g2 y3
            by_cases h2 : op = 2
            · have HNX : Hid (clsN 0 (l.take (j + 1)) = clsN 0 (l.take j)) := Lib.hid (by rw [HCL.out]; unfold gateC; subst h2; simp)
              subst h2
              go_wp2
              go_roundw
              case rel => exact ⟨j + 1, _, _, by omega, by go_num, by rw [HNX.out]; exact HOS5, _, _, _, rfl⟩
              case measure => simp [intOf]; omega
            · by_cases h1 : op = 1
              · have HNX : Hid (clsN 0 (l.take (j + 1)) = clsN 0 (l.take j) ++ [[-((j : Int) + 1)]]) := Lib.hid (by rw [HCL.out]; unfold gateC; subst h1; simp)
                subst h1
                go_wp2_with (at_builtin; (refine wpList_append_slc _ rfl (.tmp 67) (.tmp 71) 22 rfl w.heap.size 36 (.slice none 0 0) 1 24 Tryd.underlying22 infoInts rfl (by decide) (.slice ox oy oz) vs.length vs rfl (ownsRow_ext HOS5.out.fr.top (by repeat first | exact Ext.refl _ | assumption | refine Ext.drew ?_ | refine Ext.drewN ?_ _ | refine Ext.extBy ?_ _ | refine Ext.alloc ?_ _ | refine Ext.setCell ?_ (by simp; try omega) _ | (refine Ext.trans ?_ (by assumption)))) _ 1 [.slice (some ⟨w5.heap.size, 0, none⟩) 1 1] rfl (SlC.fresh _ #[.slice (some ⟨w5.heap.size, 0, none⟩) 1 1] _ 1 _ (by simp) (by decide)) rfl (by simp [Value.oneCell']) (by unfold maxLen; omega) (by omega) (by simp; omega) ?_; intro v3 w6 hown3 hg3 hat3; obtain ⟨x3, y3, z3, rfl⟩ := own_slice3 hown3; have HP := Lib.hid ((HOS5.out.next (by repeat first | exact Ext.refl _ | assumption | refine Ext.drew ?_ | refine Ext.drewN ?_ _ | refine Ext.extBy ?_ _ | refine Ext.alloc ?_ _ | refine Ext.setCell ?_ (by simp; try omega) _ | (refine Ext.trans ?_ (by assumption)))).app (xs := [.slice (some ⟨w5.heap.size, 0, none⟩) 1 1]) (rs := [[-((j : Int) + 1)]]) rfl (rows1 (HOS5.out.new [-((j : Int) + 1)] (by repeat first | exact Ext.refl _ | assumption | refine Ext.drew ?_ | refine Ext.drewN ?_ _ | refine Ext.extBy ?_ _ | refine Ext.alloc ?_ _ | refine Ext.setCell ?_ (by simp; try omega) _ | (refine Ext.trans ?_ (by assumption))) rfl (by unfold maxLen; simp))) hg3 hown3 hat3); have hc1 := HP.out.1.cells 1 _ rfl; have hcf := HP.out.1.fz 1; clear hown3 hg3 hat3))
                refine ⟨⟨j + 1, _, _, by omega, by go_num, by rw [HNX.out]; exact Lib.hid HP.out.2, _, _, _, rfl⟩, by simp [intOf]; omega⟩
              · have h3 : op = 3 ∧ 0 ≤ qa ∧ 0 ≤ qb ∧ qa < 2 * (j : Int) ∧ qb < 2 * (j : Int) := by
                  have := HGOK.out
                  unfold gateOk at this
                  dsimp only at this
                  rw [if_neg (fun e => e.elim h1 h2)] at this
                  by_cases e3 : op = 3
                  · rw [if_pos e3] at this; simp at this; exact ⟨e3, this⟩
                  · rw [if_neg e3] at this; cases this
                obtain ⟨rfl, a1, a2, a3, a4⟩ := h3
                obtain ⟨ma, rfl⟩ : ∃ m : Nat, qa = (m : Int) := ⟨qa.toNat, by omega⟩
                obtain ⟨mb, rfl⟩ : ∃ m : Nat, qb = (m : Int) := ⟨qb.toNat, by omega⟩
                obtain ⟨la, hla⟩ : ∃ x, x = litW (ma : Int) := ⟨_, rfl⟩
                obtain ⟨lb, hlb⟩ : ∃ x, x = litW (mb : Int) := ⟨_, rfl⟩
                have HNX : Hid (clsN 0 (l.take (j + 1)) = clsN 0 (l.take j) ++ [[-((j : Int) + 1), la], [-((j : Int) + 1), lb], [(j : Int) + 1, -la, -lb]]) := Lib.hid (by rw [HCL.out, hla, hlb]; unfold gateC; simp)
                have hlab : -1000000 ≤ la ∧ la ≤ 1000000 ∧ -1000000 ≤ lb ∧ lb ≤ 1000000 := by
                  rw [hla, hlb]; unfold litW
                  refine ⟨?_, ?_, ?_, ?_⟩ <;> split <;> omega
                obtain ⟨la1, la2, lb1, lb2⟩ := hlab
                have HLL := Lib.hid (And.intro hla hlb)
                have hma : ma < 1000000 := by omega
                have hmb : mb < 1000000 := by omega
                clear hla hlb h1 h2
                go_upto_region 21 with (go_at_call 32; (first | (with_reducible refine (literalR_any ma hma _).mono ?_) | (with_reducible refine (literalR_any mb hmb _).mono ?_)); rintro e w' ⟨rfl, rfl⟩; (first | rw [← HLL.out.1] | rw [← HLL.out.2]))
                (first | rw [← HLL.out.2] | skip)
                have HOS7 := HOS5
                clear HB5 HOS5 hY0 hY1 hY2 hYl hC1 hCl hszW
                have hC1 := HOS7.out.c.cells 1 _ rfl
                have hCl := HOS7.out.c.lt
                have hszW := HOS7.out.fr.ext.size
                go_wp2_with (at_builtin; (refine wpList_append_slc _ rfl (.tmp 83) (.tmp 98) 22 rfl w.heap.size 36 (.slice none 0 0) 1 24 Tryd.underlying22 infoInts rfl (by decide) (.slice ox oy oz) vs.length vs rfl (ownsRow_ext HOS7.out.fr.top (by repeat first | exact Ext.refl _ | assumption | refine Ext.drew ?_ | refine Ext.drewN ?_ _ | refine Ext.extBy ?_ _ | refine Ext.alloc ?_ _ | refine Ext.setCell ?_ (by simp; try omega) _ | (refine Ext.trans ?_ (by assumption)))) _ 3 [.slice (some ⟨w5.heap.size, 0, none⟩) 2 2, .slice (some ⟨w5.heap.size + 1, 0, none⟩) 2 2, .slice (some ⟨w5.heap.size + 1 + 1, 0, none⟩) 3 3] rfl (SlC.fresh _ #[.slice (some ⟨w5.heap.size, 0, none⟩) 2 2, .slice (some ⟨w5.heap.size + 1, 0, none⟩) 2 2, .slice (some ⟨w5.heap.size + 1 + 1, 0, none⟩) 3 3] _ 3 _ (by simp) (by decide)) rfl (by simp [Value.oneCell']) (by unfold maxLen; omega) (by omega) (by simp; omega) ?_; intro v3 w6 hown3 hg3 hat3; obtain ⟨x3, y3, z3, rfl⟩ := own_slice3 hown3; have HP := Lib.hid ((HOS7.out.next (by repeat first | exact Ext.refl _ | assumption | refine Ext.drew ?_ | refine Ext.drewN ?_ _ | refine Ext.extBy ?_ _ | refine Ext.alloc ?_ _ | refine Ext.setCell ?_ (by simp; try omega) _ | (refine Ext.trans ?_ (by assumption)))).app (xs := [.slice (some ⟨w5.heap.size, 0, none⟩) 2 2, .slice (some ⟨w5.heap.size + 1, 0, none⟩) 2 2, .slice (some ⟨w5.heap.size + 1 + 1, 0, none⟩) 3 3]) (rs := [[-((j : Int) + 1), la], [-((j : Int) + 1), lb], [(j : Int) + 1, -la, -lb]]) rfl (rows3 (HOS7.out.new [-((j : Int) + 1), la] (by repeat first | exact Ext.refl _ | assumption | refine Ext.drew ?_ | refine Ext.drewN ?_ _ | refine Ext.extBy ?_ _ | refine Ext.alloc ?_ _ | refine Ext.setCell ?_ (by simp; try omega) _ | (refine Ext.trans ?_ (by assumption))) rfl (by unfold maxLen; simp)) ((HOS7.out.next ((Ext.refl w5).alloc (.cells (i64s [-((j : Int) + 1), la]).toArray 3))).new [-((j : Int) + 1), lb] (by repeat first | exact Ext.refl _ | assumption | refine Ext.drew ?_ | refine Ext.drewN ?_ _ | refine Ext.extBy ?_ _ | refine Ext.alloc ?_ _ | refine Ext.setCell ?_ (by simp; try omega) _ | (refine Ext.trans ?_ (by assumption))) (World.size_alloc _ _).symm (by unfold maxLen; simp)) ((HOS7.out.next (((Ext.refl w5).alloc (.cells (i64s [-((j : Int) + 1), la]).toArray 3)).alloc (.cells (i64s [-((j : Int) + 1), lb]).toArray 3))).new [(j : Int) + 1, -la, -lb] (by repeat first | exact Ext.refl _ | assumption | refine Ext.drew ?_ | refine Ext.drewN ?_ _ | refine Ext.extBy ?_ _ | refine Ext.alloc ?_ _ | refine Ext.setCell ?_ (by simp; try omega) _ | (refine Ext.trans ?_ (by assumption))) (by simp) (by unfold maxLen; simp))) hg3 hown3 hat3); have hc1 := HP.out.1.cells 1 _ rfl; have hcf := HP.out.1.fz 1; clear hown3 hg3 hat3))
                refine ⟨⟨j + 1, _, _, by omega, by go_num, by rw [HNX.out]; exact Lib.hid HP.out.2, _, _, _, rfl⟩, by simp [intOf]; omega⟩
          · obtain rfl : j = n := by omega
            have hji : ¬ (j : Int) < (j : Int) := by omega
            have HOSn : Hid (OS w B D C j (.slice a j cap) (.slice ox oy oz) vs (clsN 0 l ++ (ws.take 0).map fun x => [litW x]) wr) := Lib.hid (by
              have := HOS.out
              rw [List.take_of_length_le (by have := HN.out.1; omega)] at this
              simpa using this)
            have HW3 : Hid (∀ (k : Nat) (q : Int), ws[k]? = some q → ∃ b o, aw = some ⟨b, o, none⟩ ∧ b < w.heap.size ∧ w.cell? ⟨b, o + k, none⟩ = some (.int .i64 q)) := Lib.hid fun k q hq => by
              obtain ⟨a', cap', ea, -, -, hc⟩ := HWn.out
              simp only [Value.slice.injEq] at ea
              rw [← ea.1] at hc
              obtain ⟨b, o, z1, z2⟩ := hc k (.int .i64 q) (by simp [i64s, hq])
              exact ⟨b, o, z1, World.block_lt_of_cell? w _ z2, z2⟩
            clear HOS HG4 hlt
            go_wp2
            go_loopw [14] (fun i wr => ∃ (k : Nat) (ov : Value) (vs : List Value), k ≤ M ∧ i = .int .i64 k ∧ Hid (OS w B D C j (.slice a j cap) ov vs (clsN 0 l ++ (ws.take k).map fun x => [litW x]) wr) ∧ ∃ x y z, ov = .slice x y z) (fun i _ => M - (intOf i).toNat)
            case atStart => exact ⟨0, _, vs, Nat.zero_le _, rfl, HOSn, _, _, _, rfl⟩
            case round =>
              obtain ⟨k, ov, us, hk, rfl, HOS, ox, oy, oz, rfl⟩ := hrel
              clear HOSn
              by_cases hlt : k < M
              · obtain ⟨q, hq⟩ : ∃ q, ws[k]? = some q := ⟨_, List.getElem?_eq_getElem (by have := HN.out.2.1; omega)⟩
                obtain ⟨b, o, rfl, z1, g1⟩ := HW3.out k q hq
                have g00 := g1
                replace g1 := HOS.out.fr.ext.cell g1
                have hkk : (k : Int) < (M : Int) := Int.ofNat_lt.2 hlt
                have hwo := HALL.out q (List.mem_of_getElem? hq)
                unfold wireOk at hwo
                simp only [Bool.and_eq_true, decide_eq_true_eq] at hwo
                obtain ⟨m, rfl⟩ : ∃ m : Nat, q = (m : Int) := ⟨q.toNat, by omega⟩
                have hm : m < 1000000 := by have := HN.out.1; omega
                have HTK : Hid ((ws.take (k + 1)).map (fun x => [litW x]) = (ws.take k).map (fun x => [litW x]) ++ [[litW (m : Int)]]) := Lib.hid (by rw [List.take_add_one, hq]; simp)
                have hvl : us.length ≤ 400000 := by
                  have h1 := HOS.out.fr.len
                  have h2 := szF_len (clsN 0 l)
                  have h3 := clsN_sz l 0
                  have := HN.out
                  simp at h1
                  omega
                clear hq hwo
                go_upto_region 25 with fail
                have hs := HOS.out.next ((Ext.refl wr).drew)
                have hszW := hs.fr.ext.size
                clear HOS g1
                refine wp_region_noPanic ?_
                refine hd_begin (S := fun w' => w'.cell? ⟨C, 1, none⟩ = some (.slice ox oy oz) ∧ w'.cell? ⟨b, o + k, none⟩ = some (.int .i64 (m : Int))) 11 (by kernel_rfl) (by kernel_rfl) ⟨hs.c.cells 1 _ rfl, hs.fr.ext.cell g00⟩ (fun hHeld => ?_)
                generalize wr.drew = wd at hs hszW hHeld ⊢
                refine hd_take (i := 0) (v := .pointer (some ⟨C, 1, none⟩)) rfl (by kernel_rfl) (by kernel_rfl) (fun _ _ _ h => h) (Or.inl ⟨by rfl, fun w' hSw => by (obtain ⟨s1, s2⟩ := hSw; go_simp)⟩) hHeld ?_
                try simp only [Act.put, List.setIfInBounds_toArray, List.set_cons_zero, List.set_cons_succ]
                refine hd_take (i := 1) (v := .slice ox oy oz) rfl (by kernel_rfl) (by kernel_rfl) (fun _ _ _ h => h) (Or.inl ⟨by rfl, fun w' hSw => by (obtain ⟨s1, s2⟩ := hSw; go_simp)⟩) hHeld ?_
                try simp only [Act.put, List.setIfInBounds_toArray, List.set_cons_zero, List.set_cons_succ]
                refine hd_take (i := 2) (v := .slice (some ⟨b, o, none⟩) M capw) rfl (by kernel_rfl) (by kernel_rfl) (fun _ _ _ h => h) (Or.inl ⟨by rfl, fun w' hSw => by (obtain ⟨s1, s2⟩ := hSw; go_simp)⟩) hHeld ?_
                try simp only [Act.put, List.setIfInBounds_toArray, List.set_cons_zero, List.set_cons_succ]
                refine hd_take (i := 3) (v := .int .i64 (k : Int)) rfl (by kernel_rfl) (by kernel_rfl) (fun _ _ _ h => h) (Or.inl ⟨by rfl, fun w' hSw => by (obtain ⟨s1, s2⟩ := hSw; go_simp)⟩) hHeld ?_
                try simp only [Act.put, List.setIfInBounds_toArray, List.set_cons_zero, List.set_cons_succ]
                refine hd_take (i := 4) (v := .pointer (some ⟨b, o + k, none⟩)) rfl (by kernel_rfl) (by kernel_rfl) (fun _ _ _ h => h) (Or.inl ⟨by rfl, fun w' hSw => by (obtain ⟨s1, s2⟩ := hSw; go_simp)⟩) hHeld ?_
                try simp only [Act.put, List.setIfInBounds_toArray, List.set_cons_zero, List.set_cons_succ]
                refine hd_take (i := 5) (v := .int .i64 (m : Int)) rfl (by kernel_rfl) (by kernel_rfl) (fun _ _ _ h => h) (Or.inl ⟨by rfl, fun w' hSw => by (obtain ⟨s1, s2⟩ := hSw; go_simp)⟩) hHeld ?_
                try simp only [Act.put, List.setIfInBounds_toArray, List.set_cons_zero, List.set_cons_succ]
                refine hd_one (i := 6) rfl (by kernel_rfl) (by decide) (fun K hK => ?_)
                go_simp
                go_at_call 32
                refine (literalR_any m hm _).mono ?_
                rintro e wk ⟨rfl, rfl⟩
                refine hK.out _ _ ⟨hs.c.cells 1 _ rfl, hs.fr.ext.cell g00⟩ (fun hHeld => ?_)
                clear hK K
                try simp only [Act.put, List.setIfInBounds_toArray, List.set_cons_zero, List.set_cons_succ]
                obtain ⟨lm, hlm⟩ : ∃ x, x = litW (m : Int) := ⟨_, rfl⟩
                rw [← hlm] at HTK ⊢
                clear hlm
                refine hd_one (i := 7) rfl (by kernel_rfl) (by decide) (fun K hK => ?_)
                go_simp
                refine hK.out _ _ ⟨(hs.next ((Ext.refl wd).alloc _)).c.cells 1 _ rfl, (hs.next ((Ext.refl wd).alloc _)).fr.ext.cell g00⟩ (fun hHeld => ?_)
                clear hK K
                try simp only [Act.put, List.setIfInBounds_toArray, List.set_cons_zero, List.set_cons_succ]
                refine hd_one (i := 8) rfl (by kernel_rfl) (by decide) (fun K hK => ?_)
                go_simp
                refine hK.out _ _ ⟨(hs.next (((Ext.refl wd).alloc _).alloc _)).c.cells 1 _ rfl, (hs.next (((Ext.refl wd).alloc _).alloc _)).fr.ext.cell g00⟩ (fun hHeld => ?_)
                clear hK K
                try simp only [Act.put, List.setIfInBounds_toArray, List.set_cons_zero, List.set_cons_succ]
                refine hd_one (i := 9) rfl (by kernel_rfl) (by decide) (fun K hK => ?_)
                refine step_append_slc _ rfl (.tmp 108) (.tmp 115) 22 rfl w.heap.size 36 (.slice none 0 0) 1 24 Tryd.underlying22 infoInts rfl (by decide) (.slice ox oy oz) us.length us rfl (ownsRow_ext hs.fr.top (by repeat first | exact Ext.refl _ | assumption | refine Ext.drew ?_ | refine Ext.drewN ?_ _ | refine Ext.extBy ?_ _ | refine Ext.alloc ?_ _ | refine Ext.setCell ?_ (by simp; try omega) _ | (refine Ext.trans ?_ (by assumption)))) _ 1 [.slice (some ⟨wd.heap.size, 0, none⟩) 1 1] rfl (SlC.fresh _ #[.slice (some ⟨wd.heap.size, 0, none⟩) 1 1] _ 1 _ (by simp) (by decide)) rfl (by simp [Value.oneCell']) (by unfold maxLen; omega) (by omega) (by simp; omega) ?_
                intro v3 w6 hown3 hg3 hat3
                obtain ⟨x3, y3, z3, rfl⟩ := own_slice3 hown3
                have hxw6 := (hs.next (by repeat first | exact Ext.refl _ | assumption | refine Ext.drew ?_ | refine Ext.drewN ?_ _ | refine Ext.extBy ?_ _ | refine Ext.alloc ?_ _ | refine Ext.setCell ?_ (by simp; try omega) _ | (refine Ext.trans ?_ (by assumption)))).appX (xs := [.slice (some ⟨wd.heap.size, 0, none⟩) 1 1]) (rs := [[lm]]) rfl (rows1 (hs.new [lm] (by repeat first | exact Ext.refl _ | assumption | refine Ext.drew ?_ | refine Ext.drewN ?_ _ | refine Ext.extBy ?_ _ | refine Ext.alloc ?_ _ | refine Ext.setCell ?_ (by simp; try omega) _ | (refine Ext.trans ?_ (by assumption))) rfl (by unfold maxLen; simp))) hg3 hown3 hat3
                have HP := Lib.hid ((hs.next (by repeat first | exact Ext.refl _ | assumption | refine Ext.drew ?_ | refine Ext.drewN ?_ _ | refine Ext.extBy ?_ _ | refine Ext.alloc ?_ _ | refine Ext.setCell ?_ (by simp; try omega) _ | (refine Ext.trans ?_ (by assumption)))).app (xs := [.slice (some ⟨wd.heap.size, 0, none⟩) 1 1]) (rs := [[lm]]) rfl (rows1 (hs.new [lm] (by repeat first | exact Ext.refl _ | assumption | refine Ext.drew ?_ | refine Ext.drewN ?_ _ | refine Ext.extBy ?_ _ | refine Ext.alloc ?_ _ | refine Ext.setCell ?_ (by simp; try omega) _ | (refine Ext.trans ?_ (by assumption))) rfl (by unfold maxLen; simp))) hg3 hown3 hat3)
                refine hK.out _ _ ⟨HP.out.1.cells 1 _ rfl, hxw6.cell g00⟩ (fun hHeld => ?_)
                clear hK K
                try simp only [Act.put, List.setIfInBounds_toArray, List.set_cons_zero, List.set_cons_succ]
                refine hd_take (i := 10) (v := .pointer (some ⟨C, 1, none⟩)) rfl (by kernel_rfl) (by kernel_rfl) (fun _ _ _ h => h) (Or.inl ⟨by rfl, fun w' hSw => by go_simp⟩) hHeld ?_
                try simp only [Act.put, List.setIfInBounds_toArray, List.set_cons_zero, List.set_cons_succ]
                refine hd_end (by kernel_rfl) ?_
                simp only [List.drop_succ_cons, List.drop_zero]
                have hc1 := HP.out.1.cells 1 _ rfl
                have hcf := HP.out.1.fz 1
                clear hown3 hg3 hat3 hHeld
                go_wp2_with fail
                refine NoPanic.normal ?_
                go_wp2_with fail
                refine ⟨⟨k + 1, _, _, by omega, by go_num, by rw [HTK.out, ← List.append_assoc]; exact Lib.hid HP.out.2, _, _, _, rfl⟩, by simp [intOf]; omega⟩
              · have hkk : ¬ (k : Int) < (M : Int) := fun e => hlt (Int.ofNat_lt.1 e)
                have HF : Hid (OS w B D C j (.slice a j cap) (.slice ox oy oz) us (ofN l ws) wr) := Lib.hid (by
                  have := HOS.out
                  rw [List.take_of_length_le (by have := HN.out.2.1; omega)] at this
                  exact this)
                have hcc1 := HF.out.c.cells 1 _ rfl
                have hcc0 := HF.out.c.cells 0 _ rfl
                have hccl := HF.out.c.lt
                have HSZ : Hid (szF (ofN l ws) ≤ 200000 ∧ chkF (j : Int) (ofN l ws) = 0) := Lib.hid ⟨by have := ofN_sz l ws; have := HN.out; omega, by rw [HN.out.1]; exact ofN_ok HO.out HALL.out⟩
                clear HOS hlt
                go_upto_region 28 with (go_at_call 12; refine (checkFR_any (j : Int) _ us (ofN l ws) _ (by omega) (by omega) HF.out.fr.rows HSZ.out.1).mono ?_; rintro e w' ⟨rfl, hE'⟩; rw [HSZ.out.2]; (first | (with_reducible obtain ⟨t9, rfl⟩ := Ext.tok2 hE') | (obtain ⟨t9, rfl⟩ := Ext.tok hE')))
                go_wp2_with (refine wpList_store_row rfl 24 (.tmp 4) (.tmp 122) rfl D #[.int .i64 (j : Int), .slice ox oy oz] rfl rfl 24 _ (ext_block (Ext.by wr t9) HF.out.d) rfl rfl (by simp [Value.oneCell']) ?_)
                refine ret_row2 rfl D 24 #[.int .i64 (j : Int), .slice ox oy oz] _ rfl (setRow_heap _ _ _ _ _ _ (ext_block (Ext.by wr t9) HF.out.d)) Tryd.underlying24 rfl (by kernel_rfl) rfl ?_
                rw [HQ.out]
                have e := HN.out.1
                have HFR : FR w [] (.slice ox oy oz) us (ofN l ws) ((wr.extBy t9).setRow D #[.int .i64 (j : Int), .slice ox oy oz]) := ((HF.out.next (Ext.by wr t9)).fr.kb (kb_setRow _ D _) (by simp) HF.out.nS).mono (fun k hk => by simp at hk)
                rw [e] at HFR ⊢
                refine OfP.yes HFR ?_
                unfold ofV
                rw [HO.out, if_pos rfl, if_pos (List.all_eq_true.2 HALL.out)]
end Go.Proofs.YtlikmdeplpldlaaDoor

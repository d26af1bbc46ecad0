/-
  Ticks lent with room behind them, and whether they stay: the walks.
  Conditions: the rows lie in memory, none of them too long.
-/
import Derived.Test.YtipfcfaigbeakaaRunsA
import Derived.Test.YtipfcfaigbeakaaJExecU
import Derived.Test.YtipfcfaigbeakaaJMem
import Derived.Test.YtipfcfaigbeakaaMCodeRefB
namespace Go.Proofs.Ytipfcfaigbeakaa
open Go.RowKit
set_option linter.unusedSimpArgs false
set_option linter.unusedVariables false
set_option maxRecDepth 100000

/-- Rows lent: each with -71 behind it. -/
structure LentA (W : World) (ov : Value) (vs : List Value) (rs : List (List Int)) (w : World) : Prop where
  ext : Ext W w
  top : w.ownsRow W.heap.size 22 1 ov vs.length vs
  len : vs.length = rs.length
  row : ∀ (j : Nat) (x : Value) (r : List Int), vs[j]? = some x → rs[j]? = some r → ∃ b cap, x = .slice (some ⟨b, 0, none⟩) r.length cap ∧ r.length + 1 ≤ cap ∧ cap ≤ maxLen ∧ w.ownsRow W.heap.size 3 1 (.slice (some ⟨b, 0, none⟩) (r.length + 1) cap) (r.length + 1) (i64s (r ++ [-71])) ∧ ov.ownBlock ≠ some b
theorem LentA.more {W w w' : World} {ov : Value} {vs : List Value} {rs : List (List Int)} (h : LentA W ov vs rs w) (hx : Ext w w') : LentA W ov vs rs w' :=
  ⟨h.ext.trans hx, ownsRow_ext h.top hx, h.len, fun j x r h1 h2 => by
    obtain ⟨b, cap, e, e1, e2, e3, e4⟩ := h.row j x r h1 h2
    exact ⟨b, cap, e, e1, e2, ownsRow_ext e3 hx, e4⟩⟩
/-- What the lent rows are behind an append to their list. -/
theorem LentA.old {W w w1 w2 : World} {ov ov2 : Value} {vs : List Value} {rs : List (List Int)} (h : LentA W ov vs rs w) (hx : Ext w w1) (hg : w1.grownBy w2 ov.ownBlock) (hat : ov2.ownBlock = ov.ownBlock ∨ ov2.ownBlock = some w1.heap.size) :
    Ext W w2 ∧ ∀ (j : Nat) (x : Value) (r : List Int), vs[j]? = some x → rs[j]? = some r → ∃ b cap, x = .slice (some ⟨b, 0, none⟩) r.length cap ∧ r.length + 1 ≤ cap ∧ cap ≤ maxLen ∧ w2.ownsRow W.heap.size 3 1 (.slice (some ⟨b, 0, none⟩) (r.length + 1) cap) (r.length + 1) (i64s (r ++ [-71])) ∧ ov2.ownBlock ≠ some b := by
  have hk : Kb ov.ownBlock.toList w1 w2 := Kb.grown hg (fun g hg => Option.mem_toList.2 hg)
  refine ⟨hk.ext (h.ext.trans hx) (fun k hk => (h.top.lt k (Option.mem_toList.1 hk)).1), fun j x r' h1 h2 => ?_⟩
  obtain ⟨b', cap', e, e1, e2, e3, e4⟩ := h.row j x r' h1 h2
  refine ⟨b', cap', e, e1, e2, hk.row (ownsRow_ext e3 hx) (fun g hg e => ?_), fun e => ?_⟩
  · simp only [Value.ownBlock, Option.some.injEq] at e
    rw [e] at e4
    exact e4 (Option.mem_toList.1 hg)
  · rcases hat with e1 | e1
    · rw [e1] at e; exact e4 e
    · rw [e1] at e
      simp only [Option.some.injEq] at e
      have := (e3.lt b' rfl).2
      have := hx.size
      omega
theorem LentA.push {W w w1 w2 : World} {ov ov2 : Value} {vs : List Value} {rs : List (List Int)} {b cap : Nat} {r : List Int} (h : LentA W ov vs rs w) (hx : Ext w w1) (hr : w1.ownsRow w.heap.size 3 1 (.slice (some ⟨b, 0, none⟩) (r.length + 1) cap) (r.length + 1) (i64s (r ++ [-71])))
    (hown : w2.ownsRow W.heap.size 22 1 ov2 (vs.length + 1) (vs ++ [.slice (some ⟨b, 0, none⟩) r.length cap])) (hg : w1.grownBy w2 ov.ownBlock) (hat : ov2.ownBlock = ov.ownBlock ∨ ov2.ownBlock = some w1.heap.size) :
    LentA W ov2 (vs ++ [.slice (some ⟨b, 0, none⟩) r.length cap]) (rs ++ [r]) w2 := by
  obtain ⟨hE, hO⟩ := h.old hx hg hat
  have hk : Kb ov.ownBlock.toList w1 w2 := Kb.grown hg (fun g hg => Option.mem_toList.2 hg)
  have hlt : ∀ k, ov.ownBlock = some k → k < w.heap.size := fun k hk => (h.top.lt k hk).2
  refine ⟨hE, by simpa using hown, by simp [h.len], fun j x r' h1 h2 => ?_⟩
  by_cases hj : j < vs.length
  · rw [List.getElem?_append_left hj] at h1
    rw [List.getElem?_append_left (by rw [← h.len]; exact hj)] at h2
    exact hO j x r' h1 h2
  · have hjl : j = vs.length := by
      have := (List.getElem?_eq_some_iff.1 h1).1
      simp at this
      omega
    subst hjl
    rw [List.getElem?_append_right (Nat.le_refl _), Nat.sub_self] at h1
    rw [h.len, List.getElem?_append_right (Nat.le_refl _), Nat.sub_self] at h2
    simp only [List.getElem?_cons_zero, Option.some.injEq] at h1 h2
    subst h1
    subst h2
    have hb := hr.lt b rfl
    have hne : ov.ownBlock ≠ some b := fun e => by have := hlt b e; omega
    have hc : r.length + 1 ≤ cap ∧ cap ≤ maxLen := by
      rcases hr.2 with ⟨e, _⟩ | ⟨g1, cap1, cur, e, _, _, h3, hc, _⟩
      · cases e
      · simp only [Value.slice.injEq] at e; rw [e.2.2]; exact ⟨h3, hc⟩
    refine ⟨b, cap, rfl, hc.1, hc.2, hk.row (ownsRow_base hr h.ext.size) (fun g hg e => ?_), fun e => ?_⟩
    · simp only [Value.ownBlock, Option.some.injEq] at e
      rw [e] at hne
      exact hne (Option.mem_toList.1 hg)
    · rcases hat with e1 | e1
      · rw [e1] at e; exact hne e
      · rw [e1] at e; simp only [Option.some.injEq] at e; omega
theorem sizeInts (w : World) : (sizeOf (Try.prog.elem 51)).run Try.prog w = .ok 1 w := by kernel_rfl
/-- Ticks lent: one row more behind them. -/
structure Full (W : World) (v : Value) (vs : List Value) (rs : List (List Int)) (w : World) : Prop where
  ext : Ext W w
  top : ∃ tb tcap lb, v = .slice (some ⟨tb, 0, none⟩) rs.length tcap ∧ rs.length + 1 ≤ tcap ∧ tcap ≤ maxLen ∧ w.ownsRow W.heap.size 22 1 (.slice (some ⟨tb, 0, none⟩) (rs.length + 1) tcap) (rs.length + 1) (vs ++ [.slice (some ⟨lb, 0, none⟩) 1 1]) ∧ w.cell? ⟨lb, 0, none⟩ = some (.int .i64 (-71))
  len : vs.length = rs.length
  row : ∀ (j : Nat) (x : Value) (r : List Int), vs[j]? = some x → rs[j]? = some r → ∃ b cap, x = .slice (some ⟨b, 0, none⟩) r.length cap ∧ r.length + 1 ≤ cap ∧ cap ≤ maxLen ∧ w.ownsRow W.heap.size 3 1 (.slice (some ⟨b, 0, none⟩) (r.length + 1) cap) (r.length + 1) (i64s (r ++ [-71]))
theorem Full.more {W w w' : World} {v : Value} {vs : List Value} {rs : List (List Int)} (h : Full W v vs rs w) (hx : Ext w w') : Full W v vs rs w' := by
  obtain ⟨tb, tcap, lb, e, e1, e2, e3, e4⟩ := h.top
  exact ⟨h.ext.trans hx, ⟨tb, tcap, lb, e, e1, e2, ownsRow_ext e3 hx, hx.cell e4⟩, h.len, fun j x r h1 h2 => by
    obtain ⟨b, cap, e, e1, e2, e3⟩ := h.row j x r h1 h2
    exact ⟨b, cap, e, e1, e2, ownsRow_ext e3 hx⟩⟩
theorem i64s_take {r : List Int} : (i64s (r ++ [-71])).take r.length = i64s r := by
  rw [← List.map_take, List.take_left' rfl]
theorem Full.rows {W w : World} {v : Value} {vs : List Value} {rs : List (List Int)} (h : Full W v vs rs w) : RowsIn w v vs rs := by
  obtain ⟨tb, tcap, lb, rfl, e1, e2, e3, e4⟩ := h.top
  refine ⟨?_, h.len, fun j x r h1 h2 => ?_⟩
  · have := SlC.of_owns (own_shorter e3 rs.length (by omega))
    rwa [← h.len, List.take_left' rfl, h.len] at this
  · obtain ⟨b, cap, rfl, e1, e2, e3⟩ := h.row j x r h1 h2
    have := SlC.of_owns (own_shorter e3 r.length (by omega))
    rwa [i64s_take] at this
set_option maxHeartbeats 4000000 in
theorem lent_any {v : Value} {vs : List Value} {rs : List (List Int)} {w : World} (h : RowsIn w v vs rs) (hl : rs.length ≤ 2000) (hsz : ∀ r ∈ rs, r.length ≤ 2000) :
    Calls Try.prog 36 #[v] w fun e w' => ∃ v' vs', e = .returned v' ∧ Full w v' vs' rs w' := by
  have HR := Lib.hid h
  have HS := Lib.hid hsz
  obtain ⟨a, cap, rfl, hn1, hn2, hc⟩ := id h.top
  have HT := Lib.hid hc
  have hw := nat64 hn1 hn2
  obtain ⟨n, hn⟩ : ∃ n, n = rs.length := ⟨_, rfl⟩
  rw [← hn] at hn1 hw hl ⊢
  have HN := Lib.hid hn
  obtain ⟨Q, hQ⟩ : ∃ Q : Ending → World → Prop, Q = fun e w' => ∃ v' vs', e = .returned v' ∧ Full w v' vs' rs w' := ⟨_, rfl⟩
  rw [← hQ]
  have HQ := Lib.hid hQ
  unfold maxLen at hn2
  clear hn hc h hsz hQ
  go_enter Try.func36, Try.ntmps36
  go_wp2
  go_loopw [3, 4] (fun o i wr => ∃ (j : Nat) (us : List Value), j ≤ n ∧ i = .int .i64 j ∧ Hid (LentA w o us (rs.take j) wr ∧ ∃ x y z, o = .slice x y z)) (fun _ i _ => n - (intOf i).toNat)
  case atStart => exact ⟨0, [], Nat.zero_le _, rfl, Lib.hid ⟨⟨Ext.refl _, own_nil _ _ _ _, rfl, fun j x r h1 => by simp at h1⟩, _, _, _, rfl⟩⟩
  case round =>
    obtain ⟨j, us, hj, rfl, HLr⟩ := hrel
    obtain ⟨oa, ol, oc, rfl⟩ := HLr.out.2
    by_cases hlt : j < n
    · obtain ⟨x, r, hx, hr, hs⟩ := HR.out.at (j := j) (by have := HN.out; omega)
      obtain ⟨b, o, rfl, f0⟩ := HT.out j x hx
      have hlr := HS.out r (List.mem_of_getElem? hr)
      have hji : (j : Int) < (n : Int) := Int.ofNat_lt.2 hlt
      have f1 := HLr.out.1.ext.cell f0
      have z1 : b < wr.heap.size := World.block_lt_of_cell? wr _ f1
      have HSX := Lib.hid (hs.ext HLr.out.1.ext)
      obtain ⟨xa, xcap, rfl, -⟩ := hs
      obtain ⟨L, hL⟩ : ∃ L, L = r.length := ⟨_, rfl⟩
      have HLL := Lib.hid hL
      have hul : us.length = j := by rw [HLr.out.1.len, List.length_take]; have := HN.out; omega
      have HTOP := Lib.hid HLr.out.1.top
      have hos := HLr.out.1.ext.size
      have hoB : ∀ g, (Value.slice oa ol oc).ownBlock = some g → w.heap.size ≤ g ∧ g < wr.heap.size := fun g hg => HLr.out.1.top.lt g hg
      have HRJ : Hid (rs.take (j + 1) = rs.take j ++ [r]) := Lib.hid (by rw [List.take_add_one, hr]; rfl)
      rw [← hL] at hlr f0 f1 HSX
      clear hx hr hL
      have hCUT : ∀ (b cap : Nat), L + 1 ≤ cap → ∀ w, (Instr.sliceAt 22 (.slice (some ⟨b, 0, none⟩) (L + 1) cap) none (some (.int .i64 (L : Int))) none).run Try.prog w = .ok (.slice (some ⟨b, 0, none⟩) L cap) w := fun b cap h => run_cut_h (P := Try.prog) 22 (by kernel_rfl) sizeInt b (L + 1) cap L (by omega)
      have hxw : Ext w wr := HLr.out.1.ext
      have HSB : Hid (∀ w', Ext w w' → w'.cell? ⟨b, o + j, none⟩ = some (.slice xa L xcap)) := Lib.hid fun w' hx => hx.cell f0
      clear f0 z1
      go_wp2
      go_region_held3 (fun w' => w'.cell? ⟨b, o + j, none⟩ = some (.slice xa L xcap))
        (first | exact HSB.out _ (by repeat first | exact Ext.refl _ | assumption | refine Ext.drew ?_ | refine Ext.drewN ?_ _ | refine Ext.extBy ?_ _ | refine Ext.alloc ?_ _ | refine Ext.setCell ?_ (by simp; try omega) _ | (refine Ext.trans ?_ (by assumption))))
        (first
          | (refine step_append_slc _ rfl (.const (.slice none 0 0)) (.tmp 15) 22 rfl wr.heap.size 3 (.int .i64 0) 1 8 Try.underlying22 infoInt rfl (by decide) (.slice none 0 0) 0 [] rfl (own_nil _ _ _ _) _ L (i64s r) rfl (HSX.out.ext (by repeat first | exact Ext.refl _ | assumption | refine Ext.drew ?_ | refine Ext.drewN ?_ _ | refine Ext.extBy ?_ _ | refine Ext.alloc ?_ _ | refine Ext.setCell ?_ (by simp; try omega) _ | (refine Ext.trans ?_ (by assumption)))) (by simp [HLL.out]) (one_i64s r) (by unfold maxLen; omega) (by omega) (by simp) ?_; intro v1 w1 hown1 hg1 hat1; have hE1 := ext_grown_nil hg1)
          | (refine step_append_slc _ rfl (.tmp 16) (.tmp 17) 22 rfl wr.heap.size 3 (.int .i64 0) 1 8 Try.underlying22 infoInt rfl (by decide) v1 (0 + L) ([] ++ i64s r) rfl (by first | exact hown1 | exact hown1.alloc _) _ 1 [.int .i64 (-71)] rfl (by first | exact SlC.fresh _ #[.int .i64 (-71)] _ 1 _ (by simp) (by decide) | exact (fresh_drew _ #[.int .i64 (-71)] _ 1 _ (by simp) (by decide)).ext hE1 | exact (SlC.fresh _ #[.int .i64 (-71)] _ 1 _ (by simp) (by decide)).ext hE1) (by simp) (by simp [Value.oneCell']) (by unfold maxLen; omega) (by omega) (by have := hE1.size; simp at this ⊢; omega) ?_; intro v2 w2 hown2 hg2 hat2; have hE2 : Ext wr w2 := below_grown (base := wr.heap.size) (show Below wr.heap.size wr _ from (by repeat first | exact Ext.refl _ | assumption | refine Ext.drew ?_ | refine Ext.drewN ?_ _ | refine Ext.extBy ?_ _ | refine Ext.alloc ?_ _ | refine Ext.setCell ?_ (by simp; try omega) _ | (refine Ext.trans ?_ (by assumption)))) (Nat.le_refl _) (by have := hE1.size; simp at this ⊢; omega) (by first | exact hown1 | exact hown1.alloc _) hg2; obtain ⟨lb, lcap, rfl, hlb, hlc, hll⟩ := ownsRow_some hown2 (by omega); have hcut := hCUT lb lcap (by omega); rw [show 0 + L + 1 = L + 1 by omega] at *)
          | (refine step_append_slc _ rfl (.tmp 11) (.tmp 25) 51 rfl w.heap.size 22 (.slice none 0 0) 1 24 Try.underlying51 infoInts rfl (by decide) (.slice oa ol oc) us.length us rfl (ownsRow_ext HTOP.out (by repeat first | exact Ext.refl _ | assumption | refine Ext.drew ?_ | refine Ext.drewN ?_ _ | refine Ext.extBy ?_ _ | refine Ext.alloc ?_ _ | refine Ext.setCell ?_ (by simp; try omega) _ | (refine Ext.trans ?_ (by assumption)))) _ 1 [.slice (some ⟨lb, 0, none⟩) L lcap] rfl (SlC.fresh _ #[.slice (some ⟨lb, 0, none⟩) L lcap] _ 1 _ (by simp) (by decide)) rfl (by simp [Value.oneCell']) (by unfold maxLen; omega) (by omega) (by have := hE2.size; simp; omega) ?_; intro v3 w3 hown3 hg3 hat3; have hE3 : Ext w w3 := below_grown (base := w.heap.size) (show Below w.heap.size w _ from (by repeat first | exact Ext.refl _ | assumption | refine Ext.drew ?_ | refine Ext.drewN ?_ _ | refine Ext.extBy ?_ _ | refine Ext.alloc ?_ _ | refine Ext.setCell ?_ (by simp; try omega) _ | (refine Ext.trans ?_ (by assumption)))) (Nat.le_refl _) (by have := hE2.size; simp; omega) (ownsRow_ext HTOP.out (show Ext wr _ from (by repeat first | exact Ext.refl _ | assumption | refine Ext.drew ?_ | refine Ext.drewN ?_ _ | refine Ext.extBy ?_ _ | refine Ext.alloc ?_ _ | refine Ext.setCell ?_ (by simp; try omega) _ | (refine Ext.trans ?_ (by assumption))))) hg3))
      all_goals
        have hP := HLr.out.1.push (r := r) (hE2.alloc _) (by rw [← HLL.out]; have := ownsRow_ext hown2 ((Ext.refl w2).alloc (.cells #[.slice (some ⟨lb, 0, none⟩) L lcap] 22)); simpa using this) (by rw [← HLL.out]; exact hown3) hg3 hat3
        rw [← HRJ.out, ← HLL.out] at hP
        have HP : Hid (LentA w v3 (us ++ [.slice (some ⟨lb, 0, none⟩) L lcap]) (rs.take (j + 1)) w3 ∧ ∃ x y z, v3 = .slice x y z) := Lib.hid ⟨hP, own_slice3 hown3⟩
        clear hP HLr HTOP HSX HSB hown1 hg1 hat1 hE1 hown2 hg2 hat2 hE2 hown3 hg3 hat3 hE3 hcut
        go_wp2
        go_roundw
        case rel => exact ⟨j + 1, _, by omega, by go_num, HP⟩
        case measure => simp [intOf]; omega
    · obtain rfl : j = n := by omega
      have hji : ¬ (j : Int) < (j : Int) := by omega
      have htk : rs.take j = rs := List.take_of_length_le (by rw [HN.out]; exact Nat.le_refl _)
      have HLA := HLr.out.1
      rw [htk] at HLA
      have HLS := Lib.hid HLA
      have hul : us.length = j := by rw [HLA.len, ← HN.out]
      have hos := HLA.ext.size
      have hcut : ∀ (b cap : Nat), j + 1 ≤ cap → ∀ w, (Instr.sliceAt 51 (.slice (some ⟨b, 0, none⟩) (j + 1) cap) none (some (.int .i64 (j : Int))) none).run Try.prog w = .ok (.slice (some ⟨b, 0, none⟩) j cap) w := fun b cap h => run_cut_h (P := Try.prog) 51 (by kernel_rfl) sizeInts b (j + 1) cap j (by omega)
      clear HLr htk HLA
      go_wp2_with (at_builtin; (refine wpList_append_slc _ rfl (.tmp 27) (.tmp 29) 51 rfl w.heap.size 22 (.slice none 0 0) 1 24 Try.underlying51 infoInts rfl (by decide) (.slice oa ol oc) us.length us rfl (ownsRow_ext HLS.out.top (by repeat first | exact Ext.refl _ | assumption | refine Ext.drew ?_ | refine Ext.drewN ?_ _ | refine Ext.extBy ?_ _ | refine Ext.alloc ?_ _ | refine Ext.setCell ?_ (by simp; try omega) _ | (refine Ext.trans ?_ (by assumption)))) _ 1 [.slice (some ⟨wr.heap.size, 0, none⟩) 1 1] rfl (SlC.fresh _ #[.slice (some ⟨wr.heap.size, 0, none⟩) 1 1] _ 1 _ (by simp) (by decide)) rfl (by simp [Value.oneCell']) (by unfold maxLen; omega) (by omega) (by simp; omega) ?_; intro v4 w4 hown4 hg4 hat4; obtain ⟨tb, tcap, rfl, htb, htc, htl⟩ := ownsRow_some hown4 (by omega); rw [hul] at hown4 htc ⊢; replace hcut := hcut tb tcap htc))
      (try go_ret)
      rw [HQ.out]
      obtain ⟨hE, hO⟩ := HLS.out.old (show Ext wr _ from (by repeat first | exact Ext.refl _ | assumption | refine Ext.drew ?_ | refine Ext.drewN ?_ _ | refine Ext.extBy ?_ _ | refine Ext.alloc ?_ _ | refine Ext.setCell ?_ (by simp; try omega) _ | (refine Ext.trans ?_ (by assumption)))) hg4 hat4
      have hk4 : Kb (Value.slice oa ol oc).ownBlock.toList _ w4 := Kb.grown hg4 (fun g hg => Option.mem_toList.2 hg)
      have hcap : tcap ≤ maxLen := by
        rcases hown4.2 with ⟨e, _⟩ | ⟨g1, cap1, cur, e, _, _, _, hc, _⟩
        · cases e
        · simp only [Value.slice.injEq] at e; rw [e.2.2]; exact hc
      refine ⟨_, us, rfl, hE, ⟨tb, tcap, wr.heap.size, by rw [← HN.out], by rw [← HN.out]; exact htc, hcap, by rw [← HN.out]; exact hown4, ?_⟩, HLS.out.len, fun k x r h1 h2 => ?_⟩
      · refine hk4.cell (fun hm => ?_) (by go_simp)
        have := (HLS.out.top.lt _ (Option.mem_toList.1 hm)).2
        omega
      · obtain ⟨b', cap', e, e1, e2, e3, -⟩ := hO k x r h1 h2
        exact ⟨b', cap', e, e1, e2, e3⟩
set_option maxHeartbeats 4000000 in
theorem stay_any {W : World} {v fv : Value} {vs fs : List Value} {rs : List (List Int)} {w : World} (h : RowsIn w v vs rs) (hf : Full W fv fs rs w) (hl : rs.length ≤ 2000) (hsz : ∀ r ∈ rs, r.length ≤ 2000) :
    Calls Try.prog 39 #[fv, v] w fun e w' => e = .returned (.bool true) ∧ Ext w w' := by
  have HSR : Hid (∀ w', Ext w w' → Calls Try.prog 40 #[fv, v] w' fun e w1 => e = .returned (.bool true) ∧ Ext w' w1) := Lib.hid fun w' hx => sameRows_any (hf.rows.ext hx) (h.ext hx)
  have HF := Lib.hid hf
  obtain ⟨tb, tcap, lb, rfl, e1, e2, e3, e4⟩ := id hf.top
  obtain ⟨a, cap, rfl, hn1, hn2, -⟩ := id h.top
  obtain ⟨n, hn⟩ : ∃ n, n = rs.length := ⟨_, rfl⟩
  have HS := Lib.hid hsz
  rw [← hn] at hn1 e1 e3 HSR hl ⊢
  have HN := Lib.hid hn
  have HTOP := Lib.hid e3
  have q0 := own_cell1 e3 n (.slice (some ⟨lb, 0, none⟩) 1 1) (by rw [List.getElem?_append_right (by rw [hf.len, ← hn]; exact Nat.le_refl _), hf.len, ← hn, Nat.sub_self]; rfl)
  have ql := (e3.lt tb rfl).2
  have ql2 := World.block_lt_of_cell? w _ e4
  have hcut := run_cut_h (P := Try.prog) 51 (by kernel_rfl) sizeInts tb n tcap (n + 1) e1
  rw [show ((n + 1 : Nat) : Int) = (n : Int) + 1 from rfl] at hcut
  clear hn h hf e3 hn1 hn2 e2 hsz
  go_enter Try.func39, Try.ntmps39
  go_upto_region 4 with (first | (go_at_call 40; refine (HSR.out _ (by repeat first | exact Ext.refl _ | assumption | refine Ext.drew ?_ | refine Ext.drewN ?_ _ | refine Ext.extBy ?_ _ | refine Ext.alloc ?_ _ | refine Ext.setCell ?_ (by simp; try omega) _ | (refine Ext.trans ?_ (by assumption)))).mono ?_; rintro e w1 ⟨rfl, hx1⟩; (first | (with_reducible obtain ⟨t1, rfl⟩ := Ext.tok2 hx1) | (obtain ⟨t1, rfl⟩ := Ext.tok hx1))))
  have hE1 : Ext w (w.extBy t1) := (by repeat first | exact Ext.refl _ | assumption | refine Ext.drew ?_ | refine Ext.drewN ?_ _ | refine Ext.extBy ?_ _ | refine Ext.alloc ?_ _ | refine Ext.setCell ?_ (by simp; try omega) _ | (refine Ext.trans ?_ (by assumption)))
  clear q0 hcut e4
  go_wp2
  go_loopw [6] (fun i wr => ∃ j : Nat, j ≤ n ∧ i = .int .i64 j ∧ Ext w wr) (fun i _ => n - (intOf i).toNat)
  case atStart => exact ⟨0, Nat.zero_le _, rfl, hE1⟩
  case round =>
    obtain ⟨j, hj, rfl, hxr⟩ := hrel
    obtain ⟨t2, rfl⟩ := hxr.tok
    clear hxr
    by_cases hlt : j < n
    · obtain ⟨x, hx⟩ : ∃ x, fs[j]? = some x := ⟨_, List.getElem?_eq_getElem (by rw [HF.out.len, ← HN.out]; exact hlt)⟩
      obtain ⟨r, hr⟩ : ∃ r, rs[j]? = some r := ⟨_, List.getElem?_eq_getElem (by rw [← HN.out]; exact hlt)⟩
      obtain ⟨b, bcap, rfl, f1, f2, f3⟩ := HF.out.row j x r hx hr
      have f0 := own_cell1 HTOP.out j _ (by rw [List.getElem?_append_left (by rw [HF.out.len, ← HN.out]; exact hlt)]; exact hx)
      obtain ⟨L, hL⟩ : ∃ L, L = r.length := ⟨_, rfl⟩
      have g0 := own_cell1 f3 r.length (.int .i64 (-71)) (by rw [List.getElem?_map, List.getElem?_append_right (Nat.le_refl _), Nat.sub_self]; rfl)
      have gl := (f3.lt b rfl).2
      have hcut := run_cut_h (P := Try.prog) 22 (by kernel_rfl) sizeInt b r.length bcap (r.length + 1) f1
      have hL2 := HS.out r (List.mem_of_getElem? hr)
      rw [← hL] at f0 g0 f1 hcut hL2
      have hwl : wrap64 ((L : Int) + 1) = (L : Int) + 1 := wrap64_id (by omega) (by omega)
      rw [show ((L + 1 : Nat) : Int) = (L : Int) + 1 from rfl] at hcut
      clear hx hr f3 hL f2
      go_wp2
      (refine region_drew (by kernel_rfl) (by kernel_rfl) ?_; (repeat (go_big_quiet_step (fail))); refine wpQuiet_nil ?_; rintro _ ⟨nq, rfl⟩)
      go_wp2
      go_roundw
      case rel => exact ⟨j + 1, by omega, by go_num, (by repeat first | exact Ext.refl _ | assumption | refine Ext.drew ?_ | refine Ext.drewN ?_ _ | refine Ext.extBy ?_ _ | refine Ext.alloc ?_ _ | refine Ext.setCell ?_ (by simp; try omega) _ | (refine Ext.trans ?_ (by assumption)))⟩
      case measure => simp [intOf]; omega
    · go_wp2
      go_ret
      exact ⟨rfl, (by repeat first | exact Ext.refl _ | assumption | refine Ext.drew ?_ | refine Ext.drewN ?_ _ | refine Ext.extBy ?_ _ | refine Ext.alloc ?_ _ | refine Ext.setCell ?_ (by simp; try omega) _ | (refine Ext.trans ?_ (by assumption)))⟩
end Go.Proofs.Ytipfcfaigbeakaa

/-
  The law on rows of equations, given the plain facts: what it computes is true.
  No condition.
-/
import Derived.Test.YtmommjagndadjaaJcT
import Derived.Test.YtmommjagndadjaaJcU
namespace Go.Proofs.Ytmommjagndadjaa.Sc
open Go.RowKit Go.Maps Go.Proofs.Ytmommjagndadjaa
set_option linter.unusedSimpArgs false
set_option linter.unusedVariables false
set_option maxRecDepth 100000

def rwV (i : Nat) : VR := ⟨nameN i, 1, []⟩
def rwQ (n : Nat) (row : Bool) (i : Nat) : EQ := ⟨1, nameN i, rowE n row i, 0, eB, eB, 0, 0⟩
def rvC (k : Nat) : List Value := (List.range k).flatMap fun i => [.string (nameN i), .int .i64 1, NLc]
def reC (n : Nat) (row : Bool) (k : Nat) : List Value := (List.range k).flatMap fun i => qCell (rwQ n row i) NLc
theorem rvC_succ (k : Nat) : rvC (k + 1) = rvC k ++ [.string (nameN k), .int .i64 1, NLc] := by
  unfold rvC
  rw [List.range_succ, List.flatMap_append]
  simp
theorem reC_succ (n : Nat) (row : Bool) (k : Nat) : reC n row (k + 1) = reC n row k ++ qCell (rwQ n row k) NLc := by
  unfold reC
  rw [List.range_succ, List.flatMap_append]
  simp
theorem rvC_vr : ∀ l : List Nat, vrCells (l.map rwV) (l.map fun _ => NLc) = l.flatMap fun i => [.string (nameN i), .int .i64 1, NLc]
  | [] => rfl
  | i :: l => by rw [List.map_cons, List.map_cons, vrCells, rvC_vr l, List.flatMap_cons]; rfl
theorem reC_q (n : Nat) (row : Bool) : ∀ l : List Nat, qCells (l.map (rwQ n row)) (l.map fun _ => NLc) = l.flatMap fun i : Nat => qCell (rwQ n row i) NLc
  | [] => rfl
  | i :: l => by rw [List.map_cons, List.map_cons, qCells, reC_q n row l, List.flatMap_cons]
theorem rowsC_eq (n : Nat) (row : Bool) : rowsC n row = ⟨[], [], (List.range n).map rwV, (List.range n).map (rwQ n row)⟩ := rfl
theorem rowE_kids (n : Nat) (row : Bool) (i : Nat) : (rowE n row i).kids = [] := by
  unfold rowE
  split <;> rfl
theorem own_ne2 {w : World} {B1 B2 e1 e2 s1 s2 n1 n2 : Nat} {v1 v2 : Value} {xs1 xs2 : List Value} (h1 : w.ownsRow B1 e1 s1 v1 n1 xs1) (h2 : w.ownsRow B2 e2 s2 v2 n2 xs2) (hne : e1 ≠ e2) : ∀ g, v1.ownBlock = some g → v2.ownBlock ≠ some g := fun g hg hg2 => by
  obtain ⟨-, h1⟩ := h1
  obtain ⟨-, h2⟩ := h2
  rcases h1 with ⟨e, -⟩ | ⟨g1, c1, a1, rfl, -, k1, -⟩
  · rw [e] at hg; cases hg
  · rcases h2 with ⟨e, -⟩ | ⟨g2, c2, a2, rfl, -, k2, -⟩
    · rw [e] at hg2; cases hg2
    · simp only [Value.ownBlock, Option.some.injEq] at hg hg2
      subst hg hg2
      rw [k1] at k2
      simp at k2
      exact hne k2.2
/-! ### The program in memory, under way -/
structure RwB (W : World) (X B n : Nat) (row : Bool) (jl j : Nat) (pl pe : Value) (w : World) : Prop where
  ext : Ext W w
  box : BoxV X [NLc, NLc, pl, pe] w
  loc : w.ownsRow B 30 3 pl jl (rvC jl)
  eqs : w.ownsRow B 35 13 pe j (reC n row j)
  lx : X < B
  wx : W.heap.size ≤ B ∧ W.heap.size ≤ X
section
variable {W w w' : World} {X B n jl j : Nat} {row : Bool} {pl pe pl2 pe2 : Value}
theorem RwB.next (m : RwB W X B n row jl j pl pe w) (hx : Ext w w') : RwB W X B n row jl j pl pe w' :=
  { m with ext := m.ext.trans hx, box := m.box.ext hx, loc := ownsRow_ext m.loc hx, eqs := ownsRow_ext m.eqs hx }
theorem RwB.grown (m : RwB W X B n row jl j pl pe w) {v : Value} (hk : Kb v.ownBlock.toList w w') (hv : ∀ k, v.ownBlock = some k → B ≤ k) : Ext W w' ∧ BoxV X [NLc, NLc, pl, pe] w' := by
  have h1 : ∀ k, k < B → k ∉ v.ownBlock.toList := fun k hk hm => by
    have := hv k (Option.mem_toList.1 hm)
    omega
  exact ⟨hk.ext m.ext (fun k hk => Nat.le_trans m.wx.1 (hv k (Option.mem_toList.1 hk))), m.box.kb hk (h1 X m.lx)⟩
theorem RwB.far (m : RwB W X B n row jl j pl pe w) {Y : Nat} (hk : Kb [Y] w w') (hY : B ≤ Y) (hl : ∀ k, pl.ownBlock = some k → k ≠ Y) (he : ∀ k, pe.ownBlock = some k → k ≠ Y) : RwB W X B n row jl j pl pe w' := by
  have hx := m.lx
  have hw := m.wx
  refine ⟨hk.ext m.ext (by simp; omega), m.box.kb hk (by simp; omega), hk.row m.loc (fun q hq e => ?_), hk.row m.eqs (fun q hq e => ?_), m.lx, m.wx⟩
  · simp at hq; subst hq; exact hl q e rfl
  · simp at hq; subst hq; exact he q e rfl
theorem RwB.setBox (hX : X < B) (hw : W.heap.size ≤ B ∧ W.heap.size ≤ X) (ex : Ext W w) (bx : BoxV X [NLc, NLc, pl, pe] w) {i : Nat} {u : Value} (hb : [NLc, NLc, pl2, pe2] = [NLc, NLc, pl, pe].set i u)
    (hl : w.ownsRow B 30 3 pl2 jl (rvC jl)) (he : w.ownsRow B 35 13 pe2 j (reC n row j)) : RwB W X B n row jl j pl2 pe2 (w.setCell ⟨X, i, none⟩ u) := by
  have hk : Kb [X] w (w.setCell ⟨X, i, none⟩ u) := Kb.set _ _ _ (by simp) _
  refine ⟨hk.ext ex (by simp; exact hw.2), (bx.put i u).cast hb.symm, hk.row hl (fun q hq e => ?_), hk.row he (fun q hq e => ?_), hX, hw⟩
  · simp at hq; subst hq; have := (hl.lt q e).1; omega
  · simp at hq; subst hq; have := (he.lt q e).1; omega
end
theorem RwB.cp {W w : World} {X B n : Nat} {row : Bool} {p1 p2 : Option Addr} {c1 c2 : Nat} (m : RwB W X B n row n n (.slice p1 n c1) (.slice p2 n c2) w) : CPIn w (rowsC n row) ⟨NLc, NLc, .slice p1 n c1, .slice p2 n c2⟩ where
  ins := VRIn.nil w
  outs := VRIn.nil w
  locals := by
    have h1 := SlC.of_owns m.loc
    unfold rvC at h1
    rw [← rvC_vr] at h1
    refine ⟨(List.range n).map fun _ => NLc, by simp [rowsC_eq], ?_, fun i x q e1 e2 => ?_⟩
    · have e : (rowsC n row).locals.length = n := by simp [rowsC_eq]
      rw [e]
      exact h1
    · rw [List.getElem?_map] at e2
      cases hq : (List.range n)[i]? with
      | none => rw [hq] at e2; cases e2
      | some k =>
        rw [hq] at e2
        simp only [Option.map_some, Option.some.injEq] at e2
        subst e2
        have e3 : (rowsC n row).locals[i]? = some (rwV k) := by rw [rowsC_eq]; show ((List.range n).map rwV)[i]? = _; rw [List.getElem?_map, hq]; rfl
        rw [e3] at e1
        cases e1
        exact EdIn.nil w
  eqs := by
    have h1 := SlC.of_owns m.eqs
    unfold reC at h1
    rw [← reC_q] at h1
    refine ⟨(List.range n).map fun _ => NLc, by simp [rowsC_eq], fun i q kv e1 e2 => ?_, ?_⟩
    · rw [List.getElem?_map] at e2
      cases hq : (List.range n)[i]? with
      | none => rw [hq] at e2; cases e2
      | some k =>
        rw [hq] at e2
        simp only [Option.map_some, Option.some.injEq] at e2
        subst e2
        have e3 : (rowsC n row).eqs[i]? = some (rwQ n row k) := by rw [rowsC_eq]; show ((List.range n).map (rwQ n row))[i]? = _; rw [List.getElem?_map, hq]; rfl
        rw [e3] at e1
        cases e1
        show KIn w (rowE n row k) NLc
        unfold rowE
        split
        · exact KIn.none _ _ _ _ _ _
        · exact KIn.none _ _ _ _ _ _
    · have e : (rowsC n row).eqs.length = n := by simp [rowsC_eq]
      rw [e]
      exact h1
def ordN2 (n : Nat) (row : Bool) : List Int := if row = true then downN n else upN n
def levN2 (n : Nat) (row : Bool) : List Int := if row = true then downN n else List.replicate n 0
theorem plain2 {n : Nat} {row : Bool} (h1 : rowOk n = true) (h2 : flatOk n = true) : okC (rowsC n row) ∧ smC (rowsC n row) ∧ chkC (rowsC n row) = 0 ∧ sortV (hangsV (rowsC n row)) = ordN2 n row ∧ levelsV (hangsV (rowsC n row)) = levN2 n row := by
  unfold rowOk at h1
  unfold flatOk at h2
  simp only [Bool.and_eq_true, decide_eq_true_eq] at h1 h2
  cases row with
  | false => exact ⟨okC_b h2.1.1.1.1, smC_b h2.1.1.1.2, h2.1.1.2, h2.1.2, h2.2⟩
  | true => exact ⟨okC_b h1.1.1.1.1, smC_b h1.1.1.1.2, h1.1.1.2, h1.1.2, h1.2⟩
theorem ordN2_len (n : Nat) (row : Bool) : (ordN2 n row).length = n := by
  unfold ordN2 downN upN
  split <;> simp
theorem levN2_len (n : Nat) (row : Bool) : (levN2 n row).length = n := by
  unfold levN2 downN
  split <;> simp
theorem ordN2_at {n i : Nat} {row : Bool} (h : i < n) : (ordN2 n row)[i]? = some (if row = true then (n : Int) - 1 - (i : Int) else (i : Int)) := by
  unfold ordN2 downN upN
  cases row <;> simp [List.getElem?_range h]
theorem levN2_at {n i : Nat} {row : Bool} (h : i < n) : (levN2 n row)[i]? = some (if row = true then (n : Int) - 1 - (i : Int) else 0) := by
  unfold levN2 downN
  cases row
  · rw [if_neg (by decide), if_neg (by decide), List.getElem?_replicate, if_pos h]
  · simp [List.getElem?_range h]
theorem RwB.ord {W w w' : World} {X B n : Nat} {row : Bool} {p1 p2 : Option Addr} {c1 c2 : Nat} (m : RwB W X B n row n n (.slice p1 n c1) (.slice p2 n c2) w) (h1 : rowOk n = true) (h2 : flatOk n = true) (hx : Ext w w') :
    Calls Try.prog 11 #[.agg #[NLc, NLc, .slice p1 n c1, .slice p2 n c2]] w' (fun e w2 => ∃ p cap, e = .returned (.tuple #[.slice p n cap, .int .i64 0]) ∧ Hid (SlC w2 (.slice p n cap) n (i64s (ordN2 n row)) ∧ Ext w' w2)) := by
  obtain ⟨h3, h4, h5, h6, -⟩ := plain2 (row := row) h1 h2
  have h9 := order_any (c := rowsC n row) (x := ⟨NLc, NLc, .slice p1 n c1, .slice p2 n c2⟩) (w := w') ((m.next hx).cp) h3 h4
  refine h9.mono ?_
  rintro e w2 ⟨k1, -⟩
  obtain ⟨p, cap, k2, k3⟩ := k1 h5
  rw [h6, ordN2_len] at k2 k3
  exact ⟨p, cap, k2, k3⟩
theorem RwB.lev {W w w' : World} {X B n : Nat} {row : Bool} {p1 p2 : Option Addr} {c1 c2 : Nat} (m : RwB W X B n row n n (.slice p1 n c1) (.slice p2 n c2) w) (h1 : rowOk n = true) (h2 : flatOk n = true) (hx : Ext w w') :
    Calls Try.prog 12 #[.agg #[NLc, NLc, .slice p1 n c1, .slice p2 n c2]] w' (fun e w2 => ∃ p cap, e = .returned (.tuple #[.slice p n cap, .int .i64 0]) ∧ Hid (SlC w2 (.slice p n cap) n (i64s (levN2 n row)) ∧ Ext w' w2)) := by
  obtain ⟨h3, h4, h5, -, h6⟩ := plain2 (row := row) h1 h2
  have h9 := levels_any (c := rowsC n row) (x := ⟨NLc, NLc, .slice p1 n c1, .slice p2 n c2⟩) (w := w') ((m.next hx).cp) h3 h4
  refine h9.mono ?_
  rintro e w2 ⟨k1, -⟩
  obtain ⟨p, cap, k2, k3⟩ := k1 h5
  rw [h6, levN2_len] at k2 k3
  exact ⟨p, cap, k2, k3⟩
set_option maxHeartbeats 16000000 in
theorem schedRows_of (hro : ∀ n : Nat, 1 ≤ n → n < 100 → rowOk n = true ∧ flatOk n = true) (n : Int) (row : Bool) (w : World) : Calls Try.prog 3 #[.int .i64 n, .bool row] w fun e w' => e = .returned (.bool true) ∧ Hid (Ext w w') := by
  obtain ⟨Q, hQ⟩ : ∃ Q, Q = fun e w' => e = Ending.returned (.bool true) ∧ Hid (Ext w w') := ⟨_, rfl⟩
  rw [← hQ]
  have HQ := Lib.hid hQ
  have HRO := Lib.hid hro
  clear hQ hro
  go_enter Try.func3, Try.ntmps3
  go_upto_region 2 with (first | (go_at_call 9; refine (alive15_any _).mono ?_; rintro e1 w1 ⟨rfl, H1⟩) | fail)
  by_cases ha : n < 1
  case pos =>
    go_wp2
    rw [HQ.out]
    exact ⟨rfl, H1⟩
  case neg =>
  by_cases hb : n > 99
  case pos =>
    go_wp2
    rw [HQ.out]
    exact ⟨rfl, H1⟩
  case neg =>
  obtain ⟨N, rfl⟩ : ∃ m : Nat, n = (m : Int) := ⟨n.toNat, by omega⟩
  have hN1 : 1 ≤ N := by omega
  have hN2 : N ≤ 99 := by omega
  go_upto_region 5 with fail
  obtain ⟨wb, hwb⟩ : ∃ z, z = w1.alloc (.cells #[NLc, NLc, NLc, NLc] 26) := ⟨_, rfl⟩
  have hmb : RwB w1 w1.heap.size (w1.heap.size + 1) N row 0 0 NLc NLc wb := by
    rw [hwb]
    refine ⟨(Ext.refl w1).alloc _, ?_, own_nil _ _ _ _, own_nil _ _ _ _, by omega, by omega⟩
    refine BoxV.of_row (e := 26) (cs := #[NLc, NLc, NLc, NLc]) ?_
    exact heap_alloc_at _ _ _ (by simp)
  have hsb : w1.heap.size + 1 ≤ wb.heap.size := by rw [hwb]; simp
  rw [← hwb]
  generalize w1.heap.size + 1 = B at hmb hsb
  generalize w1.heap.size = X at hmb ⊢
  have HMB := Lib.hid hmb
  clear hwb hmb
  go_upto_region 6 with fail
  go_loopw [7] (fun i wr => ∃ (j : Nat) (p1 p2 : Option Addr) (c1 c2 : Nat), j ≤ N ∧ i = .int .i64 (j : Int) ∧ B ≤ wr.heap.size ∧ Hid (RwB w1 X B N row j j (.slice p1 j c1) (.slice p2 j c2) wr)) (fun i _ => N - (intOf i).toNat)
  case atStart => exact ⟨0, none, none, 0, 0, Nat.zero_le _, rfl, hsb, HMB⟩
  case round =>
    obtain ⟨j, p1, p2, c1, c2, hj, rfl, hsr, HM⟩ := hrel
    by_cases hlt : j < N
    · have hji : (j : Int) < (N : Int) := Int.ofNat_lt.2 hlt
      go_upto_region 8 with fail
      obtain ⟨M, hM⟩ : ∃ z, z = nameN j := ⟨_, rfl⟩
      have HC1 : Hid (∀ wv, Calls Try.prog 10 #[.int .i64 (j : Int)] wv fun e w' => e = .returned (.string M) ∧ Hid (Ext wv w')) := Lib.hid (fun wv => by rw [hM]; exact name15_any j (by omega) wv)
      have HMM := Lib.hid hM
      clear hM
      go_upto_region 9 with (first | (go_at_call 10; refine (HC1.out _).mono ?_; rintro e2 w2 ⟨rfl, H2⟩) | fail)
      have HM2 : Hid (RwB w1 X B N row j j (.slice p1 j c1) (.slice p2 j c2) w2) := Lib.hid (HM.out.next H2.out)
      have b2 := HM2.out.box.cells 2 _ rfl
      have bl := HM2.out.box.lt
      have bf := HM2.out.box.fz
      have hs2 : B ≤ w2.heap.size := Nat.le_trans hsr H2.out.size
      clear HM H2 hsr

      go_upto_region 10 with (first | (at_builtin; (refine wpList_append_slc _ rfl (.tmp 37) (.tmp 39) 23 rfl B 30 zV 3 48 Try.underlying23 infoVar rfl (by decide) (.slice p1 j c1) j (rvC j) rfl (ownsRow_ext HM2.out.loc (by repeat first | exact Ext.refl _ | assumption | refine Ext.drew ?_ | refine Ext.drewN ?_ _ | refine Ext.extBy ?_ _ | refine Ext.alloc ?_ _ | refine Ext.setCell ?_ (by simp; try omega) _ | (refine Ext.trans ?_ (by assumption)))) _ 1 [.string M, .int .i64 1, NLc] rfl (SlC.fresh _ #[.string M, .int .i64 1, NLc] _ 1 _ (by simp) (by decide)) rfl (by simp [Value.oneCell']) (by unfold maxLen; omega) (by omega) (by simp; omega) ?_; intro v9 w9 hown9 hg9 hat9; obtain ⟨x9, y9, z9, rfl⟩ := own_slice3 hown9; have HP9 := Lib.hid (And.intro hown9 hg9); clear hown9 hg9 hat9; have hk9 : Kb (Value.ownBlock (.slice p1 j c1)).toList w2 w9 := (Kb.of_ext (((Ext.refl w2).alloc _).alloc _)).trans (Kb.grown HP9.out.2 (fun g hg => Option.mem_toList.2 hg)); have hb9 := (HM2.out.grown hk9 (fun k hk => (HM2.out.loc.lt k hk).1)).2; have y2 := hb9.cells 2 _ rfl; have yl := hb9.lt; have yf := hb9.fz; have HK9 := Lib.hid hk9; clear hb9 hk9)) | fail)
      obtain rfl : y9 = j + 1 := by
        obtain ⟨a', c', e, -⟩ := SlC.of_owns HP9.out.1
        simp only [Value.slice.injEq] at e
        omega
      have hMA : RwB w1 X B N row (j + 1) j (.slice x9 (j + 1) z9) (.slice p2 j c2) (w9.setCell ⟨X, 2, none⟩ (.slice x9 (j + 1) z9)) := by
        obtain ⟨g1, g2⟩ := HM2.out.grown HK9.out (fun k hk => (HM2.out.loc.lt k hk).1)
        have ho := HP9.out.1
        rw [HMM.out, ← rvC_succ] at ho
        exact RwB.setBox HM2.out.lx HM2.out.wx g1 g2 rfl ho (HK9.out.row HM2.out.eqs (fun k hk e => own_ne2 HM2.out.eqs HM2.out.loc (by decide) k e (Option.mem_toList.1 hk)))
      have hsa : B ≤ (w9.setCell ⟨X, 2, none⟩ (.slice x9 (j + 1) z9)).heap.size := by
        have := HK9.out.size
        simp
        omega
      clear y2 yl yf b2 bl bf HM2 HK9 HP9
      generalize (w9.setCell ⟨X, 2, none⟩ (.slice x9 (j + 1) z9)) = wa at hMA hsa ⊢
      have HA := Lib.hid hMA
      clear hMA
      go_upto_region 11 with (first | (go_at_call 10; refine (HC1.out _).mono ?_; rintro e3 w3 ⟨rfl, H3⟩) | fail)
      have HA3 : Hid (RwB w1 X B N row (j + 1) j (.slice x9 (j + 1) z9) (.slice p2 j c2) w3) := Lib.hid (HA.out.next H3.out)
      have hs3 : B ≤ w3.heap.size := Nat.le_trans hsa H3.out.size
      clear HA H3 hsa hs2

      have hbx0 : BoxV w3.heap.size [.int .i64 1, .string M, .int .i64 1, .int .i64 0, .int .i64 1, .int .i64 0, .string eB, NLc, .int .i64 0, .string eB, .string eB, .int .i64 0, .int .i64 0] (w3.alloc (.cells #[.int .i64 1, .string M, .int .i64 1, .int .i64 0, .int .i64 1, .int .i64 0, .string eB, NLc, .int .i64 0, .string eB, .string eB, .int .i64 0, .int .i64 0] 35)) := by
        refine BoxV.of_row (e := 35) (cs := #[.int .i64 1, .string M, .int .i64 1, .int .i64 0, .int .i64 1, .int .i64 0, .string eB, NLc, .int .i64 0, .string eB, .string eB, .int .i64 0, .int .i64 0]) ?_
        exact heap_alloc_at _ _ _ (by simp)
      have hmd : RwB w1 X B N row (j + 1) j (.slice x9 (j + 1) z9) (.slice p2 j c2) (w3.alloc (.cells #[.int .i64 1, .string M, .int .i64 1, .int .i64 0, .int .i64 1, .int .i64 0, .string eB, NLc, .int .i64 0, .string eB, .string eB, .int .i64 0, .int .i64 0] 35)) := HA3.out.next ((Ext.refl w3).alloc _)
      have hsd : w3.heap.size < (w3.alloc (.cells #[.int .i64 1, .string M, .int .i64 1, .int .i64 0, .int .i64 1, .int .i64 0, .string eB, NLc, .int .i64 0, .string eB, .string eB, .int .i64 0, .int .i64 0] 35)).heap.size := by simp
      generalize (w3.alloc (.cells #[.int .i64 1, .string M, .int .i64 1, .int .i64 0, .int .i64 1, .int .i64 0, .string eB, NLc, .int .i64 0, .string eB, .string eB, .int .i64 0, .int .i64 0] 35)) = wd at hbx0 hmd hsd ⊢
      have hlt0 : (∀ k, (Value.slice x9 (j + 1) z9).ownBlock = some k → k < w3.heap.size) ∧ (∀ k, (Value.slice p2 j c2).ownBlock = some k → k < w3.heap.size) := ⟨fun k e => (HA3.out.loc.lt k e).2, fun k e => (HA3.out.eqs.lt k e).2⟩
      generalize w3.heap.size = Y at hbx0 hsd hs3 hlt0 ⊢
      have HLT := Lib.hid hlt0
      clear hlt0
      generalize w2.heap.size = Z
      have HBX := Lib.hid hbx0
      have HD := Lib.hid hmd
      clear hbx0 hmd HA3
      cases row with
      | false =>
        go_upto_region 13 with fail
        obtain ⟨we, hwe⟩ : ∃ z, z = wd := ⟨_, rfl⟩
        subst hwe
        have HE := HD
        have HBE := HBX

        have b3 := HE.out.box.cells 3 _ rfl
        have bl := HE.out.box.lt
        have bf := HE.out.box.fz
        have q0 := HBE.out.cells 0 _ rfl
        have q1 := HBE.out.cells 1 _ rfl
        have q2 := HBE.out.cells 2 _ rfl
        have q3 := HBE.out.cells 3 _ rfl
        have q4 := HBE.out.cells 4 _ rfl
        have q5 := HBE.out.cells 5 _ rfl
        have q6 := HBE.out.cells 6 _ rfl
        have q7 := HBE.out.cells 7 _ rfl
        have q8 := HBE.out.cells 8 _ rfl
        have q9 := HBE.out.cells 9 _ rfl
        have q10 := HBE.out.cells 10 _ rfl
        have q11 := HBE.out.cells 11 _ rfl
        have q12 := HBE.out.cells 12 _ rfl
        have ql := HBE.out.lt
        go_wp2_with (first | (at_builtin; (refine wpList_append_slc _ rfl (.tmp 59) (.tmp 61) 24 rfl B 35 zQc 13 152 Try.underlying24 infoEq rfl (by decide) (.slice p2 j c2) j (reC N false j) rfl (ownsRow_ext HE.out.eqs (by repeat first | exact Ext.refl _ | assumption | refine Ext.drew ?_ | refine Ext.drewN ?_ _ | refine Ext.extBy ?_ _ | refine Ext.alloc ?_ _ | refine Ext.setCell ?_ (by simp; try omega) _ | (refine Ext.trans ?_ (by assumption)))) _ 1 [.int .i64 1, .string M, .int .i64 1, .int .i64 0, .int .i64 1, .int .i64 0, .string eB, NLc, .int .i64 0, .string eB, .string eB, .int .i64 0, .int .i64 0] rfl (SlC.fresh _ #[.int .i64 1, .string M, .int .i64 1, .int .i64 0, .int .i64 1, .int .i64 0, .string eB, NLc, .int .i64 0, .string eB, .string eB, .int .i64 0, .int .i64 0] _ 1 _ (by simp) (by decide)) rfl (by simp [Value.oneCell']) (by unfold maxLen; omega) (by omega) (by simp; omega) ?_; intro v7 w8 hown9 hg9 hat9; obtain ⟨x8, y8, z8, rfl⟩ := own_slice3 hown9; have HP8 := Lib.hid (And.intro hown9 hg9); clear hown9 hg9 hat9; have hk8 : Kb (Value.ownBlock (.slice p2 j c2)).toList we w8 := (Kb.of_ext ((Ext.refl we).alloc _)).trans (Kb.grown HP8.out.2 (fun g hg => Option.mem_toList.2 hg)); have hb8 := (HE.out.grown hk8 (fun k hk => (HE.out.eqs.lt k hk).1)).2; have u3 := hb8.cells 3 _ rfl; have ul := hb8.lt; have uf := hb8.fz; have HK8 := Lib.hid hk8; clear hb8 hk8)) | fail)
        obtain rfl : y8 = j + 1 := by
          obtain ⟨a', c', e, -⟩ := SlC.of_owns HP8.out.1
          simp only [Value.slice.injEq] at e
          omega
        have hMB : RwB w1 X B N false (j + 1) (j + 1) (.slice x9 (j + 1) z9) (.slice x8 (j + 1) z8) (w8.setCell ⟨X, 3, none⟩ (.slice x8 (j + 1) z8)) := by
          obtain ⟨g1, g2⟩ := HE.out.grown HK8.out (fun k hk => (HE.out.eqs.lt k hk).1)
          have ho := HP8.out.1
          have hre : [.int .i64 1, .string M, .int .i64 1, .int .i64 0, .int .i64 1, .int .i64 0, .string eB, NLc, .int .i64 0, .string eB, .string eB, .int .i64 0, .int .i64 0] = qCell (rwQ N false j) NLc := by
            rw [HMM.out]
            unfold rwQ rowE
            rfl
          rw [hre, ← reC_succ] at ho
          exact RwB.setBox HE.out.lx HE.out.wx g1 g2 rfl (HK8.out.row HE.out.loc (fun k hk e => own_ne2 HE.out.loc HE.out.eqs (by decide) k e (Option.mem_toList.1 hk))) ho
        have hsz : B ≤ (w8.setCell ⟨X, 3, none⟩ (.slice x8 (j + 1) z8)).heap.size := by
          have := HK8.out.size
          simp
          omega
        exact ⟨⟨j + 1, _, _, _, _, by omega, by go_num, hsz, Lib.hid hMB⟩, by simp [intOf]; omega⟩
      | true =>
        by_cases hnx : j + 1 < N
        · have hnI : (j : Int) + 1 < (N : Int) := by omega
          go_upto_region 12 with fail
          obtain ⟨M2, hM2⟩ : ∃ z, z = nameN (j + 1) := ⟨_, rfl⟩
          have HC2 : Hid (∀ wv, Calls Try.prog 10 #[.int .i64 ((j : Int) + 1)] wv fun e w' => e = .returned (.string M2) ∧ Hid (Ext wv w')) := Lib.hid (fun wv => by rw [hM2]; exact name15_any (j + 1) (by omega) wv)
          have HM2 := Lib.hid hM2
          clear hM2
          have m0 := HBX.out.lt
          have m1 := HBX.out.fz
          go_upto_region 13 with (first | (go_at_call 10; refine (HC2.out _).mono ?_; rintro e4 w4 ⟨rfl, H4⟩; have m2 := (HBX.out.ext H4.out).lt; have m3 := (HBX.out.ext H4.out).fz; have g2 := (HBX.out.ext H4.out).cells 2 _ rfl; have g3 := (HBX.out.ext H4.out).cells 3 _ rfl; have g4 := (HBX.out.ext H4.out).cells 4 _ rfl; have g5 := (HBX.out.ext H4.out).cells 5 _ rfl; have g6 := (HBX.out.ext H4.out).cells 6 _ rfl; have g7 := (HBX.out.ext H4.out).cells 7 _ rfl) | fail)
          clear g2 g3 g4 g5 g6 g7 m0 m1 m2 m3
          have hbe : BoxV Y [.int .i64 1, .string M, .int .i64 2, .int .i64 0, .int .i64 0, .int .i64 0, .string M2, NLc, .int .i64 0, .string eB, .string eB, .int .i64 0, .int .i64 0] ((((((w4.setCell ⟨Y, 2, none⟩ (.int .i64 2)).setCell ⟨Y, 3, none⟩ (.int .i64 0)).setCell ⟨Y, 4, none⟩ (.int .i64 0)).setCell ⟨Y, 5, none⟩ (.int .i64 0)).setCell ⟨Y, 6, none⟩ (.string M2)).setCell ⟨Y, 7, none⟩ NLc) := (((((((HBX.out.ext H4.out).put 2 (.int .i64 2)).put 3 (.int .i64 0)).put 4 (.int .i64 0)).put 5 (.int .i64 0)).put 6 (.string M2)).put 7 NLc)
          have hek : Kb [Y] w4 ((((((w4.setCell ⟨Y, 2, none⟩ (.int .i64 2)).setCell ⟨Y, 3, none⟩ (.int .i64 0)).setCell ⟨Y, 4, none⟩ (.int .i64 0)).setCell ⟨Y, 5, none⟩ (.int .i64 0)).setCell ⟨Y, 6, none⟩ (.string M2)).setCell ⟨Y, 7, none⟩ NLc) := ((((((Kb.set _ _ _ (by simp) _ : Kb [Y] w4 (w4.setCell ⟨Y, 2, none⟩ (.int .i64 2))).trans (Kb.set _ _ _ (by simp) _)).trans (Kb.set _ _ _ (by simp) _)).trans (Kb.set _ _ _ (by simp) _)).trans (Kb.set _ _ _ (by simp) _)).trans (Kb.set _ _ _ (by simp) _))
          have hee := (HD.out.next H4.out).far hek hs3 (fun k e => Nat.ne_of_lt (HLT.out.1 k e)) (fun k e => Nat.ne_of_lt (HLT.out.2 k e))
          generalize ((((((w4.setCell ⟨Y, 2, none⟩ (.int .i64 2)).setCell ⟨Y, 3, none⟩ (.int .i64 0)).setCell ⟨Y, 4, none⟩ (.int .i64 0)).setCell ⟨Y, 5, none⟩ (.int .i64 0)).setCell ⟨Y, 6, none⟩ (.string M2)).setCell ⟨Y, 7, none⟩ NLc) = we at hbe hek hee ⊢
          have HE := Lib.hid hee
          have HBE := Lib.hid hbe
          clear hbe hek hee

          have b3 := HE.out.box.cells 3 _ rfl
          have bl := HE.out.box.lt
          have bf := HE.out.box.fz
          have q0 := HBE.out.cells 0 _ rfl
          have q1 := HBE.out.cells 1 _ rfl
          have q2 := HBE.out.cells 2 _ rfl
          have q3 := HBE.out.cells 3 _ rfl
          have q4 := HBE.out.cells 4 _ rfl
          have q5 := HBE.out.cells 5 _ rfl
          have q6 := HBE.out.cells 6 _ rfl
          have q7 := HBE.out.cells 7 _ rfl
          have q8 := HBE.out.cells 8 _ rfl
          have q9 := HBE.out.cells 9 _ rfl
          have q10 := HBE.out.cells 10 _ rfl
          have q11 := HBE.out.cells 11 _ rfl
          have q12 := HBE.out.cells 12 _ rfl
          have ql := HBE.out.lt
          go_wp2_with (first | (at_builtin; (refine wpList_append_slc _ rfl (.tmp 59) (.tmp 61) 24 rfl B 35 zQc 13 152 Try.underlying24 infoEq rfl (by decide) (.slice p2 j c2) j (reC N true j) rfl (ownsRow_ext HE.out.eqs (by repeat first | exact Ext.refl _ | assumption | refine Ext.drew ?_ | refine Ext.drewN ?_ _ | refine Ext.extBy ?_ _ | refine Ext.alloc ?_ _ | refine Ext.setCell ?_ (by simp; try omega) _ | (refine Ext.trans ?_ (by assumption)))) _ 1 [.int .i64 1, .string M, .int .i64 2, .int .i64 0, .int .i64 0, .int .i64 0, .string M2, NLc, .int .i64 0, .string eB, .string eB, .int .i64 0, .int .i64 0] rfl (SlC.fresh _ #[.int .i64 1, .string M, .int .i64 2, .int .i64 0, .int .i64 0, .int .i64 0, .string M2, NLc, .int .i64 0, .string eB, .string eB, .int .i64 0, .int .i64 0] _ 1 _ (by simp) (by decide)) rfl (by simp [Value.oneCell']) (by unfold maxLen; omega) (by omega) (by simp; omega) ?_; intro v7 w8 hown9 hg9 hat9; obtain ⟨x8, y8, z8, rfl⟩ := own_slice3 hown9; have HP8 := Lib.hid (And.intro hown9 hg9); clear hown9 hg9 hat9; have hk8 : Kb (Value.ownBlock (.slice p2 j c2)).toList we w8 := (Kb.of_ext ((Ext.refl we).alloc _)).trans (Kb.grown HP8.out.2 (fun g hg => Option.mem_toList.2 hg)); have hb8 := (HE.out.grown hk8 (fun k hk => (HE.out.eqs.lt k hk).1)).2; have u3 := hb8.cells 3 _ rfl; have ul := hb8.lt; have uf := hb8.fz; have HK8 := Lib.hid hk8; clear hb8 hk8)) | fail)
          obtain rfl : y8 = j + 1 := by
            obtain ⟨a', c', e, -⟩ := SlC.of_owns HP8.out.1
            simp only [Value.slice.injEq] at e
            omega
          have hMB : RwB w1 X B N true (j + 1) (j + 1) (.slice x9 (j + 1) z9) (.slice x8 (j + 1) z8) (w8.setCell ⟨X, 3, none⟩ (.slice x8 (j + 1) z8)) := by
            obtain ⟨g1, g2⟩ := HE.out.grown HK8.out (fun k hk => (HE.out.eqs.lt k hk).1)
            have ho := HP8.out.1
            have hre : [.int .i64 1, .string M, .int .i64 2, .int .i64 0, .int .i64 0, .int .i64 0, .string M2, NLc, .int .i64 0, .string eB, .string eB, .int .i64 0, .int .i64 0] = qCell (rwQ N true j) NLc := by
              rw [HMM.out]
              unfold rwQ rowE
              rw [if_pos ⟨rfl, hnx⟩, HM2.out]; rfl
            rw [hre, ← reC_succ] at ho
            exact RwB.setBox HE.out.lx HE.out.wx g1 g2 rfl (HK8.out.row HE.out.loc (fun k hk e => own_ne2 HE.out.loc HE.out.eqs (by decide) k e (Option.mem_toList.1 hk))) ho
          have hsz : B ≤ (w8.setCell ⟨X, 3, none⟩ (.slice x8 (j + 1) z8)).heap.size := by
            have := HK8.out.size
            simp
            omega
          exact ⟨⟨j + 1, _, _, _, _, by omega, by go_num, hsz, Lib.hid hMB⟩, by simp [intOf]; omega⟩
        · have hnI : ¬ (j : Int) + 1 < (N : Int) := by omega
          go_upto_region 13 with fail
          obtain ⟨we, hwe⟩ : ∃ z, z = wd := ⟨_, rfl⟩
          subst hwe
          have HE := HD
          have HBE := HBX

          have b3 := HE.out.box.cells 3 _ rfl
          have bl := HE.out.box.lt
          have bf := HE.out.box.fz
          have q0 := HBE.out.cells 0 _ rfl
          have q1 := HBE.out.cells 1 _ rfl
          have q2 := HBE.out.cells 2 _ rfl
          have q3 := HBE.out.cells 3 _ rfl
          have q4 := HBE.out.cells 4 _ rfl
          have q5 := HBE.out.cells 5 _ rfl
          have q6 := HBE.out.cells 6 _ rfl
          have q7 := HBE.out.cells 7 _ rfl
          have q8 := HBE.out.cells 8 _ rfl
          have q9 := HBE.out.cells 9 _ rfl
          have q10 := HBE.out.cells 10 _ rfl
          have q11 := HBE.out.cells 11 _ rfl
          have q12 := HBE.out.cells 12 _ rfl
          have ql := HBE.out.lt
          go_wp2_with (first | (at_builtin; (refine wpList_append_slc _ rfl (.tmp 59) (.tmp 61) 24 rfl B 35 zQc 13 152 Try.underlying24 infoEq rfl (by decide) (.slice p2 j c2) j (reC N true j) rfl (ownsRow_ext HE.out.eqs (by repeat first | exact Ext.refl _ | assumption | refine Ext.drew ?_ | refine Ext.drewN ?_ _ | refine Ext.extBy ?_ _ | refine Ext.alloc ?_ _ | refine Ext.setCell ?_ (by simp; try omega) _ | (refine Ext.trans ?_ (by assumption)))) _ 1 [.int .i64 1, .string M, .int .i64 1, .int .i64 0, .int .i64 1, .int .i64 0, .string eB, NLc, .int .i64 0, .string eB, .string eB, .int .i64 0, .int .i64 0] rfl (SlC.fresh _ #[.int .i64 1, .string M, .int .i64 1, .int .i64 0, .int .i64 1, .int .i64 0, .string eB, NLc, .int .i64 0, .string eB, .string eB, .int .i64 0, .int .i64 0] _ 1 _ (by simp) (by decide)) rfl (by simp [Value.oneCell']) (by unfold maxLen; omega) (by omega) (by simp; omega) ?_; intro v7 w8 hown9 hg9 hat9; obtain ⟨x8, y8, z8, rfl⟩ := own_slice3 hown9; have HP8 := Lib.hid (And.intro hown9 hg9); clear hown9 hg9 hat9; have hk8 : Kb (Value.ownBlock (.slice p2 j c2)).toList we w8 := (Kb.of_ext ((Ext.refl we).alloc _)).trans (Kb.grown HP8.out.2 (fun g hg => Option.mem_toList.2 hg)); have hb8 := (HE.out.grown hk8 (fun k hk => (HE.out.eqs.lt k hk).1)).2; have u3 := hb8.cells 3 _ rfl; have ul := hb8.lt; have uf := hb8.fz; have HK8 := Lib.hid hk8; clear hb8 hk8)) | fail)
          obtain rfl : y8 = j + 1 := by
            obtain ⟨a', c', e, -⟩ := SlC.of_owns HP8.out.1
            simp only [Value.slice.injEq] at e
            omega
          have hMB : RwB w1 X B N true (j + 1) (j + 1) (.slice x9 (j + 1) z9) (.slice x8 (j + 1) z8) (w8.setCell ⟨X, 3, none⟩ (.slice x8 (j + 1) z8)) := by
            obtain ⟨g1, g2⟩ := HE.out.grown HK8.out (fun k hk => (HE.out.eqs.lt k hk).1)
            have ho := HP8.out.1
            have hre : [.int .i64 1, .string M, .int .i64 1, .int .i64 0, .int .i64 1, .int .i64 0, .string eB, NLc, .int .i64 0, .string eB, .string eB, .int .i64 0, .int .i64 0] = qCell (rwQ N true j) NLc := by
              rw [HMM.out]
              unfold rwQ rowE
              rw [if_neg (fun h => hnx h.2)]; rfl
            rw [hre, ← reC_succ] at ho
            exact RwB.setBox HE.out.lx HE.out.wx g1 g2 rfl (HK8.out.row HE.out.loc (fun k hk e => own_ne2 HE.out.loc HE.out.eqs (by decide) k e (Option.mem_toList.1 hk))) ho
          have hsz : B ≤ (w8.setCell ⟨X, 3, none⟩ (.slice x8 (j + 1) z8)).heap.size := by
            have := HK8.out.size
            simp
            omega
          exact ⟨⟨j + 1, _, _, _, _, by omega, by go_num, hsz, Lib.hid hMB⟩, by simp [intOf]; omega⟩
    · have hji : ¬ (j : Int) < (N : Int) := fun e => hlt (Int.ofNat_lt.1 e)
      obtain rfl : N = j := by omega
      obtain ⟨wq, hwq⟩ : ∃ z, z = wr := ⟨_, rfl⟩
      subst hwq
      obtain ⟨hr1, hr2⟩ := HRO.out N hN1 (by omega)
      have HR12 := Lib.hid (And.intro hr1 hr2)
      clear hr1 hr2 hj hlt
      have b0 := HM.out.box.cells 0 _ rfl
      have b1 := HM.out.box.cells 1 _ rfl
      have b2 := HM.out.box.cells 2 _ rfl
      have b3 := HM.out.box.cells 3 _ rfl
      have bl := HM.out.box.lt
      go_upto_region 15 with (first | (go_at_call 11; refine (HM.out.ord HR12.out.1 HR12.out.2 (Ext.refl _)).mono ?_; rintro e1 wa ⟨pa, ca, rfl, HA⟩) | fail)
      have d0 := (HM.out.box.ext HA.out.2).cells 0 _ rfl
      have d1 := (HM.out.box.ext HA.out.2).cells 1 _ rfl
      have d2 := (HM.out.box.ext HA.out.2).cells 2 _ rfl
      have d3 := (HM.out.box.ext HA.out.2).cells 3 _ rfl
      have dl := (HM.out.box.ext HA.out.2).lt
      clear b0 b1 b2 b3 bl
      go_upto_region 18 with (first | (go_at_call 12; refine (HM.out.lev HR12.out.1 HR12.out.2 HA.out.2).mono ?_; rintro e1 wf ⟨pb, cb, rfl, HB⟩) | (go_at_call 13; refine (num15_any _ _).mono ?_; rintro e8 w8 ⟨rfl, rfl⟩) | fail)
      obtain ⟨hca, hcaI, HPA⟩ : N ≤ ca ∧ (ca : Int) ≤ 9223372036854775807 ∧ Hid (∀ i, i < N → ∃ b o, pa = some ⟨b, o, none⟩ ∧ w8.cell? ⟨b, o + i, none⟩ = some (.int .i64 (if row = true then (N : Int) - 1 - (i : Int) else (i : Int)))) := by
        obtain ⟨a', c', e, h1, h2, h3⟩ := HA.out.1
        simp only [Value.slice.injEq] at e
        obtain ⟨rfl, -, rfl⟩ := e
        refine ⟨h1, by unfold maxLen at h2; omega, Lib.hid (fun i hi => ?_)⟩
        obtain ⟨b, o, e2, h4⟩ := h3 i _ (by unfold i64s; rw [List.getElem?_map, ordN2_at hi]; rfl)
        exact ⟨b, o, e2, HB.out.2.cell h4⟩
      obtain ⟨hcb, hcbI, HPB⟩ : N ≤ cb ∧ (cb : Int) ≤ 9223372036854775807 ∧ Hid (∀ i, i < N → ∃ b o, pb = some ⟨b, o, none⟩ ∧ w8.cell? ⟨b, o + i, none⟩ = some (.int .i64 (if row = true then (N : Int) - 1 - (i : Int) else 0))) := by
        obtain ⟨a', c', e, h1, h2, h3⟩ := HB.out.1
        simp only [Value.slice.injEq] at e
        obtain ⟨rfl, -, rfl⟩ := e
        refine ⟨h1, by unfold maxLen at h2; omega, Lib.hid (fun i hi => ?_)⟩
        obtain ⟨b, o, e2, h4⟩ := h3 i _ (by unfold i64s; rw [List.getElem?_map, levN2_at hi]; rfl)
        exact ⟨b, o, e2, h4⟩
      have HXF : Hid (Ext w w8) := Lib.hid (((H1.out.trans HM.out.ext).trans HA.out.2).trans HB.out.2)
      clear d0 d1 d2 d3 dl hsr hsb
      go_upto_region 19 with fail
      go_loopw [14] (fun i wr => ∃ k : Nat, k ≤ N ∧ i = .int .i64 (k : Int) ∧ wr = w8) (fun i _ => N - (intOf i).toNat)
      case atStart => exact ⟨0, Nat.zero_le _, rfl, rfl⟩
      case round =>
        obtain ⟨k, hk, rfl, rfl⟩ := hrel
        by_cases hlt2 : k < N
        · have hki : (k : Int) < (N : Int) := Int.ofNat_lt.2 hlt2
          have hkc : k < ca := by omega
          have hkd : k < cb := by omega
          obtain ⟨b, o, rfl, d0⟩ := HPA.out k hlt2
          obtain ⟨b2, o2, rfl, d1⟩ := HPB.out k hlt2
          have dl := World.block_lt_of_cell? _ _ d0
          have dl1 := World.block_lt_of_cell? _ _ d1
          cases row with
          | true =>
            rw [if_pos rfl] at d0 d1
            go_wp2
            exact ⟨⟨k + 1, by omega, by go_num, trivial⟩, by simp [intOf]; omega⟩
          | false =>
            rw [if_neg (by decide)] at d0 d1
            go_wp2
            exact ⟨⟨k + 1, by omega, by go_num, trivial⟩, by simp [intOf]; omega⟩
        · have hki : ¬ (k : Int) < (N : Int) := fun e => hlt2 (Int.ofNat_lt.1 e)
          go_wp2
          rw [HQ.out]
          exact ⟨rfl, HXF⟩
end Go.Proofs.Ytmommjagndadjaa.Sc

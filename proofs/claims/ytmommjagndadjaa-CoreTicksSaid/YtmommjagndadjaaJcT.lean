/-
  The law on periodic equations of flat programs: what it computes is true.
  No condition.
-/
import Derived.Test.YtmommjagndadjaaJcN
namespace Go.Proofs.Ytmommjagndadjaa
open Go.RowKit Go.Maps
set_option linter.unusedSimpArgs false
set_option linter.unusedVariables false
set_option maxRecDepth 100000

/-! ### Plain -/
abbrev nT : ByteArray := ⟨#[116]⟩
def tkC (p o : Int) : CP := { ins := [], outs := [⟨nT, 1, []⟩], locals := [], eqs := [⟨3, nT, exZ, 0, eB, eB, p, o⟩] }
theorem tk_okC {p o : Int} (hp : I64 p) (ho : I64 o) : okC (tkC p o) :=
  ⟨fun v hv => by simp [tkC] at hv, fun v hv => by
    simp only [tkC, List.mem_singleton] at hv
    subst hv
    exact okV_b (by decide), fun v hv => by simp [tkC] at hv, fun q hq => by
    simp only [tkC, List.mem_singleton] at hq
    subst hq
    exact ⟨sm9_i64 (by kernel_rfl), nm9_le (by kernel_rfl), okE_b _ (by kernel_rfl), sm9_i64 (by kernel_rfl), nm9_le (by kernel_rfl), nm9_le (by kernel_rfl), hp, ho⟩⟩
theorem tk_smC (p o : Int) : smC (tkC p o) := smC_b (by kernel_rfl)
theorem tk_forms (p o : Int) : formsC (tkC p o).tab (tkC p o) = ((decide (1 ≤ p ∧ p ≤ 64 ∧ 0 ≤ o ∧ o < p) && true) && true) := by kernel_rfl
theorem tk_others (p o : Int) : longC (tkC p o) = true ∧ twiceC (tkC p o) = true ∧ kindsC (tkC p o) = true ∧ namesC (tkC p o).tab (tkC p o) = true ∧ missC (tkC p o).defs (tkC p o) = true ∧ typesC (tkC p o).tab (tkC p o) = true ∧ clocksC (tkC p o).tab (tkC p o) = true ∧ cyclesC (tkC p o) = true :=
  ⟨by kernel_rfl, by kernel_rfl, by kernel_rfl, by kernel_rfl, by kernel_rfl, by kernel_rfl, by kernel_rfl, by kernel_rfl⟩
theorem tk_chk (p o : Int) : chkC (tkC p o) = if 1 ≤ p ∧ p ≤ 64 ∧ 0 ≤ o ∧ o < p then 0 else 40 := by
  obtain ⟨h1, h2, h3, h4, h5, h6, h7, h8⟩ := tk_others p o
  have h9 := tk_forms p o
  rw [Bool.and_true, Bool.and_true] at h9
  unfold chkC
  rw [h1, h2, h3, h4, h5, h6, h7, h8, h9]
  by_cases h : 1 ≤ p ∧ p ≤ 64 ∧ 0 ≤ o ∧ o < p
  · rw [if_pos h, decide_eq_true h]; rfl
  · rw [if_neg h, decide_eq_false h]; rfl
def tkV (p o : Int) : Nat → Nat → List (List Int)
  | _, 0 => []
  | k, m + 1 => [if (k : Int).tmod p = o then 1 else 0] :: tkV p o (k + 1) m
theorem tkV_len (p o : Int) : ∀ (m k : Nat), (tkV p o k m).length = m
  | 0, _ => rfl
  | m + 1, k => by rw [tkV, List.length_cons, tkV_len p o m]
theorem tkV_at (p o : Int) : ∀ (m k i : Nat), i < m → (tkV p o k m)[i]? = some [if ((k + i : Nat) : Int).tmod p = o then 1 else 0]
  | 0, _, _, h => by omega
  | m + 1, k, 0, _ => by rw [tkV]; rfl
  | m + 1, k, i + 1, h => by
    rw [tkV, List.getElem?_cons_succ, tkV_at p o m (k + 1) i (by omega), show k + 1 + i = k + (i + 1) by omega]
theorem tk_order (p o : Int) : sortV (hangsV (tkC p o)) = [0] := by kernel_rfl
theorem tk_tick (p o : Int) (ms : MS) (k : Int) : tickC (tkC p o) (kindT (clksH (tkC p o))) (clksH (tkC p o)) [0] ms k [] = [(nT, if k.tmod p = o then 1 else 0)] := by kernel_rfl
theorem tk_go (p o : Int) : ∀ (m k : Nat) (ms : MS), goC (tkC p o) (kindT (clksH (tkC p o))) (clksH (tkC p o)) [0] ms (k : Int) (List.replicate m []) = tkV p o k m
  | 0, k, ms => rfl
  | m + 1, k, ms => by
    rw [List.replicate_succ, goC, tkV, tk_tick]
    have h1 : ((k : Int) + 1) = ((k + 1 : Nat) : Int) := by omega
    rw [h1, tk_go p o m (k + 1)]
    rfl
theorem ask_nil : ∀ m : Nat, askL [] (List.replicate m []) = 0
  | 0 => rfl
  | m + 1 => by
    rw [List.replicate_succ, askL, ask_nil m]
    rfl
theorem tk_run (p o : Int) (m : Nat) (hm : m ≤ 1000) : runC (tkC p o) (List.replicate m []) = if 1 ≤ p ∧ p ≤ 64 ∧ 0 ≤ o ∧ o < p then (0, tkV p o 0 m) else (40, []) := by
  unfold runC
  rw [tk_chk]
  by_cases h : 1 ≤ p ∧ p ≤ 64 ∧ 0 ≤ o ∧ o < p
  · rw [if_pos h, if_pos h, if_neg (by simp)]
    have h1 : askV ((tkC p o).ins.map VR.kind) (List.replicate m []) = 0 := by
      unfold askV
      rw [if_neg (by simp; omega)]
      exact ask_nil m
    rw [h1, if_neg (by simp), tk_order]
    have h2 := tk_go p o m 0 ((tkC p o).eqs.map fun _ => none)
    rw [Int.natCast_zero] at h2
    rw [h2]
  · rw [if_neg h, if_neg h, if_pos (by simp)]
/-! ### In memory -/
theorem nil_rows {w : World} {g m : Nat} {fr : Nat × Nat} (h : w.heap[g]? = some (.cells (madeCells #[Value.slice none 0 0] m) 36 fr)) (hm : m ≤ 300) : RowsIn w (.slice (some ⟨g, 0, none⟩) m m) (List.replicate m NLc) (List.replicate m []) := by
  refine ⟨?_, by simp, fun j x r e1 e2 => ?_⟩
  · rw [List.length_replicate]
    refine SlC.blk h m m _ (Nat.le_refl _) (Nat.le_trans hm (by decide)) ?_
    apply List.ext_getElem?
    intro i
    rw [List.getElem?_replicate]
    simp [madeCells]
    split
    · rename_i hi
      rw [List.getElem?_range hi]
      simp [Nat.mod_one]
    · rename_i hi
      rw [List.getElem?_eq_none (by simp; omega)]
      rfl
  · rw [List.eq_of_mem_replicate (List.mem_of_getElem? e1), List.eq_of_mem_replicate (List.mem_of_getElem? e2)]
    exact SlC.nil w
theorem tk_in {w : World} {g h : Nat} {p o : Int} (h1 : w.heap[g]? = some (.cells #[.string nT, .int .i64 1, NLc] 30 (0, 0))) (h2 : w.heap[h]? = some (.cells #[.int .i64 3, .string nT, .int .i64 0, .int .i64 0, .int .i64 0, .int .i64 0, .string eB, NLc, .int .i64 0, .string eB, .string eB, .int .i64 p, .int .i64 o] 35 (0, 0))) : CPIn w (tkC p o) ⟨NLc, .slice (some ⟨g, 0, none⟩) 1 1, NLc, .slice (some ⟨h, 0, none⟩) 1 1⟩ where
  ins := VRIn.nil w
  outs := VRIn.blk (l := (tkC p o).outs) h1 (show 1 ≤ maxLen by decide) (by simp [tkC]) rfl
  locals := VRIn.nil w
  eqs := QIn.blk (l := (tkC p o).eqs) [NLc] h2 (show 1 ≤ maxLen by decide) rfl (fun i q kv h1 h2 => by
    rcases i with _ | i
    · simp [tkC] at h1 h2
      subst h1 h2
      exact KIn.none _ _ _ _ _ _
    · simp [tkC] at h1) rfl
set_option maxHeartbeats 8000000 in
theorem coreTicks_any (p o n : Int) (hp : I64 p) (ho : I64 o) (w : World) : Calls Try.prog 5 #[.int .i64 p, .int .i64 o, .int .i64 n] w fun e w' => e = .returned (.bool true) ∧ Hid (Ext w w') := by
  obtain ⟨Q, hQ⟩ : ∃ Q, Q = fun e w' => e = Ending.returned (.bool true) ∧ Hid (Ext w w') := ⟨_, rfl⟩
  rw [← hQ]
  have HQ := Lib.hid hQ
  have HPO := Lib.hid (And.intro hp ho)
  clear hQ hp ho
  go_enter Try.func5, Try.ntmps5
  go_upto_region 2 with (first | (go_at_call 14; refine (alive13_any _).mono ?_; rintro e1 w1 ⟨rfl, H1⟩) | fail)
  by_cases hn0 : n < 0
  case pos =>
    go_wp2
    rw [HQ.out]
    exact ⟨rfl, H1⟩
  case neg =>
  by_cases hn1 : n > 300
  case pos =>
    go_wp2
    rw [HQ.out]
    exact ⟨rfl, H1⟩
  case neg =>
  obtain ⟨m, rfl⟩ : ∃ m : Nat, n = (m : Int) := ⟨n.toNat, by omega⟩
  have hm : m ≤ 300 := by omega
  go_upto_region 5 with fail
  have hin : CPIn (((w1.alloc (.cells #[.string nT, .int .i64 1, NLc] 30)).alloc (.cells #[.int .i64 3, .string nT, .int .i64 0, .int .i64 0, .int .i64 0, .int .i64 0, .string eB, NLc, .int .i64 0, .string eB, .string eB, .int .i64 p, .int .i64 o] 35)).alloc (.cells #[NLc, .slice (some ⟨w1.heap.size, 0, none⟩) 1 1, NLc, .slice (some ⟨w1.heap.size + 1, 0, none⟩) 1 1] 26)) (tkC p o) ⟨NLc, .slice (some ⟨w1.heap.size, 0, none⟩) 1 1, NLc, .slice (some ⟨w1.heap.size + 1, 0, none⟩) 1 1⟩ := by
    refine tk_in ?_ ?_
    all_goals repeat (first | (refine heap_alloc_at _ _ _ ?_; simp; done) | (refine (Below.heap_alloc _ _ _ ?_).trans ?_; · (simp only [World.size_alloc]; omega)))
  have hbx : BoxV (w1.heap.size + 1 + 1) [NLc, .slice (some ⟨w1.heap.size, 0, none⟩) 1 1, NLc, .slice (some ⟨w1.heap.size + 1, 0, none⟩) 1 1] (((w1.alloc (.cells #[.string nT, .int .i64 1, NLc] 30)).alloc (.cells #[.int .i64 3, .string nT, .int .i64 0, .int .i64 0, .int .i64 0, .int .i64 0, .string eB, NLc, .int .i64 0, .string eB, .string eB, .int .i64 p, .int .i64 o] 35)).alloc (.cells #[NLc, .slice (some ⟨w1.heap.size, 0, none⟩) 1 1, NLc, .slice (some ⟨w1.heap.size + 1, 0, none⟩) 1 1] 26)) := by
    refine BoxV.of_row (e := 26) (cs := #[NLc, .slice (some ⟨w1.heap.size, 0, none⟩) 1 1, NLc, .slice (some ⟨w1.heap.size + 1, 0, none⟩) 1 1]) ?_
    exact heap_alloc_at _ _ _ (by simp)
  have hxw : Ext w (((w1.alloc (.cells #[.string nT, .int .i64 1, NLc] 30)).alloc (.cells #[.int .i64 3, .string nT, .int .i64 0, .int .i64 0, .int .i64 0, .int .i64 0, .string eB, NLc, .int .i64 0, .string eB, .string eB, .int .i64 p, .int .i64 o] 35)).alloc (.cells #[NLc, .slice (some ⟨w1.heap.size, 0, none⟩) 1 1, NLc, .slice (some ⟨w1.heap.size + 1, 0, none⟩) 1 1] 26)) := ((H1.out.alloc _).alloc _).alloc _
  generalize (((w1.alloc (.cells #[.string nT, .int .i64 1, NLc] 30)).alloc (.cells #[.int .i64 3, .string nT, .int .i64 0, .int .i64 0, .int .i64 0, .int .i64 0, .string eB, NLc, .int .i64 0, .string eB, .string eB, .int .i64 p, .int .i64 o] 35)).alloc (.cells #[NLc, .slice (some ⟨w1.heap.size, 0, none⟩) 1 1, NLc, .slice (some ⟨w1.heap.size + 1, 0, none⟩) 1 1] 26)) = wb at hin hbx hxw ⊢
  generalize w1.heap.size + 1 + 1 = X at hbx ⊢
  generalize w1.heap.size + 1 = h at hin hbx ⊢
  generalize w1.heap.size = g at hin hbx ⊢
  obtain ⟨E, hE⟩ : ∃ E : Int, E = if 1 ≤ p ∧ p ≤ 64 ∧ 0 ≤ o ∧ o < p then 0 else 40 := ⟨_, rfl⟩
  obtain ⟨OS, hOS⟩ : ∃ OS : List (List Int), OS = if 1 ≤ p ∧ p ≤ 64 ∧ 0 ≤ o ∧ o < p then tkV p o 0 m else [] := ⟨_, rfl⟩
  obtain ⟨L, hL⟩ : ∃ L, L = OS.length := ⟨_, rfl⟩
  have hrun : runC (tkC p o) (List.replicate m []) = (E, OS) := by
    rw [tk_run p o m (by omega), hE, hOS]
    split <;> rfl
  have HRUN : Hid (∀ w' g', Ext wb w' → w'.heap[g']? = some (.cells (madeCells #[Value.slice none 0 0] m) 36 (0, 0)) → Calls Try.prog 16 #[.agg #[NLc, .slice (some ⟨g, 0, none⟩) 1 1, NLc, .slice (some ⟨h, 0, none⟩) 1 1], .slice (some ⟨g', 0, none⟩) m m] w' (fun e w'' => ∃ av cv vs, e = .returned (.tuple #[.slice av L cv, .int .i64 E]) ∧ Hid (RowsIn w'' (.slice av L cv) vs OS ∧ Ext w' w''))) := Lib.hid (fun w' g' hx hg => by
    have h9 := crun_any (tkC p o) ⟨NLc, .slice (some ⟨g, 0, none⟩) 1 1, NLc, .slice (some ⟨h, 0, none⟩) 1 1⟩ _ _ _ w' (hin.ext hx) (tk_smC p o) (tk_okC HPO.out.1 HPO.out.2) (nil_rows hg hm) (fun r hr => by rw [List.eq_of_mem_replicate hr]; simp)
    rw [hrun] at h9
    refine h9.mono ?_
    rintro e w'' ⟨v, vs, h1, h2, h3⟩
    obtain ⟨av, cv, rfl, -, -, -⟩ := id h2.top
    rw [hL]
    exact ⟨av, cv, vs, h1, Lib.hid ⟨h2, h3⟩⟩)
  have HE := Lib.hid (And.intro hE (And.intro hOS hL))
  have HXW := Lib.hid hxw
  have hmk := run_make_row' (P := Try.prog) 42 36 (.slice none 0 0) 24 Try.underlying42 infoRows rfl .i64 .i64 m (by omega) (by omega)
  have x0 := hbx.cells 0 _ rfl
  have x1 := hbx.cells 1 _ rfl
  have x2 := hbx.cells 2 _ rfl
  have x3 := hbx.cells 3 _ rfl
  have xl := hbx.lt
  have hq0 : wb.cell? ⟨X, 0, none⟩ = some NLc ∧ wb.cell? ⟨X, 1, none⟩ = some (.slice (some ⟨g, 0, none⟩) 1 1) ∧ wb.cell? ⟨X, 2, none⟩ = some NLc ∧ wb.cell? ⟨X, 3, none⟩ = some (.slice (some ⟨h, 0, none⟩) 1 1) := ⟨x0, x1, x2, x3⟩
  have HQ0 : Hid (∀ w', Ext wb w' → w'.cell? ⟨X, 0, none⟩ = some NLc ∧ w'.cell? ⟨X, 1, none⟩ = some (.slice (some ⟨g, 0, none⟩) 1 1) ∧ w'.cell? ⟨X, 2, none⟩ = some NLc ∧ w'.cell? ⟨X, 3, none⟩ = some (.slice (some ⟨h, 0, none⟩) 1 1)) := Lib.hid (fun w' hx => ⟨hx.cell x0, hx.cell x1, hx.cell x2, hx.cell x3⟩)
  clear hin hE hOS hL hrun hxw hbx
  go_region_held3 (fun w' => w'.cell? ⟨X, 0, none⟩ = some NLc ∧ w'.cell? ⟨X, 1, none⟩ = some (.slice (some ⟨g, 0, none⟩) 1 1) ∧ w'.cell? ⟨X, 2, none⟩ = some NLc ∧ w'.cell? ⟨X, 3, none⟩ = some (.slice (some ⟨h, 0, none⟩) 1 1))
    (first | exact hq0 | exact HQ0.out _ ((Ext.refl wb).drew) | exact HQ0.out _ ((Ext.refl wb).alloc _) | exact HQ0.out _ ((Ext.refl wb).drew.alloc _) | exact HQ0.out _ (((Ext.refl wb).drew.alloc _).trans H3.out.2) | exact HQ0.out _ (((Ext.refl wb).alloc _).trans H3.out.2))
    (first | (go_at_call 16; refine (HRUN.out _ _ (by repeat first | exact Ext.refl _ | assumption | refine Ext.drew ?_ | refine Ext.drewN ?_ _ | refine Ext.extBy ?_ _ | refine Ext.alloc ?_ _ | refine Ext.setCell ?_ (by simp; try omega) _ | (refine Ext.trans ?_ (by assumption))) (by first | exact heap_alloc_at _ _ _ (by simp) | exact heap_alloc_last _ _)).mono ?_; rintro e3 w3 ⟨av, cv, vs, rfl, H3⟩) | fail)
  have HX3 : Hid (Ext w w3) := Lib.hid (HXW.out.trans (Ext.trans (by first | exact (Ext.refl wb).drew.alloc _ | exact (Ext.refl wb).alloc _) H3.out.2))
  have HR3 := Lib.hid H3.out.1
  clear H3 hq0 HQ0 x0 x1 x2 x3 xl hmk HRUN
  by_cases hg : 1 ≤ p ∧ p ≤ 64 ∧ 0 ≤ o ∧ o < p
  case neg =>
    have HEV : Hid (E = 40 ∧ L = 0) := Lib.hid (by
      obtain ⟨h1, h2, h3⟩ := HE.out
      rw [if_neg hg] at h1 h2
      rw [h2] at h3
      exact ⟨h1, h3⟩)
    obtain ⟨rfl, rfl⟩ := HEV.out
    rcases (show p < 1 ∨ (¬ p < 1 ∧ p > 64) ∨ (¬ p < 1 ∧ ¬ p > 64 ∧ o < 0) ∨ (¬ p < 1 ∧ ¬ p > 64 ∧ ¬ o < 0 ∧ p ≤ o) by omega) with h1 | ⟨h1, h2⟩ | ⟨h1, h2, h3⟩ | ⟨h1, h2, h3, h4⟩
    all_goals
      clear hg HEV HE
      go_wp2_with (first | (go_at_call 17; refine (num13_any _ _).mono ?_; rintro e8 w8 ⟨rfl, rfl⟩) | fail)
      rw [HQ.out]
      exact ⟨rfl, Lib.hid (Ext.trans HX3.out (by repeat first | exact Ext.refl _ | assumption | refine Ext.drew ?_ | refine Ext.drewN ?_ _ | refine Ext.extBy ?_ _ | refine Ext.alloc ?_ _ | refine Ext.setCell ?_ (by simp; try omega) _ | (refine Ext.trans ?_ (by assumption))))⟩
  case pos =>
  have HEV : Hid (E = 0 ∧ L = m ∧ OS = tkV p o 0 m) := Lib.hid (by
    obtain ⟨h1, h2, h3⟩ := HE.out
    rw [if_pos hg] at h1 h2
    rw [h2, tkV_len] at h3
    exact ⟨h1, h3, h2⟩)
  obtain ⟨rfl, rfl, hos⟩ := HEV.out
  subst hos
  have g1 : ¬ p < 1 := by omega
  have g2 : ¬ p > 64 := by omega
  have g3 : ¬ o < 0 := by omega
  have g4 : ¬ o ≥ p := by omega
  have gp : ¬ p = 0 := by omega
  obtain ⟨hcv1, hcv2, HVS⟩ : L ≤ cv ∧ (cv : Int) ≤ 9223372036854775807 ∧ Hid (∀ (j : Nat) (u : Value), vs[j]? = some u → ∃ b o', av = some ⟨b, o', none⟩ ∧ w3.cell? ⟨b, o' + j, none⟩ = some u) := by
    obtain ⟨a', c', e, h1, h2, h3⟩ := HR3.out.top
    rw [tkV_len] at e h1
    simp only [Value.slice.injEq] at e
    obtain ⟨rfl, -, rfl⟩ := e
    exact ⟨h1, by unfold maxLen at h2; omega, Lib.hid h3⟩
  clear hg HEV HE
  go_upto_region 9 with fail
  go_loopw [11] (fun i wr => ∃ j : Nat, j ≤ L ∧ i = .int .i64 (j : Int) ∧ Hid (Ext w3 wr)) (fun i _ => L - (intOf i).toNat)
  case atStart => exact ⟨0, Nat.zero_le _, rfl, Lib.hid (Ext.refl _)⟩
  case round =>
    obtain ⟨j, hj, rfl, HX⟩ := hrel
    by_cases hlt : j < L
    · have hji : (j : Int) < (L : Int) := Int.ofNat_lt.2 hlt
      have hjc : j < cv := by omega
      have h64 : I64 ((j : Int) + 1) := by unfold I64; omega
      obtain ⟨x, hx⟩ : ∃ x, vs[j]? = some x := ⟨_, List.getElem?_eq_getElem (by rw [HR3.out.len, tkV_len]; exact hlt)⟩
      obtain ⟨r, hr⟩ : ∃ r, r = (if ((0 + j : Nat) : Int).tmod p = o then (1 : Int) else 0) := ⟨_, rfl⟩
      have hrow := HR3.out.row j x [r] hx (by rw [hr]; exact tkV_at p o L 0 j hlt)
      obtain ⟨b, o', rfl, c0⟩ := HVS.out j x hx
      obtain ⟨ra, rc, rfl, l1, l2, lc⟩ := hrow
      obtain ⟨b2, o2, rfl, c1⟩ := lc 0 (.int .i64 r) rfl
      rw [Nat.add_zero] at c1
      have d0 := HX.out.cell c0
      have d1 := HX.out.cell c1
      have dl := World.block_lt_of_cell? wr _ d0
      have dl1 := World.block_lt_of_cell? wr _ d1
      have hrc : (0 : Int) < (rc : Int) := by
        have l1' : 1 ≤ rc := l1
        omega
      have l1' : 0 < rc := l1
      have hrr : r = if (j : Int) % p = o then (1 : Int) else 0 := by
        rw [hr, Nat.zero_add, Int.tmod_eq_emod_of_nonneg (by omega)]
      clear hr l1 l2 lc c0 c1 hx
      have HXR := HX
      by_cases hz : (j : Int) % p = o
      · rw [if_pos hz] at hrr
        subst hrr
        have hzq : ((j : Int) % p == o) = true := by simpa using hz
        go_upto_region 11 with fail
        (refine region_drew (by kernel_rfl) (by kernel_rfl) ?_; (repeat (go_big_quiet_step (fail))); refine wpQuiet_nil ?_; rintro _ ⟨nq, rfl⟩)
        go_wp2
        exact ⟨⟨j + 1, by omega, by go_num, Lib.hid (HXR.out.trans ((Ext.refl _).drewN nq))⟩, by simp [intOf]; omega⟩
      · rw [if_neg hz] at hrr
        subst hrr
        have hzq : ((j : Int) % p == o) = false := by simpa using hz
        go_upto_region 11 with fail
        (refine region_drew (by kernel_rfl) (by kernel_rfl) ?_; (repeat (go_big_quiet_step (fail))); refine wpQuiet_nil ?_; rintro _ ⟨nq, rfl⟩)
        go_wp2
        exact ⟨⟨j + 1, by omega, by go_num, Lib.hid (HXR.out.trans ((Ext.refl _).drewN nq))⟩, by simp [intOf]; omega⟩
    · have hji : ¬ (j : Int) < (L : Int) := fun e => hlt (Int.ofNat_lt.1 e)
      obtain rfl : L = j := by omega
      go_wp2_with (first | (go_at_call 17; refine (num13_any _ _).mono ?_; rintro e8 w8 ⟨rfl, rfl⟩) | fail)
      rw [HQ.out]
      exact ⟨rfl, Lib.hid (HX3.out.trans HX.out)⟩
theorem coreTicks_law (p o n : Int) (hp : I64 p) (ho : I64 o) (w : World) : Calls Try.prog 5 #[.int .i64 p, .int .i64 o, .int .i64 n] w fun e w' => e = .returned (.bool true) ∧ Ext w w' :=
  (coreTicks_any p o n hp ho w).mono fun _ _ h => ⟨h.1, h.2.out⟩
end Go.Proofs.Ytmommjagndadjaa

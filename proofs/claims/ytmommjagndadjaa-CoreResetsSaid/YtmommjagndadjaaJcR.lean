/-
  Arguments that are rows of bools, or of numbers: how they lie in memory.
  No condition.
  The law on resets of flat programs: what it computes is true.
  No condition.
-/
import Derived.Test.YtmommjagndadjaaJcA
import Derived.Test.YtmommjagndadjaaJcN
namespace Go.Proofs.Ytmommjagndadjaa
open Go.RowKit Go.ChangeShapes Go.WideShapes Go.ChangeAt
set_option linter.unusedSimpArgs false
set_option linter.unusedVariables false
set_option maxRecDepth 100000

def boolsC (l : List Bool) : List Value := l.map Value.bool
theorem cellsBoolC : Try.prog.cellsOf 4 = 1 := by kernel_rfl
section
variable {H : Type} {enc : TypeId × Value → H} {W : World} {base base0 : Nat} {r : Reach} {sp : Nat → Bool} {held : Bool} {v : Value} {d : DataW H} {p : List MemPlace}
theorem open_boolsC (hval : Value.okWide Try.prog W r base0 54 v) (h : DataW.Trod enc Try.prog W base sp held 54 v d p) :
    ∃ l : List Bool, SlC W v l.length (boolsC l) := by
  obtain ⟨va, vm, vc, rfl⟩ := okWide_slice Try.underlying54 hval
  obtain ⟨fuel, h⟩ := h
  rcases Deep.open_slice1 Try.underlying54 cellsBoolC h with ⟨e1, -⟩ | ⟨a, len, cap, m, n, V, D, Pl, e1, hb, hl, hcm, hm, -, hel⟩
  · change [Value.slice va vm vc] = _ at e1
    simp only [List.cons.injEq, and_true] at e1
    rw [e1]
    exact ⟨[], ⟨none, 0, rfl, Nat.le_refl _, Nat.zero_le _, fun j u hu => by simp [boolsC] at hu⟩⟩
  · change [Value.slice va vm vc] = _ at e1
    simp only [List.cons.injEq, and_true] at e1
    rw [e1]
    have hlm : len ≤ m := by rw [hm]; split <;> omega
    have each : ∀ i, i < len → ∃ b : Bool, V i = .bool b := fun i hi => by
      obtain ⟨_, h2⟩ := hel i (by omega)
      obtain ⟨b, e, _⟩ := DataW.trod_bool Try.underlying4 h2
      simp only [List.cons.injEq, and_true] at e
      exact ⟨b, e⟩
    have hch : ∃ f : Nat → Bool, ∀ i, i < len → V i = .bool (f i) := by
      classical
      exact ⟨fun i => if hi : i < len then Classical.choose (each i hi) else false, fun i hi => by simp only [dif_pos hi]; exact Classical.choose_spec (each i hi)⟩
    obtain ⟨f, hf⟩ := hch
    refine ⟨(List.range len).map f, ?_⟩
    rw [show ((List.range len).map f).length = len by simp]
    refine slc_at hl hcm fun j u hu => ?_
    have hj : j < len := by have := (List.getElem?_eq_some_iff.1 hu).1; simpa [boolsC] using this
    rw [(hel j (by omega)).1]
    unfold boolsC at hu
    rw [List.getElem?_map, List.getElem?_map, List.getElem?_range hj] at hu
    simp only [Option.map_some] at hu
    rw [hf j hj]
    exact hu
theorem open_intsC (hval : Value.okWide Try.prog W r base0 36 v) (h : DataW.Trod enc Try.prog W base sp held 36 v d p) :
    ∃ l : List Int, SlC W v l.length (i64s l) ∧ ∀ n ∈ l, I64 n := by
  obtain ⟨va, vm, vc, rfl⟩ := okWide_slice Try.underlying36 hval
  obtain ⟨fuel, h⟩ := h
  change DataW.trod enc Try.prog W base sp held fuel 36 [.slice va vm vc] = _ at h
  obtain ⟨l, hl, hw⟩ := open_numbers Try.underlying36 Try.underlying3 cellsInt h
  exact ⟨l, hl, fun n hn => lit_I64 (hw n hn)⟩
end
end Go.Proofs.Ytmommjagndadjaa
namespace Go.Proofs.Ytmommjagndadjaa
open Go.RowKit Go.Maps
set_option linter.unusedSimpArgs false
set_option linter.unusedVariables false
set_option maxRecDepth 100000

/-! ### Plain -/
def rstI (b : Bool) : Int := if b then 1 else 0
def rstN (b : Bool) (n : Int) : Int := if b then 0 else n
def rstV : Int → List Bool → List Int
  | _, [] => []
  | n, b :: l => (rstN b n + 1) :: rstV (rstN b n + 1) l
def rstR (l : List Bool) : List (List Int) := l.map fun b => [1, rstI b]
theorem add1 : ∀ k : Fin 101, (binv 3 2 (k.val : Int) 1).1 = (k.val : Int) + 1 := by decide +kernel
theorem rst_order : sortV (hangsV smallC) = [1, 0] := by kernel_rfl
theorem rst_tick (z : Option Int) (n tick : Int) (b : Bool) : tickC smallC (kindT (clksH smallC)) (clksH smallC) [1, 0] [z, some n] tick [1, rstI b] = [(nY, (binv 3 2 (rstN b n) 1).1), (nM, rstN b n), (nR, rstI b), (nX, 1)] := by
  cases b <;> kernel_rfl
theorem rst_tick0 (z : Option Int) (tick : Int) (b : Bool) : tickC smallC (kindT (clksH smallC)) (clksH smallC) [1, 0] [z, none] tick [1, rstI b] = [(nY, (binv 3 2 0 1).1), (nM, 0), (nR, rstI b), (nX, 1)] := by
  cases b <;> kernel_rfl
theorem rst_keep (z m : Option Int) (a b c : Int) : keepQ [(nY, a), (nM, b), (nR, c), (nX, 1)] smallC.eqs [z, m] = [z, some a] := by kernel_rfl
theorem rst_out (a b c : Int) : (smallC.outs.map fun v => getV [(nY, a), (nM, b), (nR, c), (nX, 1)] v.name) = [a] := by kernel_rfl
theorem rst_go : ∀ (l : List Bool) (n : Nat) (z m : Option Int) (tick : Int), m = some (n : Int) ∨ (m = none ∧ n = 0) → n + l.length ≤ 101 → goC smallC (kindT (clksH smallC)) (clksH smallC) [1, 0] [z, m] tick (rstR l) = onesC (rstV (n : Int) l)
  | [], n, z, m, tick, _, _ => rfl
  | b :: l, n, z, m, tick, hm, hn => by
    rw [List.length_cons] at hn
    have hr : rstR (b :: l) = [1, rstI b] :: rstR l := rfl
    obtain ⟨k, hk⟩ : ∃ k : Nat, (k : Int) = rstN b (n : Int) ∧ k ≤ n := by
      cases b
      · exact ⟨n, rfl, Nat.le_refl _⟩
      · exact ⟨0, rfl, Nat.zero_le _⟩
    have ha : (binv 3 2 (rstN b (n : Int)) 1).1 = ((k + 1 : Nat) : Int) := by
      rw [← hk.1]
      exact add1 ⟨k, by omega⟩
    have ht : tickC smallC (kindT (clksH smallC)) (clksH smallC) [1, 0] [z, m] tick [1, rstI b] = [(nY, ((k + 1 : Nat) : Int)), (nM, rstN b (n : Int)), (nR, rstI b), (nX, 1)] := by
      rcases hm with h | ⟨h, h0⟩
      · rw [h, rst_tick, ha]
      · subst h0
        have e0 : rstN b ((0 : Nat) : Int) = 0 := by cases b <;> rfl
        rw [e0] at ha ⊢
        rw [h, rst_tick0, ha]
    rw [hr, goC, ht, rst_keep, rst_out, rst_go l (k + 1) z (some ((k + 1 : Nat) : Int)) (tick + 1) (.inl rfl) (by omega)]
    have hv : rstV (n : Int) (b :: l) = ((k + 1 : Nat) : Int) :: rstV ((k + 1 : Nat) : Int) l := by
      have e1 : rstN b (n : Int) + 1 = ((k + 1 : Nat) : Int) := by rw [← hk.1]; omega
      rw [rstV, e1]
    rw [hv]
    rfl
theorem rst_ask : ∀ l : List Bool, askL [2, 1] (rstR l) = 0
  | [] => rfl
  | b :: l => by
    have hr : rstR (b :: l) = [1, rstI b] :: rstR l := rfl
    have h1 : askR [2, 1] [1, rstI b] = 0 := by cases b <;> kernel_rfl
    rw [hr, askL, h1, if_neg (by simp), rst_ask l]
theorem rst_run (l : List Bool) (hl : l.length ≤ 100) : runC smallC (rstR l) = (0, onesC (rstV 0 l)) := by
  unfold runC
  rw [smallC_chk, if_neg (by simp)]
  have h1 : askV (smallC.ins.map VR.kind) (rstR l) = 0 := by
    unfold askV
    rw [if_neg (by unfold rstR; simp; omega)]
    exact rst_ask l
  rw [h1, if_neg (by simp), rst_order]
  have h2 := rst_go l 0 none none 0 (.inr ⟨rfl, rfl⟩) (by omega)
  rw [Int.natCast_zero] at h2
  exact congrArg (Prod.mk 0) h2
theorem rst_64 (l : List Bool) : ∀ r ∈ rstR l, ∀ n ∈ r, I64 n := fun r hr n hn => by
  unfold rstR at hr
  obtain ⟨b, -, rfl⟩ := List.mem_map.1 hr
  simp only [List.mem_cons, List.not_mem_nil, or_false] at hn
  rcases hn with rfl | rfl
  · exact sm9_i64 (by decide)
  · cases b <;> exact sm9_i64 (by decide)
/-- What stands at a place of a row. -/
theorem rst_step (n : Int) : ∀ (l : List Bool) (j : Nat) (b : Bool), l[j]? = some b → ∃ k, k = (match j with | 0 => n | j + 1 => (rstV n l).getD j 0) ∧ (rstV n l)[j]? = some (rstN b k + 1)
  | [], _, _, h => by simp at h
  | x :: l, 0, b, h => by
    simp at h
    subst h
    exact ⟨n, rfl, rfl⟩
  | x :: l, j + 1, b, h => by
    obtain ⟨k, h1, h2⟩ := rst_step (rstN x n + 1) l j b (by simpa using h)
    refine ⟨k, ?_, by rw [rstV, List.getElem?_cons_succ]; exact h2⟩
    cases j with
    | zero => rw [h1]; rfl
    | succ j => rw [h1]; rfl
theorem rstV_len : ∀ (l : List Bool) (n : Int), (rstV n l).length = l.length
  | [], _ => rfl
  | b :: l, n => by rw [rstV, List.length_cons, rstV_len l, List.length_cons]
/-! ### The walk -/
set_option maxHeartbeats 8000000 in
theorem coreResets_any (l : List Bool) (v : Value) (w : World) (hv : SlC w v l.length (boolsC l)) : Calls Try.prog 7 #[v] w fun e w' => e = .returned (.bool true) ∧ Hid (Ext w w') := by
  obtain ⟨Q, hQ⟩ : ∃ Q, Q = fun e w' => e = Ending.returned (.bool true) ∧ Hid (Ext w w') := ⟨_, rfl⟩
  rw [← hQ]
  have HQ := Lib.hid hQ
  obtain ⟨p, cap, rfl, h1, h2, hc⟩ := id hv
  obtain ⟨L, hL⟩ : ∃ n, n = l.length := ⟨_, rfl⟩
  rw [← hL] at h1 ⊢
  have hcI : (cap : Int) ≤ 9223372036854775807 := by unfold maxLen at h2; omega
  have HN := Lib.hid (And.intro hL hc)
  clear hQ hv h2 hc hL
  go_enter Try.func7, Try.ntmps7
  go_upto_region 2 with (first | (go_at_call 14; refine (alive13_any _).mono ?_; rintro e1 w1 ⟨rfl, H1⟩) | fail)
  by_cases hn0 : 100 < L
  case pos =>
    have hn1 : (L : Int) > 100 := by omega
    go_wp2
    rw [HQ.out]
    exact ⟨rfl, H1⟩
  case neg =>
  have hn1 : ¬ (L : Int) > 100 := by omega
  have hn2 : L ≤ 100 := by omega
  clear hn0
  go_upto_region 8 with fail
  go_loopw [4, 5, 6, 7] (fun a b c i wr => ∃ (j : Nat) (n : Int) (p4 p5 : Option Addr) (c4 c5 : Nat) (xs ys : List Value), j ≤ L ∧ i = .int .i64 (j : Int) ∧ c = .int .i64 n ∧ a = .slice p4 j c4 ∧ b = .slice p5 j c5 ∧ (0 ≤ n ∧ n ≤ j) ∧ Hid (TwoR w1 (.slice p4 j c4) (.slice p5 j c5) xs ys (rstR (l.take j)) (onesC ((rstV 0 l).take j)) wr ∧ xs.length = j ∧ ys.length = j) ∧ Hid (n = match j with | 0 => 0 | j + 1 => (rstV 0 l).getD j 0)) (fun _ _ _ i _ => L - (intOf i).toNat)
  case atStart => exact ⟨0, 0, none, none, 0, 0, [], [], Nat.zero_le _, rfl, rfl, rfl, rfl, by omega, Lib.hid ⟨TwoR.nil (Ext.refl _), rfl, rfl⟩, Lib.hid rfl⟩
  case round =>
    obtain ⟨j, n, p4, p5, c4, c5, xs, ys, hj, rfl, rfl, rfl, rfl, ⟨hn3, hn4⟩, HO, HV⟩ := hrel
    by_cases hlt : j < L
    · have hji : (j : Int) < (L : Int) := Int.ofNat_lt.2 hlt
      obtain ⟨bb, hbb⟩ : ∃ z, l[j]? = some z := ⟨_, List.getElem?_eq_getElem (by rw [← HN.out.1]; exact hlt)⟩
      obtain ⟨b, o, rfl, f1⟩ := HN.out.2 j (.bool bb) (by unfold boolsC; rw [List.getElem?_map, hbb]; rfl)
      have f2 := H1.out.cell f1
      have f3 := HO.out.1.fst.ext.cell f2
      have z1 : b < wr.heap.size := World.block_lt_of_cell? wr _ f3
      have hjc : j < cap := by omega
      have HB := Lib.hid hbb
      clear hbb f1 f2
      have hsw : w1.heap.size ≤ wr.heap.size := HO.out.1.fst.ext.size
      have hsb : w1.heap.size ≤ wr.heap.size := hsw
      cases bb
      case false =>
        go_upto_region 16 with (first | (at_builtin; (refine wpList_append_slc _ rfl (.tmp 32) (.tmp 35) 42 rfl w1.heap.size 36 (.slice none 0 0) 1 24 Try.underlying42 infoRows rfl (by decide) (.slice p4 j c4) xs.length xs rfl (ownsRow_ext HO.out.1.fst.top (by repeat first | exact Ext.refl _ | assumption | refine Ext.drew ?_ | refine Ext.drewN ?_ _ | refine Ext.extBy ?_ _ | refine Ext.alloc ?_ _ | refine Ext.setCell ?_ (by simp; try omega) _ | (refine Ext.trans ?_ (by assumption)))) _ 1 [.slice (some ⟨wr.heap.size, 0, none⟩) 2 2] rfl (SlC.fresh _ #[.slice (some ⟨wr.heap.size, 0, none⟩) 2 2] _ 1 _ (by simp) (by decide)) rfl (by simp [Value.oneCell']) (by unfold maxLen; (have := HO.out.2.1; omega)) (by (have := HO.out.2.1; omega)) (by simp; omega) ?_; intro v9 w9 hown9 hg9 hat9; obtain ⟨x9, y9, z9, rfl⟩ := own_slice3 hown9; have HP9 := Lib.hid (And.intro hown9 (And.intro hg9 hat9)); clear hown9 hg9 hat9)) | fail)
        obtain rfl : y9 = j + 1 := by
          obtain ⟨a', c', e, -⟩ := SlC.of_owns HP9.out.1
          simp at e
          rw [e.2.1, HO.out.2.1]
        have HT1 := Lib.hid ( HO.out.1.push #[.int .i64 1, .int .i64 0] [1, 0] rfl (show 2 ≤ maxLen by decide) HP9.out.2.1 HP9.out.1 HP9.out.2.2)
        have hs9 := HT1.out.fst.ext.size
        go_wp2_with ((at_builtin; (refine wpList_append_slc _ rfl (.tmp 37) (.tmp 40) 42 rfl w1.heap.size 36 (.slice none 0 0) 1 24 Try.underlying42 infoRows rfl (by decide) (.slice p5 j c5) ys.length ys rfl (ownsRow_ext HT1.out.snd.top (by repeat first | exact Ext.refl _ | assumption | refine Ext.drew ?_ | refine Ext.drewN ?_ _ | refine Ext.extBy ?_ _ | refine Ext.alloc ?_ _ | refine Ext.setCell ?_ (by simp; try omega) _ | (refine Ext.trans ?_ (by assumption)))) _ 1 [.slice (some ⟨w9.heap.size, 0, none⟩) 1 1] rfl (SlC.fresh _ #[.slice (some ⟨w9.heap.size, 0, none⟩) 1 1] _ 1 _ (by simp) (by decide)) rfl (by simp [Value.oneCell']) (by unfold maxLen; (have := HO.out.2.2; omega)) (by (have := HO.out.2.2; omega)) (by simp; omega) ?_; intro v8 w8 hown9 hg9 hat9; obtain ⟨x8, y8, z8, rfl⟩ := own_slice3 hown9; have HP8 := Lib.hid (And.intro hown9 (And.intro hg9 hat9)); clear hown9 hg9 hat9)))
        obtain rfl : y8 = j + 1 := by
          obtain ⟨a', c', e, -⟩ := SlC.of_owns HP8.out.1
          simp at e
          rw [e.2.1, HO.out.2.2]
        have ht2 := (HT1.out.swap.push #[.int .i64 (n + 1)] [n + 1] rfl (show 1 ≤ maxLen by decide) HP8.out.2.1 HP8.out.1 HP8.out.2.2).swap
        obtain ⟨k, hk1, hk2⟩ := rst_step 0 l j false HB.out
        have hk3 : n = k := HV.out.trans hk1.symm
        subst hk3
        refine ⟨⟨j + 1, n + 1, x9, x8, z9, z8, xs ++ [.slice (some ⟨wr.heap.size, 0, none⟩) 2 2], ys ++ [.slice (some ⟨w9.heap.size, 0, none⟩) 1 1], by omega, by go_num, rfl, rfl, rfl, by omega, Lib.hid ⟨?_, by simp [HO.out.2.1], by simp [HO.out.2.2]⟩, Lib.hid ?_⟩, by simp [intOf]; omega⟩
        · rw [List.take_add_one, HB.out, List.take_add_one, hk2]
          unfold rstR onesC at ht2 ⊢
          rw [List.map_append, List.map_append]
          exact ht2
        · show (n + 1 : Int) = (rstV 0 l).getD j 0
          rw [List.getD, hk2]
          rfl
      case true =>
        go_upto_region 16 with (first | (at_builtin; (refine wpList_append_slc _ rfl (.tmp 32) (.tmp 35) 42 rfl w1.heap.size 36 (.slice none 0 0) 1 24 Try.underlying42 infoRows rfl (by decide) (.slice p4 j c4) xs.length xs rfl (ownsRow_ext HO.out.1.fst.top (by repeat first | exact Ext.refl _ | assumption | refine Ext.drew ?_ | refine Ext.drewN ?_ _ | refine Ext.extBy ?_ _ | refine Ext.alloc ?_ _ | refine Ext.setCell ?_ (by simp; try omega) _ | (refine Ext.trans ?_ (by assumption)))) _ 1 [.slice (some ⟨wr.heap.size, 0, none⟩) 2 2] rfl (SlC.fresh _ #[.slice (some ⟨wr.heap.size, 0, none⟩) 2 2] _ 1 _ (by simp) (by decide)) rfl (by simp [Value.oneCell']) (by unfold maxLen; (have := HO.out.2.1; omega)) (by (have := HO.out.2.1; omega)) (by simp; omega) ?_; intro v9 w9 hown9 hg9 hat9; obtain ⟨x9, y9, z9, rfl⟩ := own_slice3 hown9; have HP9 := Lib.hid (And.intro hown9 (And.intro hg9 hat9)); clear hown9 hg9 hat9)) | fail)
        obtain rfl : y9 = j + 1 := by
          obtain ⟨a', c', e, -⟩ := SlC.of_owns HP9.out.1
          simp at e
          rw [e.2.1, HO.out.2.1]
        have HT1 := Lib.hid ( HO.out.1.push #[.int .i64 1, .int .i64 1] [1, 1] rfl (show 2 ≤ maxLen by decide) HP9.out.2.1 HP9.out.1 HP9.out.2.2)
        have hs9 := HT1.out.fst.ext.size
        go_wp2_with ((at_builtin; (refine wpList_append_slc _ rfl (.tmp 37) (.tmp 40) 42 rfl w1.heap.size 36 (.slice none 0 0) 1 24 Try.underlying42 infoRows rfl (by decide) (.slice p5 j c5) ys.length ys rfl (ownsRow_ext HT1.out.snd.top (by repeat first | exact Ext.refl _ | assumption | refine Ext.drew ?_ | refine Ext.drewN ?_ _ | refine Ext.extBy ?_ _ | refine Ext.alloc ?_ _ | refine Ext.setCell ?_ (by simp; try omega) _ | (refine Ext.trans ?_ (by assumption)))) _ 1 [.slice (some ⟨w9.heap.size, 0, none⟩) 1 1] rfl (SlC.fresh _ #[.slice (some ⟨w9.heap.size, 0, none⟩) 1 1] _ 1 _ (by simp) (by decide)) rfl (by simp [Value.oneCell']) (by unfold maxLen; (have := HO.out.2.2; omega)) (by (have := HO.out.2.2; omega)) (by simp; omega) ?_; intro v8 w8 hown9 hg9 hat9; obtain ⟨x8, y8, z8, rfl⟩ := own_slice3 hown9; have HP8 := Lib.hid (And.intro hown9 (And.intro hg9 hat9)); clear hown9 hg9 hat9)))
        obtain rfl : y8 = j + 1 := by
          obtain ⟨a', c', e, -⟩ := SlC.of_owns HP8.out.1
          simp at e
          rw [e.2.1, HO.out.2.2]
        have ht2 := (HT1.out.swap.push #[.int .i64 (1)] [1] rfl (show 1 ≤ maxLen by decide) HP8.out.2.1 HP8.out.1 HP8.out.2.2).swap
        obtain ⟨k, hk1, hk2⟩ := rst_step 0 l j true HB.out
        have hk3 : n = k := HV.out.trans hk1.symm
        subst hk3
        refine ⟨⟨j + 1, 1, x9, x8, z9, z8, xs ++ [.slice (some ⟨wr.heap.size, 0, none⟩) 2 2], ys ++ [.slice (some ⟨w9.heap.size, 0, none⟩) 1 1], by omega, by go_num, rfl, rfl, rfl, by omega, Lib.hid ⟨?_, by simp [HO.out.2.1], by simp [HO.out.2.2]⟩, Lib.hid ?_⟩, by simp [intOf]; omega⟩
        · rw [List.take_add_one, HB.out, List.take_add_one, hk2]
          unfold rstR onesC at ht2 ⊢
          rw [List.map_append, List.map_append]
          exact ht2
        · show (1 : Int) = (rstV 0 l).getD j 0
          rw [List.getD, hk2]
          rfl
    · have hji : ¬ (j : Int) < (L : Int) := fun e => hlt (Int.ofNat_lt.1 e)
      obtain rfl : j = L := by omega
      have HRS : Hid (RowsIn wr (.slice p4 j c4) xs (rstR l) ∧ RowsIn wr (.slice p5 j c5) ys (onesC (rstV 0 l)) ∧ Ext w1 wr) := Lib.hid (by
        have h1 := HO.out.1.fst.rows
        have h2 := HO.out.1.snd.rows
        have h3 : (rstV 0 l).length = l.length := rstV_len l 0
        rw [HN.out.1] at h1 h2
        rw [List.take_length] at h1
        have h4 : ((rstV 0 l).take l.length) = rstV 0 l := by rw [← h3, List.take_length]
        rw [h4] at h2
        rw [← HN.out.1] at h1 h2
        exact ⟨h1, h2, HO.out.1.fst.ext⟩)
      go_wp2_with (first
        | (go_at_call 18; refine (smallC_any _).mono ?_; rintro e1 w5 ⟨g1, rfl, H5⟩)
        | (go_at_call 16; refine (smC_runs H5.out.2.2 _ (Ext.refl _) (HRS.out.1.ext H5.out.1) (rst_64 l) (rst_run l (by rw [← HN.out.1]; exact hn2))).mono ?_; rintro e3 w6 ⟨v6, vs6, rfl, H6⟩)
        | (go_at_call 21; refine (sameRows_any H6.out.1 (HRS.out.2.1.ext (H5.out.1.trans H6.out.2))).mono ?_; rintro ec wc ⟨rfl, hxc⟩) | (go_at_call 17; refine (num13_any _ _).mono ?_; rintro e8 w8 ⟨rfl, rfl⟩) | fail)
      rw [HQ.out]
      exact ⟨rfl, Lib.hid (H1.out.trans (HRS.out.2.2.trans (H5.out.1.trans (H6.out.2.trans hxc))))⟩
theorem coreResets_law (l : List Bool) (v : Value) (w : World) (hv : SlC w v l.length (boolsC l)) : Calls Try.prog 7 #[v] w fun e w' => e = .returned (.bool true) ∧ Ext w w' :=
  (coreResets_any l v w hv).mono fun _ _ h => ⟨h.1, h.2.out⟩
end Go.Proofs.Ytmommjagndadjaa

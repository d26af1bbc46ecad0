/-
  Formulas that tell more than 200000 variables: both checks refuse them, both texts are empty.
  Conditions: the formula lies in memory, and is small but for that number.
  What the reference's parser keeps: the formula's box, the rows that are told, the row under way.
  No condition.
  The reference's walk over one word: a sign and at most nine digits.
  Condition: the place lies in the text, which is shorter than 2000001 bytes.
  A numeral before a separator, as the reference's word meets it.
  No condition.
  Texts as the reference's parser goes over them.
  No condition.
  The walk of the reference's parser over any text.
  Conditions: the text is at most 20000 bytes.
-/
import Derived.Test.YtlikmdeplpldlaaDoorCnfW
import Derived.Test.YtlikmdeplpldlaaDoorCnfY
import Derived.Test.YtlikmdeplpldlaaDoorCnfJ
import Derived.Test.YtlikmdeplpldlaaDoorCnfL
import Derived.Lib.IndexBytes
import Derived.Test.YtlikmdeplpldlaaDoorCnfA
import Derived.Test.YtlikmdeplpldlaaDoorNumP
import Derived.Test.YtlikmdeplpldlaaDoorCnfPr
namespace Go.Proofs.YtlikmdeplpldlaaDoor
open Go.RowKit Go.Shelf
set_option linter.unusedSimpArgs false
set_option linter.unusedVariables false
set_option maxRecDepth 100000

attribute [local go_sem] Oper.semAt_some
set_option maxHeartbeats 2000000 in
theorem checkFR_big (x : Int) (cv : Value) (vs : List Value) (rs : List (List Int)) (w : World) (hx : 200000 < x) (hx2 : x ≤ 4611686018427387904) (h : RowsIn w cv vs rs) (hs : szF rs ≤ 200000) :
    Calls Tryd.prog 12 #[.agg #[.int .i64 x, cv]] w fun e w' => e = .returned (.int .i64 2) ∧ Ext w w' := by
  have hlen := szF_len rs
  obtain ⟨n, hn⟩ : ∃ n, n = rs.length := ⟨_, rfl⟩
  have HN := Lib.hid hn
  obtain ⟨a, cap, rfl, -, -, -⟩ := id h.top
  have hn2 : n ≤ 200000 := by omega
  have HS := Lib.hid hs
  rw [← hn]
  have HR := Lib.hid h
  rw [← hn] at HR
  clear h hlen hs hn
  go_enter Tryd.func12, Tryd.ntmps12
  go_upto_region 1 with fail
  have hbX := BoxV.of_row (heap_alloc_last w (.cells #[.int .i64 x, .slice a n cap] 24))
  have hE : Ext w (w.alloc (.cells #[.int .i64 x, .slice a n cap] 24)) := (Ext.refl w).alloc _
  have HE := Lib.hid hE
  have HR1 := Lib.hid (HR.out.ext hE)
  generalize w.alloc (.cells #[.int .i64 x, .slice a n cap] 24) = w1 at hbX hE HE HR1 ⊢
  generalize w.heap.size = X at hbX ⊢
  have p0 := hbX.cells 0 _ rfl
  have p1 := hbX.cells 1 _ rfl
  have hXl := hbX.lt
  obtain ⟨a', cap', ea, -, -, htc⟩ := id HR1.out.top
  have HT : Hid (∀ (j : Nat) (u : Value), vs[j]? = some u → ∃ b o, a = some ⟨b, o, none⟩ ∧ w1.cell? ⟨b, o + j, none⟩ = some u) := Lib.hid (by
    simp only [Value.slice.injEq] at ea
    rw [ea.1]; exact htc)
  clear htc ea hbX hE HR
  go_wp2
  go_loopw [3, 4] (fun k i wr => ∃ j m : Nat, j ≤ n ∧ k = .int .i64 m ∧ i = .int .i64 j ∧ Ext w1 wr ∧ m ≤ 200000 ∧ Hid (m = szF (rs.take j))) (fun _ i _ => n - (intOf i).toNat)
  case atStart => exact ⟨0, 0, Nat.zero_le _, rfl, rfl, Ext.refl _, by omega, Lib.hid rfl⟩
  case round =>
    obtain ⟨j, m, hj, rfl, rfl, hxr, hm, HM⟩ := hrel
    obtain ⟨t1, rfl⟩ := hxr.tok
    clear hxr
    by_cases hlt : j < n
    · obtain ⟨y, r, hy, hr, hs⟩ := HR1.out.at (j := j) (by have := HN.out; omega)
      obtain ⟨b, o, rfl, g1⟩ := HT.out j y hy
      have z1 : b < w1.heap.size := World.block_lt_of_cell? w1 _ g1
      obtain ⟨ya, ycap, rfl, -⟩ := hs
      obtain ⟨L, hL⟩ : ∃ L, L = r.length := ⟨_, rfl⟩
      rw [← hL] at g1
      have hsum : m + (L + 1) ≤ 200000 := by
        have h1 := szF_take hr
        have h2 := szF_le rs (j + 1)
        have := HM.out
        have := HS.out
        omega
      have HM2 : Hid (m + (L + 1) = szF (rs.take (j + 1))) := Lib.hid (by rw [szF_take hr, ← HM.out, hL])
      have hji : (j : Int) < (n : Int) := Int.ofNat_lt.2 hlt
      clear hy hr hL
      go_wp2
      go_roundw
      case rel => exact ⟨j + 1, m + (L + 1), by omega, by go_num, by go_num, (by repeat first | exact Ext.refl _ | assumption | refine Ext.drew ?_ | refine Ext.drewN ?_ _ | refine Ext.extBy ?_ _ | refine Ext.alloc ?_ _ | refine Ext.setCell ?_ (by simp; try omega) _ | (refine Ext.trans ?_ (by assumption))), hsum, HM2⟩
      case measure => simp [intOf]; omega
    · have hji : ¬ (j : Int) < (n : Int) := fun e => hlt (Int.ofNat_lt.1 e)
      go_wp2
      go_ret
      exact ⟨rfl, HE.out.trans (by repeat first | exact Ext.refl _ | assumption | refine Ext.drew ?_ | refine Ext.drewN ?_ _ | refine Ext.extBy ?_ _ | refine Ext.alloc ?_ _ | refine Ext.setCell ?_ (by simp; try omega) _ | (refine Ext.trans ?_ (by assumption)))⟩
set_option maxRecDepth 8000 in
set_option maxHeartbeats 4000000 in
theorem checkC_big (x : Int) (cv : Value) (vs : List Value) (rs : List (List Int)) (w : World) (hx : 200000 < x) (hx2 : x ≤ 4611686018427387904) (h : RowsIn w cv vs rs) (hs : szF rs ≤ 200000) :
    Calls Tryd.prog 10 #[.agg #[.int .i64 x, cv]] w fun e w' => e = .returned (.int .i64 2) ∧ Ext w w' := by
  have hlen := szF_len rs
  obtain ⟨n, hn⟩ : ∃ n, n = rs.length := ⟨_, rfl⟩
  have HN := Lib.hid hn
  have HR := Lib.hid h
  obtain ⟨a, cap, rfl, -, -, htc⟩ := id h.top
  have HT := Lib.hid htc
  have hn2 : n ≤ 200000 := by omega
  have HS := Lib.hid hs
  rw [← hn]
  clear h hlen hs hn htc
  refine (callsIn_wide (n := 8)).1 ?_
  refine callsIn_of_wp_marks Tryd.func10 rfl trivial ?_ rfl
  simp only [Tryd.ntmps10, List.size_toArray, List.length_cons, List.length_nil, Nat.reduceAdd, Nat.reduceSub, Array.replicate_succ, Array.replicate_zero, List.push_toArray, List.append_toArray, List.nil_append, List.cons_append]
  gi_wp2
  have hbE := heap_alloc_last (w.alloc (.cells #[.int .i64 x, .slice a n cap] 24)) (.cells #[.int .i64 2] 28)
  rw [World.size_alloc] at hbE
  have q1 := (BoxV.of_row hbE).cells 0 _ rfl
  exact ⟨_, by simp [results, Tryd.f10, go_sem, q1], rfl, ((Ext.refl w).alloc _).alloc _⟩
set_option maxHeartbeats 4000000 in
theorem textT_big (x : Int) (cv : Value) (vs : List Value) (rs : List (List Int)) (w : World) (hx : 200000 < x) (hx2 : x ≤ 4611686018427387904) (h : RowsIn w cv vs rs) (hs : szF rs ≤ 200000) :
    Calls Tryd.prog 21 #[.agg #[.int .i64 x, cv]] w fun e w' => e = .returned (.string ⟨#[]⟩) ∧ Ext w w' := by
  have hlen := szF_len rs
  obtain ⟨n, hn⟩ : ∃ n, n = rs.length := ⟨_, rfl⟩
  have HN := Lib.hid hn
  have HR := Lib.hid h
  obtain ⟨a, cap, rfl, -, -, -⟩ := id h.top
  have hn2 : n ≤ 200000 := by omega
  have HS := Lib.hid (And.intro hs hx2)
  rw [← hn]
  clear h hlen hs hn
  refine (callsIn_wide (n := 8)).1 ?_
  refine callsIn_of_wp_marks Tryd.func21 rfl trivial ?_ rfl
  simp only [Tryd.ntmps21, List.size_toArray, List.length_cons, List.length_nil, Nat.reduceAdd, Nat.reduceSub, Array.replicate_succ, Array.replicate_zero, List.push_toArray, List.append_toArray, List.nil_append, List.cons_append]
  gi_upto_region 1 with fail
  have hbX := heap_alloc_last w (.cells #[.int .i64 x, .slice a n cap] 24)
  have hE : Ext w (w.alloc (.cells #[.int .i64 x, .slice a n cap] 24)) := (Ext.refl w).alloc _
  have HE := Lib.hid (And.intro hE hbX)
  have hbV := BoxV.of_row hbX
  have HRw : Hid (RowsIn (w.alloc (.cells #[.int .i64 x, .slice a n cap] 24)) (.slice a n cap) vs rs) := Lib.hid (RowsIn.ext (HN.out ▸ HR.out) hE)
  have p0 := hbV.cells 0 _ rfl
  have p1 := hbV.cells 1 _ rfl
  have hl1 := hbV.lt
  have hsz := hE.size
  generalize w.alloc (.cells #[.int .i64 x, .slice a n cap] 24) = w1 at hbX hE HE hbV HRw p0 p1 hl1 hsz ⊢
  clear hbX hE hbV
  gi_wp2_with (refine ⟨trivial, ?_⟩; gi_at_call 10; refine (callsIn_wide.2 (checkC_big x _ vs rs _ hx HS.out.2 HRw.out HS.out.1)).mono ?_; rintro e w' ⟨rfl, hE'⟩; (first | (with_reducible obtain ⟨t2, rfl⟩ := Ext.tok2 hE') | (obtain ⟨t2, rfl⟩ := Ext.tok hE')))
  exact ⟨_, results_tmp rfl _ _ _, rfl, HE.out.1.trans (Ext.by w1 t2)⟩
set_option maxHeartbeats 4000000 in
theorem textR_big (x : Int) (cv : Value) (vs : List Value) (rs : List (List Int)) (w : World) (hx : 200000 < x) (hx2 : x ≤ 4611686018427387904) (h : RowsIn w cv vs rs) (hs : szF rs ≤ 200000) :
    Calls Tryd.prog 22 #[.agg #[.int .i64 x, cv]] w fun e w' => e = .returned (.string ⟨#[]⟩) ∧ Ext w w' := by
  have hlen := szF_len rs
  obtain ⟨n, hn⟩ : ∃ n, n = rs.length := ⟨_, rfl⟩
  have HN := Lib.hid hn
  have HR := Lib.hid h
  obtain ⟨a, cap, rfl, -, -, -⟩ := id h.top
  have hn2 : n ≤ 200000 := by omega
  have HS := Lib.hid (And.intro hs hx2)
  rw [← hn]
  clear h hlen hs hn
  go_enter Tryd.func22, Tryd.ntmps22
  go_upto_region 1 with fail
  have hbX := BoxV.of_row (heap_alloc_last w (.cells #[.int .i64 x, .slice a n cap] 24))
  have hE : Ext w (w.alloc (.cells #[.int .i64 x, .slice a n cap] 24)) := (Ext.refl w).alloc _
  have HRw : Hid (RowsIn (w.alloc (.cells #[.int .i64 x, .slice a n cap] 24)) (.slice a n cap) vs rs) := Lib.hid (RowsIn.ext (HN.out ▸ HR.out) hE)
  generalize w.alloc (.cells #[.int .i64 x, .slice a n cap] 24) = w1 at hbX hE HRw ⊢
  obtain ⟨X, hX⟩ : ∃ X, X = w.heap.size := ⟨_, rfl⟩
  rw [← hX] at hbX ⊢
  have HE := Lib.hid (And.intro hE (And.intro hbX hX))
  have p0 := hbX.cells 0 _ rfl
  have p1 := hbX.cells 1 _ rfl
  have hl1 := hbX.lt
  clear hbX hE hX
  go_wp2_with (go_at_call 12; refine (checkFR_big x _ vs rs _ hx HS.out.2 HRw.out HS.out.1).mono ?_; rintro e w' ⟨rfl, hE'⟩; (first | (with_reducible obtain ⟨t2, rfl⟩ := Ext.tok2 hE') | (obtain ⟨t2, rfl⟩ := Ext.tok hE')))
  go_ret
  exact ⟨rfl, HE.out.1.trans (Ext.by w1 t2)⟩
end Go.Proofs.YtlikmdeplpldlaaDoor
namespace Go.Proofs.YtlikmdeplpldlaaDoor
open Go.RowKit
set_option linter.unusedSimpArgs false
set_option linter.unusedVariables false
set_option maxRecDepth 100000

structure QS (W : World) (F D : Nat) (x : Int) (ov : Value) (vs : List Value) (os : List (List Int)) (pv : Value) (ps : List Int) (w : World) : Prop where
  fr : FR W (pv.ownBlock.toList ++ [F, D]) ov vs os w
  pd : w.ownsRow W.heap.size 3 1 pv ps.length (i64s ps)
  po : ∀ b, pv.ownBlock = some b → b ∉ [F, D]
  c : BoxV F [.int .i64 x, ov] w
  d : w.heap[D]? = some (.cells #[.int .i64 0, .slice none 0 0] 24 (0, 0))
  ns : ∀ k ∈ [F, D], W.heap.size ≤ k
  fd : F ≠ D
section
variable {W w w' w2 : World} {F D : Nat} {x : Int} {ov ov2 pv pv2 : Value} {vs xs : List Value} {os rs : List (List Int)} {ps : List Int}
theorem QS.next (h : QS W F D x ov vs os pv ps w) (hx : Ext w w') : QS W F D x ov vs os pv ps w' :=
  { h with fr := h.fr.next hx, pd := ownsRow_ext h.pd hx, c := h.c.ext hx, d := ext_block hx h.d }
theorem QS.lts (h : QS W F D x ov vs os pv ps w) : ∀ k ∈ [F, D], k < w.heap.size := fun k hk => by
  simp at hk
  rcases hk with rfl | rfl
  · exact h.c.lt
  · exact (Array.getElem?_eq_some_iff.1 h.d).1
theorem QS.nsp (h : QS W F D x ov vs os pv ps w) : ∀ k ∈ pv.ownBlock.toList ++ [F, D], W.heap.size ≤ k := fun k hk => by
  rcases List.mem_append.1 hk with e | e
  · exact (h.pd.lt k (Option.mem_toList.1 e)).1
  · exact h.ns k e
theorem QS.add (h : QS W F D x ov vs os pv ps w) (q : Int) (hg : w.grownBy w2 pv.ownBlock) (hown : w2.ownsRow W.heap.size 3 1 pv2 (ps.length + 1) (i64s ps ++ [.int .i64 q])) (hat : pv2.ownBlock = pv.ownBlock ∨ pv2.ownBlock = some w.heap.size) : QS W F D x ov vs os pv2 (ps ++ [q]) w2 := by
  have hk : Kb pv.ownBlock.toList w w2 := Kb.grown hg (fun g hg => Option.mem_toList.2 hg)
  have hn : ∀ k ∈ [F, D], k ∉ pv.ownBlock.toList := fun k hk1 hk2 => h.po k (Option.mem_toList.1 hk2) hk1
  have hnew : ∀ b, pv2.ownBlock = some b → pv.ownBlock = some b ∨ w.heap.size ≤ b := fun b hb => by
    rcases hat with e | e
    · rw [e] at hb; exact .inl hb
    · rw [e] at hb; simp at hb; exact .inr (by omega)
  have f1 : FR W (pv2.ownBlock.toList ++ (pv.ownBlock.toList ++ [F, D])) ov vs os w := h.fr.mono fun k hk => by
    rcases List.mem_append.1 hk with e | e
    · rcases hnew k (Option.mem_toList.1 e) with e | e
      · exact .inl (List.mem_append_left _ (Option.mem_toList.2 e))
      · exact .inr e
    · exact .inl e
  have f2 := f1.kb hk (fun k hk => List.mem_append_right _ (List.mem_append_left _ hk)) (fun k hk => by
    rcases List.mem_append.1 hk with e | e
    · exact (hown.lt k (Option.mem_toList.1 e)).1
    · exact h.nsp k e)
  refine { h with fr := f2.mono (fun k hk => .inl ?_), pd := by simpa [i64s] using hown, po := fun b hb hs => ?_, c := h.c.kb hk (hn F (by simp)), d := hk.heap (hn D (by simp)) h.d }
  · rcases List.mem_append.1 hk with e | e
    · exact List.mem_append_left _ e
    · exact List.mem_append_right _ (List.mem_append_right _ e)
  · rcases hnew b hb with e | e
    · exact h.po b e hs
    · have := h.lts b hs; omega
theorem QS.push (h : QS W F D x ov vs os pv ps w) (hg : w.grownBy w2 ov.ownBlock) (hown : w2.ownsRow W.heap.size 36 1 ov2 (vs.length + 1) (vs ++ [pv])) (hat : ov2.ownBlock = ov.ownBlock ∨ ov2.ownBlock = some w.heap.size) :
    BoxV F [.int .i64 x, ov] w2 ∧ QS W F D x ov2 (vs ++ [pv]) (os ++ [ps]) (.slice none 0 0) [] (w2.setCell ⟨F, 1, none⟩ ov2) := by
  have hk : Kb ov.ownBlock.toList w w2 := Kb.grown hg (fun g hg => Option.mem_toList.2 hg)
  have f0 : FR W [F, D] ov vs os w := h.fr.mono fun k hk => .inl (List.mem_append_right _ hk)
  have hn : ∀ k ∈ [F, D], k ∉ ov.ownBlock.toList := fun k hk1 hk2 => f0.off k (Option.mem_toList.1 hk2) hk1
  have hf := f0.push (xs := [pv]) (rs := [ps]) rfl (rows1 ⟨h.pd, fun b hb => ⟨h.po b hb, fun e => h.fr.off b e (List.mem_append_left _ (Option.mem_toList.2 hb))⟩⟩) h.lts hg hown hat
  have hc : BoxV F [.int .i64 x, ov] w2 := h.c.kb hk (hn F (by simp))
  have hC : Kb [F] w2 (w2.setCell ⟨F, 1, none⟩ ov2) := Kb.set w2 F 1 (by simp) ov2
  refine ⟨hc, ?_⟩
  exact { h with fr := hf.kb hC (by simp) h.ns, pd := own_nil _ _ _ _, po := fun b hb => by simp [Value.ownBlock] at hb, c := (hc.set 1 ov2 (by simp)).cast rfl, d := hC.heap (by simpa using Ne.symm h.fd) (hk.heap (hn D (by simp)) h.d) }
/-- The number of the variables is laid. -/
theorem QS.vars (h : QS W F D x ov vs os pv ps w) (y : Int) : QS W F D y ov vs os pv ps (w.setCell ⟨F, 0, none⟩ (.int .i64 y)) := by
  have hk : Kb [F] w (w.setCell ⟨F, 0, none⟩ (.int .i64 y)) := Kb.set w F 0 (by simp) _
  have hF : F ∉ pv.ownBlock.toList := fun e => h.po F (Option.mem_toList.1 e) (by simp)
  exact { h with fr := h.fr.kb hk (fun k hk1 => by simp at hk1; simp [hk1]) h.nsp, pd := hk.row h.pd (fun b hb e => h.po b e (by simp at hb; simp [hb])), c := (h.c.set 0 (.int .i64 y) (by simp)).cast rfl, d := hk.heap (by simpa using Ne.symm h.fd) h.d }
end
end Go.Proofs.YtlikmdeplpldlaaDoor
namespace Go.Proofs.YtlikmdeplpldlaaDoor
open Go.RowKit
set_option linter.unusedSimpArgs false
set_option linter.unusedVariables false
set_option maxRecDepth 100000

def digB (b : UInt8) : Bool := decide (48 ≤ b.toNat) && decide (b.toNat ≤ 57)
/-- The number of k digits from place i on. -/
def valB (l : List UInt8) (i : Nat) : Nat → Int
  | 0 => 0
  | k + 1 => 10 * valB l i k + (((l.getD (i + k) 0).toNat : Int) - 48)
/-- What stands at place i: a sign or none, and k digits. -/
structure WordP (l : List UInt8) (i ng k : Nat) : Prop where
  sign : ng = if l[i]? = some 45 then 1 else 0
  le : ng + k ≤ 9
  fit : i + ng + k ≤ l.length
  dig : ∀ m, m < k → digB (l.getD (i + ng + m) 0) = true
  stop : ng + k = 9 ∨ i + ng + k = l.length ∨ digB (l.getD (i + ng + k) 0) = false
theorem valB_lt (l : List UInt8) (i : Nat) : ∀ k, (∀ m, m < k → digB (l.getD (i + m) 0) = true) → 0 ≤ valB l i k ∧ valB l i k < (10 : Int) ^ k
  | 0, _ => by simp [valB]
  | k + 1, h => by
    obtain ⟨h1, h2⟩ := valB_lt l i k (fun m hm => h m (by omega))
    have h3 := h k (by omega)
    unfold digB at h3
    rw [Bool.and_eq_true] at h3
    have a1 := of_decide_eq_true h3.1
    have a2 := of_decide_eq_true h3.2
    rw [valB, Int.pow_succ]
    omega
theorem pow_le9 {k : Nat} (h : k ≤ 8) : (10 : Int) ^ k ≤ 100000000 := by
  rcases (by omega : k = 0 ∨ k = 1 ∨ k = 2 ∨ k = 3 ∨ k = 4 ∨ k = 5 ∨ k = 6 ∨ k = 7 ∨ k = 8) with rfl | rfl | rfl | rfl | rfl | rfl | rfl | rfl | rfl <;> decide
theorem pow_le10 {k : Nat} (h : k ≤ 9) : (10 : Int) ^ k ≤ 1000000000 := by
  rcases (by omega : k = 0 ∨ k = 1 ∨ k = 2 ∨ k = 3 ∨ k = 4 ∨ k = 5 ∨ k = 6 ∨ k = 7 ∨ k = 8 ∨ k = 9) with rfl | rfl | rfl | rfl | rfl | rfl | rfl | rfl | rfl | rfl <;> decide
def WordR (l : List UInt8) (i : Nat) (w : World) (e : Ending) (w' : World) : Prop :=
  ∃ ng k, e = .returned (.tuple #[.int .i64 (if ng = 0 then valB l (i + ng) k else - valB l (i + ng) k), .int .i64 ((i + ng + k : Nat) : Int), .bool (decide (0 < ng + k))]) ∧ WordP l i ng k ∧ w = w'
set_option maxHeartbeats 8000000 in
theorem word_any (s : ByteArray) (i : Nat) (w : World) (hi : i ≤ s.size) (hs : s.size ≤ 2000000) :
    Calls Tryd.prog 38 #[.string s, .int .i64 (i : Int)] w (WordR s.data.toList i w) := by
  obtain ⟨Q, hQ⟩ : ∃ Q, Q = WordR s.data.toList i w := ⟨_, rfl⟩
  rw [← hQ]
  have HQ := Lib.hid hQ
  have hiI : (i : Int) ≤ 2000000 := by omega
  have hszI : (s.size : Int) ≤ 2000000 := by omega
  have HI := Lib.hid (And.intro hi (Lib.size_eq s))
  clear hQ hi hs
  by_cases hlt : i < s.size
  · have hltI : (i : Int) < (s.size : Int) := by omega
    have hg := Lib.data_getElem? s i hlt
    by_cases h45 : s[i]'hlt = 45
    · have HG : Hid ((1 : Nat) = if s.data.toList[i]? = some 45 then 1 else 0) := Lib.hid (by rw [hg, h45]; rfl)
      have hb : (((s[i]'hlt).toNat : Int) == 45) = true := by rw [h45]; rfl
      clear hg h45
      go_enter Tryd.func38, Tryd.ntmps38
      go_wp2
      go_loopw [1, 9] (fun a b wr => ∃ (k t : Nat) (v : Int), 1 + k ≤ 9 ∧ t ≤ s.size ∧ a = .int .i64 (t : Int) ∧ b = .int .i64 v ∧ wr = w ∧ Hid (t = i + 1 + k) ∧ Hid (v = valB s.data.toList (i + 1) k ∧ ∀ m, m < k → digB (s.data.toList.getD (i + 1 + m) 0) = true)) (fun a _ _ => s.size - (intOf a).toNat)
      case atStart => exact ⟨0, i + 1, 0, by omega, by have := HI.out.1; omega, by go_num, rfl, rfl, Lib.hid rfl, Lib.hid ⟨rfl, fun m hm => absurd hm (by omega)⟩⟩
      case round =>
        obtain ⟨k, t, v, hk, ht, rfl, rfl, hwr, HT, HV⟩ := hrel
        subst hwr
        have hvb := valB_lt s.data.toList (i + 1) k HV.out.2
        rw [← HV.out.1] at hvb
        have hv9 : v ≤ 999999999 := by have := pow_le10 (k := k) (by omega); omega
        have hv0 : 0 ≤ v := hvb.1
        have hv8 : k ≤ 8 → v ≤ 99999999 := fun h => by have := pow_le9 h; omega
        clear hvb
        by_cases c1 : t < s.size
        · have c1I : (t : Int) < (s.size : Int) := by omega
          obtain ⟨d, hd⟩ : ∃ d : UInt8, d = s[t]'c1 := ⟨_, rfl⟩
          have HD : Hid (s.data.toList.getD t 0 = d) := Lib.hid (by rw [hd, List.getD, Lib.data_getElem? s t c1]; rfl)
          have hd2 : s[t]'c1 = d := hd.symm
          clear hd
          have hd255 := d.toNat_lt
          by_cases c2 : 48 ≤ d.toNat
          · have c2I : (48 : Int) ≤ ((d.toNat : Nat) : Int) := by omega
            by_cases c3 : d.toNat ≤ 57
            · have c3I : ((d.toNat : Nat) : Int) ≤ 57 := by omega
              have HDG : Hid (digB (s.data.toList.getD t 0) = true) := Lib.hid (by rw [HD.out]; unfold digB; simp [c2, c3])
              by_cases c4 : 1 + k < 9
              · have c4I : (t : Int) - (i : Int) < 9 := by have := HT.out; omega
                have hv7 := hv8 (by omega)
                go_wp2
                refine ⟨⟨k + 1, t + 1, 10 * v + (((d.toNat : Nat) : Int) - 48), by omega, by omega, by go_num, rfl, by first | rfl | trivial, Lib.hid (by have := HT.out; omega), Lib.hid ⟨?_, fun m hm => ?_⟩⟩, by simp [intOf]; omega⟩
                · rw [valB, ← HV.out.1, ← HT.out, HD.out]
                · by_cases hmk : m < k
                  · exact HV.out.2 m hmk
                  · rw [show i + 1 + m = t by have := HT.out; omega]; exact HDG.out
              · have c4I : ¬ (t : Int) - (i : Int) < 9 := by have := HT.out; omega
                go_wp2
                go_ret3
                rw [HQ.out]
                refine ⟨1, k, ?_, ⟨HG.out, by omega, by have := HT.out; have := HI.out.2; omega, HV.out.2, .inl (by omega)⟩, rfl⟩
                rw [if_neg (by decide), ← HV.out.1, ← HT.out, show decide (0 < 1 + k) = decide (i < t) from decide_eq_decide.2 (by have := HT.out; omega)]
                rfl
            · have c3I : ¬ ((d.toNat : Nat) : Int) ≤ 57 := by omega
              go_wp2
              go_ret3
              rw [HQ.out]
              refine ⟨1, k, ?_, ⟨HG.out, by omega, by have := HT.out; have := HI.out.2; omega, HV.out.2, .inr (.inr (by rw [← HT.out, HD.out]; unfold digB; simp [c3]))⟩, rfl⟩
              rw [if_neg (by decide), ← HV.out.1, ← HT.out, show decide (0 < 1 + k) = decide (i < t) from decide_eq_decide.2 (by have := HT.out; omega)]
              rfl
          · have c2I : ¬ (48 : Int) ≤ ((d.toNat : Nat) : Int) := by omega
            go_wp2
            go_ret3
            rw [HQ.out]
            refine ⟨1, k, ?_, ⟨HG.out, by omega, by have := HT.out; have := HI.out.2; omega, HV.out.2, .inr (.inr (by rw [← HT.out, HD.out]; unfold digB; simp [c2]))⟩, rfl⟩
            rw [if_neg (by decide), ← HV.out.1, ← HT.out, show decide (0 < 1 + k) = decide (i < t) from decide_eq_decide.2 (by have := HT.out; omega)]
            rfl
        · have c1I : ¬ (t : Int) < (s.size : Int) := by omega
          go_wp2
          go_ret3
          rw [HQ.out]
          refine ⟨1, k, ?_, ⟨HG.out, by omega, by have := HT.out; have := HI.out.2; omega, HV.out.2, .inr (.inl (by have := HT.out; have := HI.out.2; omega))⟩, rfl⟩
          rw [if_neg (by decide), ← HV.out.1, ← HT.out, show decide (0 < 1 + k) = decide (i < t) from decide_eq_decide.2 (by have := HT.out; omega)]
          rfl
    · have HG : Hid ((0 : Nat) = if s.data.toList[i]? = some 45 then 1 else 0) := Lib.hid (by rw [hg, if_neg (by simpa using h45)])
      have hb : (((s[i]'hlt).toNat : Int) == 45) = false := by
        rw [beq_eq_false_iff_ne]
        intro e
        exact h45 (UInt8.toNat_inj.1 (by have : (45 : UInt8).toNat = 45 := rfl; omega))
      clear hg h45
      go_enter Tryd.func38, Tryd.ntmps38
      go_wp2
      go_loopw [1, 9] (fun a b wr => ∃ (k t : Nat) (v : Int), 0 + k ≤ 9 ∧ t ≤ s.size ∧ a = .int .i64 (t : Int) ∧ b = .int .i64 v ∧ wr = w ∧ Hid (t = i + 0 + k) ∧ Hid (v = valB s.data.toList (i + 0) k ∧ ∀ m, m < k → digB (s.data.toList.getD (i + 0 + m) 0) = true)) (fun a _ _ => s.size - (intOf a).toNat)
      case atStart => exact ⟨0, i + 0, 0, by omega, by have := HI.out.1; omega, by go_num, rfl, rfl, Lib.hid rfl, Lib.hid ⟨rfl, fun m hm => absurd hm (by omega)⟩⟩
      case round =>
        obtain ⟨k, t, v, hk, ht, rfl, rfl, hwr, HT, HV⟩ := hrel
        subst hwr
        have hvb := valB_lt s.data.toList (i + 0) k HV.out.2
        rw [← HV.out.1] at hvb
        have hv9 : v ≤ 999999999 := by have := pow_le10 (k := k) (by omega); omega
        have hv0 : 0 ≤ v := hvb.1
        have hv8 : k ≤ 8 → v ≤ 99999999 := fun h => by have := pow_le9 h; omega
        clear hvb
        by_cases c1 : t < s.size
        · have c1I : (t : Int) < (s.size : Int) := by omega
          obtain ⟨d, hd⟩ : ∃ d : UInt8, d = s[t]'c1 := ⟨_, rfl⟩
          have HD : Hid (s.data.toList.getD t 0 = d) := Lib.hid (by rw [hd, List.getD, Lib.data_getElem? s t c1]; rfl)
          have hd2 : s[t]'c1 = d := hd.symm
          clear hd
          have hd255 := d.toNat_lt
          by_cases c2 : 48 ≤ d.toNat
          · have c2I : (48 : Int) ≤ ((d.toNat : Nat) : Int) := by omega
            by_cases c3 : d.toNat ≤ 57
            · have c3I : ((d.toNat : Nat) : Int) ≤ 57 := by omega
              have HDG : Hid (digB (s.data.toList.getD t 0) = true) := Lib.hid (by rw [HD.out]; unfold digB; simp [c2, c3])
              by_cases c4 : 0 + k < 9
              · have c4I : (t : Int) - (i : Int) < 9 := by have := HT.out; omega
                have hv7 := hv8 (by omega)
                go_wp2
                refine ⟨⟨k + 1, t + 1, 10 * v + (((d.toNat : Nat) : Int) - 48), by omega, by omega, by go_num, rfl, by first | rfl | trivial, Lib.hid (by have := HT.out; omega), Lib.hid ⟨?_, fun m hm => ?_⟩⟩, by simp [intOf]; omega⟩
                · rw [valB, ← HV.out.1, ← HT.out, HD.out]
                · by_cases hmk : m < k
                  · exact HV.out.2 m hmk
                  · rw [show i + 0 + m = t by have := HT.out; omega]; exact HDG.out
              · have c4I : ¬ (t : Int) - (i : Int) < 9 := by have := HT.out; omega
                go_wp2
                go_ret3
                rw [HQ.out]
                refine ⟨0, k, ?_, ⟨HG.out, by omega, by have := HT.out; have := HI.out.2; omega, HV.out.2, .inl (by omega)⟩, rfl⟩
                rw [if_pos rfl, ← HV.out.1, ← HT.out, show decide (0 < 0 + k) = decide (i < t) from decide_eq_decide.2 (by have := HT.out; omega)]
                rfl
            · have c3I : ¬ ((d.toNat : Nat) : Int) ≤ 57 := by omega
              go_wp2
              go_ret3
              rw [HQ.out]
              refine ⟨0, k, ?_, ⟨HG.out, by omega, by have := HT.out; have := HI.out.2; omega, HV.out.2, .inr (.inr (by rw [← HT.out, HD.out]; unfold digB; simp [c3]))⟩, rfl⟩
              rw [if_pos rfl, ← HV.out.1, ← HT.out, show decide (0 < 0 + k) = decide (i < t) from decide_eq_decide.2 (by have := HT.out; omega)]
              rfl
          · have c2I : ¬ (48 : Int) ≤ ((d.toNat : Nat) : Int) := by omega
            go_wp2
            go_ret3
            rw [HQ.out]
            refine ⟨0, k, ?_, ⟨HG.out, by omega, by have := HT.out; have := HI.out.2; omega, HV.out.2, .inr (.inr (by rw [← HT.out, HD.out]; unfold digB; simp [c2]))⟩, rfl⟩
            rw [if_pos rfl, ← HV.out.1, ← HT.out, show decide (0 < 0 + k) = decide (i < t) from decide_eq_decide.2 (by have := HT.out; omega)]
            rfl
        · have c1I : ¬ (t : Int) < (s.size : Int) := by omega
          go_wp2
          go_ret3
          rw [HQ.out]
          refine ⟨0, k, ?_, ⟨HG.out, by omega, by have := HT.out; have := HI.out.2; omega, HV.out.2, .inr (.inl (by have := HT.out; have := HI.out.2; omega))⟩, rfl⟩
          rw [if_pos rfl, ← HV.out.1, ← HT.out, show decide (0 < 0 + k) = decide (i < t) from decide_eq_decide.2 (by have := HT.out; omega)]
          rfl
  · have hltI : ¬ (i : Int) < (s.size : Int) := by omega
    have HG : Hid ((0 : Nat) = if s.data.toList[i]? = some 45 then 1 else 0) := Lib.hid (by rw [List.getElem?_eq_none (by rw [← Lib.size_eq]; omega)]; rfl)
    go_enter Tryd.func38, Tryd.ntmps38
    go_wp2
    go_loopw [1, 9] (fun a b wr => ∃ (k t : Nat) (v : Int), 0 + k ≤ 9 ∧ t ≤ s.size ∧ a = .int .i64 (t : Int) ∧ b = .int .i64 v ∧ wr = w ∧ Hid (t = i + 0 + k) ∧ Hid (v = valB s.data.toList (i + 0) k ∧ ∀ m, m < k → digB (s.data.toList.getD (i + 0 + m) 0) = true)) (fun a _ _ => s.size - (intOf a).toNat)
    case atStart => exact ⟨0, i + 0, 0, by omega, by have := HI.out.1; omega, by go_num, rfl, rfl, Lib.hid rfl, Lib.hid ⟨rfl, fun m hm => absurd hm (by omega)⟩⟩
    case round =>
      obtain ⟨k, t, v, hk, ht, rfl, rfl, hwr, HT, HV⟩ := hrel
      subst hwr
      have hvb := valB_lt s.data.toList (i + 0) k HV.out.2
      rw [← HV.out.1] at hvb
      have hv9 : v ≤ 999999999 := by have := pow_le10 (k := k) (by omega); omega
      have hv0 : 0 ≤ v := hvb.1
      have hv8 : k ≤ 8 → v ≤ 99999999 := fun h => by have := pow_le9 h; omega
      clear hvb
      by_cases c1 : t < s.size
      · have c1I : (t : Int) < (s.size : Int) := by omega
        obtain ⟨d, hd⟩ : ∃ d : UInt8, d = s[t]'c1 := ⟨_, rfl⟩
        have HD : Hid (s.data.toList.getD t 0 = d) := Lib.hid (by rw [hd, List.getD, Lib.data_getElem? s t c1]; rfl)
        have hd2 : s[t]'c1 = d := hd.symm
        clear hd
        have hd255 := d.toNat_lt
        by_cases c2 : 48 ≤ d.toNat
        · have c2I : (48 : Int) ≤ ((d.toNat : Nat) : Int) := by omega
          by_cases c3 : d.toNat ≤ 57
          · have c3I : ((d.toNat : Nat) : Int) ≤ 57 := by omega
            have HDG : Hid (digB (s.data.toList.getD t 0) = true) := Lib.hid (by rw [HD.out]; unfold digB; simp [c2, c3])
            by_cases c4 : 0 + k < 9
            · have c4I : (t : Int) - (i : Int) < 9 := by have := HT.out; omega
              have hv7 := hv8 (by omega)
              go_wp2
              refine ⟨⟨k + 1, t + 1, 10 * v + (((d.toNat : Nat) : Int) - 48), by omega, by omega, by go_num, rfl, by first | rfl | trivial, Lib.hid (by have := HT.out; omega), Lib.hid ⟨?_, fun m hm => ?_⟩⟩, by simp [intOf]; omega⟩
              · rw [valB, ← HV.out.1, ← HT.out, HD.out]
              · by_cases hmk : m < k
                · exact HV.out.2 m hmk
                · rw [show i + 0 + m = t by have := HT.out; omega]; exact HDG.out
            · have c4I : ¬ (t : Int) - (i : Int) < 9 := by have := HT.out; omega
              go_wp2
              go_ret3
              rw [HQ.out]
              refine ⟨0, k, ?_, ⟨HG.out, by omega, by have := HT.out; have := HI.out.2; omega, HV.out.2, .inl (by omega)⟩, rfl⟩
              rw [if_pos rfl, ← HV.out.1, ← HT.out, show decide (0 < 0 + k) = decide (i < t) from decide_eq_decide.2 (by have := HT.out; omega)]
              rfl
          · have c3I : ¬ ((d.toNat : Nat) : Int) ≤ 57 := by omega
            go_wp2
            go_ret3
            rw [HQ.out]
            refine ⟨0, k, ?_, ⟨HG.out, by omega, by have := HT.out; have := HI.out.2; omega, HV.out.2, .inr (.inr (by rw [← HT.out, HD.out]; unfold digB; simp [c3]))⟩, rfl⟩
            rw [if_pos rfl, ← HV.out.1, ← HT.out, show decide (0 < 0 + k) = decide (i < t) from decide_eq_decide.2 (by have := HT.out; omega)]
            rfl
        · have c2I : ¬ (48 : Int) ≤ ((d.toNat : Nat) : Int) := by omega
          go_wp2
          go_ret3
          rw [HQ.out]
          refine ⟨0, k, ?_, ⟨HG.out, by omega, by have := HT.out; have := HI.out.2; omega, HV.out.2, .inr (.inr (by rw [← HT.out, HD.out]; unfold digB; simp [c2]))⟩, rfl⟩
          rw [if_pos rfl, ← HV.out.1, ← HT.out, show decide (0 < 0 + k) = decide (i < t) from decide_eq_decide.2 (by have := HT.out; omega)]
          rfl
      · have c1I : ¬ (t : Int) < (s.size : Int) := by omega
        go_wp2
        go_ret3
        rw [HQ.out]
        refine ⟨0, k, ?_, ⟨HG.out, by omega, by have := HT.out; have := HI.out.2; omega, HV.out.2, .inr (.inl (by have := HT.out; have := HI.out.2; omega))⟩, rfl⟩
        rw [if_pos rfl, ← HV.out.1, ← HT.out, show decide (0 < 0 + k) = decide (i < t) from decide_eq_decide.2 (by have := HT.out; omega)]
        rfl
end Go.Proofs.YtlikmdeplpldlaaDoor
namespace Go.Proofs.YtlikmdeplpldlaaDoor
open Go.RowKit
set_option linter.unusedSimpArgs false
set_option linter.unusedVariables false
set_option maxRecDepth 100000

theorem digB_iff (b : UInt8) : digB b = true ↔ 48 ≤ b.toNat ∧ b.toNat ≤ 57 := by unfold digB; simp
theorem valB_dec : ∀ (u : Nat) (l : List UInt8) (i : Nat), (∀ m (h : m < (Lib.decDigits u).length), l.getD (i + m) 0 = (Lib.decDigits u)[m]) → valB l i (Lib.decDigits u).length = (u : Int)
  | u, l, i, h => by
    by_cases hu : u < 10
    · have e : Lib.decDigits u = [UInt8.ofNat (48 + u)] := by rw [Lib.decDigits, dif_pos hu]
      have h0 := h 0 (by rw [e]; simp)
      simp only [e, List.getElem_cons_zero, Nat.add_zero] at h0
      rw [e]
      simp only [List.length_cons, List.length_nil, Nat.zero_add, valB, Nat.add_zero]
      rw [h0, dig_nat hu]
      omega
    · have e : Lib.decDigits u = Lib.decDigits (u / 10) ++ [UInt8.ofNat (48 + u % 10)] := by rw [Lib.decDigits, dif_neg hu]
      have el : (Lib.decDigits u).length = (Lib.decDigits (u / 10)).length + 1 := by rw [e]; simp
      have ih := valB_dec (u / 10) l i (fun m hm => by
        rw [h m (by rw [el]; omega)]
        simp only [e]
        rw [List.getElem_append_left hm])
      have hl := h (Lib.decDigits (u / 10)).length (by rw [el]; omega)
      simp only [e, List.getElem_append_right (Nat.le_refl _), Nat.sub_self, List.getElem_cons_zero] at hl
      rw [el, valB, ih, hl, dig_nat (Nat.mod_lt u (by omega : 10 > 0))]
      omega
termination_by u => u
decreasing_by omega
theorem getD_drop (l : List UInt8) (i m : Nat) : (l.drop i).getD m 0 = l.getD (i + m) 0 := by simp [List.getD, List.getElem?_drop]
/-- The digits end where the separator stands. -/
theorem word_digits {l rest : List UInt8} {i ng k u : Nat} {sep : UInt8} (h : WordP l i ng k) (hl : l.drop (i + ng) = Lib.decDigits u ++ sep :: rest) (hs : sep = 32 ∨ sep = 10) (h9 : ng + (Lib.decDigits u).length ≤ 8) : k = (Lib.decDigits u).length ∧ valB l (i + ng) k = (u : Int) := by
  have hsd : digB sep = false := by rcases hs with rfl | rfl <;> decide
  have hin : ∀ m (hm : m < (Lib.decDigits u).length), l.getD (i + ng + m) 0 = (Lib.decDigits u)[m] := fun m hm => by
    rw [← getD_drop, hl]
    simp [List.getD, List.getElem?_append_left hm, List.getElem?_eq_getElem hm]
  have hat : l.getD (i + ng + (Lib.decDigits u).length) 0 = sep := by
    rw [← getD_drop, hl]
    simp [List.getD]
  have hlen : i + ng + (Lib.decDigits u).length < l.length := by
    have := congrArg List.length hl
    simp at this
    omega
  have hk : k = (Lib.decDigits u).length := by
    rcases Nat.lt_trichotomy k (Lib.decDigits u).length with h1 | h1 | h1
    · rcases h.stop with e | e | e
      · omega
      · omega
      · rw [hin k h1] at e
        have := (digB_iff _).2 (dec_digits u _ (List.getElem_mem h1))
        rw [this] at e; cases e
    · exact h1
    · have := h.dig _ h1
      rw [hat, hsd] at this; cases this
  refine ⟨hk, ?_⟩
  rw [hk]
  exact valB_dec u l (i + ng) hin
/-- A numeral: its number, and the place behind it. -/
theorem word_num {l rest : List UInt8} {i ng k : Nat} {q : Int} {sep : UInt8} (h : WordP l i ng k) (hl : l.drop i = Lib.itoa q ++ sep :: rest) (hs : sep = 32 ∨ sep = 10) (h0 : -10000000 < q) (h1 : q < 10000000) : (if ng = 0 then valB l (i + ng) k else - valB l (i + ng) k) = q ∧ ng + k = (Lib.itoa q).length := by
  have h8 := itoa_short q h0 h1
  have hhead : l[i]? = (Lib.itoa q ++ sep :: rest)[0]? := by rw [← hl, List.getElem?_drop, Nat.add_zero]
  by_cases hn : q < 0
  · obtain ⟨u, hu⟩ : ∃ u : Nat, q = -(u : Int) := ⟨q.natAbs, by omega⟩
    have e : Lib.itoa q = 45 :: Lib.decDigits u := by rw [hu, Lib.itoa_neg u (by omega)]
    have hng : ng = 1 := by rw [h.sign, if_pos]; rw [hhead, e]; rfl
    subst hng
    rw [e] at h8 hl
    have hl2 : l.drop (i + 1) = Lib.decDigits u ++ sep :: rest := by
      rw [← List.drop_drop, hl]; rfl
    obtain ⟨a1, a2⟩ := word_digits h hl2 hs (by simpa [Nat.add_comm] using h8)
    rw [if_neg (by decide), a2, e]
    exact ⟨hu.symm, by rw [a1]; simp [Nat.add_comm]⟩
  · obtain ⟨u, hu⟩ : ∃ u : Nat, q = (u : Int) := ⟨q.natAbs, by omega⟩
    have e : Lib.itoa q = Lib.decDigits u := by rw [hu, Lib.itoa_nonneg u]
    have hng : ng = 0 := by
      rw [h.sign, if_neg]
      rw [hhead, e]
      intro hh
      cases hd : Lib.decDigits u with
      | nil => exact dec_ne u hd
      | cons c r =>
        rw [hd] at hh
        simp at hh
        have := dec_digits u c (by rw [hd]; simp)
        rw [hh] at this
        revert this; decide
    subst hng
    rw [e] at h8 hl
    obtain ⟨a1, a2⟩ := word_digits h (by simpa using hl) hs (by simpa using h8)
    rw [if_pos rfl, a2, e]
    exact ⟨hu.symm, by rw [a1]; simp⟩
end Go.Proofs.YtlikmdeplpldlaaDoor
namespace Go.Proofs.YtlikmdeplpldlaaDoor
open Go.RowKit
set_option linter.unusedSimpArgs false
set_option linter.unusedVariables false
set_option maxRecDepth 100000

def goodF (x : Int) (rs : List (List Int)) : Prop := x ≤ 200000 ∧ chkF x rs = 0 ∧ szF rs ≤ 200000
/-- What a parser of the text s tells: a good formula whose text s is, or that there is none; where s is the text of the good formula (x0, rs0): that one. -/
def RefP (W : World) (s : ByteArray) (x0 : Int) (rs0 : List (List Int)) (e : Ending) (w' : World) : Prop :=
  ∃ cv vs xr rr c, e = .returned (.tuple #[.agg #[.int .i64 xr, cv], .int .i64 c]) ∧ RowsIn w' cv vs rr ∧ Ext W w' ∧ ((c = 0 ∧ goodF xr rr ∧ s.data.toList = textF xr rr) ∨ (c = 40 ∧ xr = 0 ∧ rr = [])) ∧ (goodF x0 rs0 ∧ s.data.toList = textF x0 rs0 → c = 0 ∧ xr = x0 ∧ rr = rs0)
/-- What word tells of place i. -/
structure WordL (l : List UInt8) (i : Nat) (v : Int) (p : Nat) (f : Bool) : Prop where
  lo : i ≤ p
  hi : p ≤ l.length
  found : f = decide (i < p)
  b0 : -1000000000 ≤ v
  b1 : v ≤ 1000000000
  num : ∀ (q : Int) (sep : UInt8) (rest : List UInt8), l.drop i = Lib.itoa q ++ sep :: rest → (sep = 32 ∨ sep = 10) → -10000000 < q → q < 10000000 → v = q ∧ p = i + (Lib.itoa q).length
theorem word_let (s : ByteArray) (i : Nat) (w : World) (hi : i ≤ s.size) (hs : s.size ≤ 2000000) :
    Calls Tryd.prog 38 #[.string s, .int .i64 (i : Int)] w fun e w' => ∃ v p f, e = .returned (.tuple #[.int .i64 v, .int .i64 ((p : Nat) : Int), .bool f]) ∧ WordL s.data.toList i v p f ∧ w = w' := by
  refine (word_any s i w hi hs).mono ?_
  rintro e w' ⟨ng, k, rfl, hW, rfl⟩
  refine ⟨_, _, _, rfl, ⟨by omega, hW.fit, decide_eq_decide.2 (by omega), ?_, ?_, fun q sep rest hl hsep h0 h1 => ?_⟩, rfl⟩
  · have h1 := valB_lt s.data.toList (i + ng) k hW.dig
    have h2 := pow_le10 (k := k) (by have := hW.le; omega)
    split <;> omega
  · have h1 := valB_lt s.data.toList (i + ng) k hW.dig
    have h2 := pow_le10 (k := k) (by have := hW.le; omega)
    split <;> omega
  · obtain ⟨a1, a2⟩ := word_num hW hl hsep h0 h1
    exact ⟨a1, by omega⟩
theorem RefP.no {W w' : World} {s : ByteArray} {x0 : Int} {rs0 : List (List Int)} (hE : Ext W w') (hG : ¬ (goodF x0 rs0 ∧ s.data.toList = textF x0 rs0)) : RefP W s x0 rs0 (.returned (.tuple #[.agg #[.int .i64 0, .slice none 0 0], .int .i64 40])) w' :=
  ⟨_, [], 0, [], 40, rfl, ⟨⟨none, 0, rfl, Nat.le_refl _, Nat.zero_le _, fun j u hu => by simp at hu⟩, rfl, fun j x r h1 => by simp at h1⟩, hE, .inr ⟨rfl, rfl, rfl⟩, fun h => absurd h hG⟩
theorem pre_of_text {s : ByteArray} {x0 : Int} {rs0 : List (List Int)} (h : s.data.toList = textF x0 rs0) : ((s.extract 0 6).toList == [112, 32, 99, 110, 102, 32]) = true := by
  rw [Lib.toList_data, Lib.extract_data, h, textF_eq]
  rfl
theorem text_long {s : ByteArray} {x0 : Int} {rs0 : List (List Int)} (h : s.data.toList = textF x0 rs0) : 7 ≤ s.size := by
  rw [Lib.size_eq, h, textF_eq]
  simp
  omega
theorem WordL.ok {l rest : List UInt8} {i p : Nat} {v q : Int} {f : Bool} {sep : UInt8} (h : WordL l i v p f) (hl : l.drop i = Lib.itoa q ++ sep :: rest) (hs : sep = 32 ∨ sep = 10) (h0 : -10000000 < q) (h1 : q < 10000000) : v = q ∧ f = true ∧ p < l.length ∧ l.drop (p + 1) = rest := by
  obtain ⟨a1, a2⟩ := h.num q sep rest hl hs h0 h1
  have hpos : 0 < (Lib.itoa q).length := List.length_pos_iff.2 (itoa_ne q)
  have hlen := congrArg List.length hl
  simp at hlen
  refine ⟨a1, by rw [h.found]; exact decide_eq_true (by omega), by omega, ?_⟩
  rw [a2, show i + (Lib.itoa q).length + 1 = i + ((Lib.itoa q).length + 1) by omega, ← List.drop_drop, hl, ← List.drop_drop, List.drop_left]
  rfl
/-- How far the parser of the text of rs0 has come. -/
def MatchP (l : List UInt8) (rs0 : List (List Int)) (i : Nat) (os : List (List Int)) (ps : List Int) : Prop :=
  ∃ j, os = rs0.take j ∧ ((∃ r k, rs0[j]? = some r ∧ k ≤ r.length ∧ ps = r.take k ∧ l.drop i = rdB r ((rs0.drop (j + 1)).flatMap clB) k) ∨ (j = rs0.length ∧ ps = [] ∧ l.drop i = []))
theorem match_at {l : List UInt8} {rs0 : List (List Int)} {i j : Nat} (h : l.drop i = (rs0.drop j).flatMap clB) (hj : j ≤ rs0.length) : MatchP l rs0 i (rs0.take j) [] := by
  refine ⟨j, rfl, ?_⟩
  by_cases hlt : j < rs0.length
  · refine .inl ⟨rs0[j], 0, List.getElem?_eq_getElem hlt, Nat.zero_le _, rfl, ?_⟩
    rw [h, List.drop_eq_getElem_cons hlt, List.flatMap_cons, clB_rd]
  · obtain rfl : j = rs0.length := by omega
    exact .inr ⟨rfl, rfl, by rw [h]; simp⟩
theorem match_word {l : List UInt8} {rs0 os : List (List Int)} {ps : List Int} {i p : Nat} {v : Int} {f : Bool} (hb : ∀ c ∈ rs0, ∀ q ∈ c, q ≠ 0 ∧ -1000000 ≤ q ∧ q ≤ 1000000) (hm : MatchP l rs0 i os ps) (hi : i < l.length) (hW : WordL l i v p f) :
    f = true ∧ (v = 0 → MatchP l rs0 (p + 1) (os ++ [ps]) []) ∧ (v ≠ 0 → MatchP l rs0 (p + 1) os (ps ++ [v])) := by
  obtain ⟨j, rfl, h⟩ := hm
  rcases h with ⟨r, k, hr, hk, rfl, hl⟩ | ⟨_, _, hl⟩
  · have hrb := hb r (List.mem_of_getElem? hr)
    obtain ⟨sep, rest, hs, e1, e2⟩ := rdB_at r ((rs0.drop (j + 1)).flatMap clB) k hk
    have hq : -10000000 < r.getD k 0 ∧ r.getD k 0 < 10000000 := by
      by_cases hl : k < r.length
      · rw [Lib.getD_lt_sl r k 0 hl]; have := hrb _ (List.getElem_mem hl); omega
      · simp [List.getD, List.getElem?_eq_none (show r.length ≤ k by omega)]
    rw [e1] at hl
    obtain ⟨a1, a2, a3, a4⟩ := hW.ok hl hs hq.1 hq.2
    refine ⟨a2, fun hv => ?_, fun hv => ?_⟩
    · have hkL : k = r.length := by
        rcases Nat.lt_or_ge k r.length with h1 | h1
        · rw [Lib.getD_lt_sl r k 0 h1] at a1
          exact absurd (a1.symm.trans hv) (hrb _ (List.getElem_mem h1)).1
        · omega
      subst hkL
      rw [nxB_end] at e2
      have e3 : (rs0.drop (j + 1)).flatMap clB = rest := (List.cons.inj e2).2
      rw [← e3] at a4
      have := match_at a4 (by have := (List.getElem?_eq_some_iff.1 hr).1; omega)
      rwa [List.take_add_one, hr, Option.toList_some, ← show r.take r.length = r from List.take_length] at this
    · have hkL : k < r.length := by
        rcases Nat.lt_or_ge k r.length with h1 | h1
        · exact h1
        · rw [show r.getD k 0 = 0 by simp [List.getD, List.getElem?_eq_none h1]] at a1
          exact absurd a1 hv
      rw [nxB_lt hkL] at e2
      refine ⟨j, rfl, .inl ⟨r, k + 1, hr, hkL, ?_, ?_⟩⟩
      · rw [List.take_add_one, List.getElem?_eq_getElem hkL, a1, Lib.getD_lt_sl r k 0 hkL]; rfl
      · rw [a4, (List.cons.inj e2).2]
  · have := congrArg List.length hl
    simp at this
    omega
theorem match_end {l : List UInt8} {rs0 os : List (List Int)} {ps : List Int} {i : Nat} (hm : MatchP l rs0 i os ps) (hi : l.length ≤ i) : os = rs0 := by
  obtain ⟨j, rfl, h⟩ := hm
  rcases h with ⟨r, k, hr, hk, rfl, hl⟩ | ⟨rfl, _, _⟩
  · rw [List.drop_of_length_le hi] at hl
    unfold rdB at hl
    simp at hl
  · exact List.take_length
theorem text_head {l : List UInt8} {x0 : Int} {rs0 : List (List Int)} (h : l = textF x0 rs0) : l.drop 6 = Lib.itoa x0 ++ 32 :: (Lib.itoa (rs0.length : Int) ++ 10 :: rs0.flatMap clB) := by
  rw [h, textF_eq]; rfl
theorem good_lits {x0 : Int} {rs0 : List (List Int)} (h : goodF x0 rs0) : ∀ c ∈ rs0, ∀ q ∈ c, q ≠ 0 ∧ -1000000 ≤ q ∧ q ≤ 1000000 := fun c hc q hq => by
  have hx := h.1
  rcases chkF_or x0 rs0 with h1 | ⟨_, _, hok⟩
  · have := h.2.1; omega
  · have := List.all_eq_true.1 (List.all_eq_true.1 hok c hc) q hq
    unfold litOk at this
    simp at this
    omega
end Go.Proofs.YtlikmdeplpldlaaDoor
namespace Go.Proofs.YtlikmdeplpldlaaDoor
open Go.RowKit
set_option linter.unusedSimpArgs false
set_option linter.unusedVariables false
set_option maxRecDepth 100000

set_option maxHeartbeats 16000000 in
theorem refparse_any (s : ByteArray) (x0 : Int) (rs0 : List (List Int)) (w : World) (hs : s.size ≤ 20000) :
    Calls Tryd.prog 24 #[.string s] w (RefP w s x0 rs0) := by
  obtain ⟨Q, hQ⟩ : ∃ Q, Q = RefP w s x0 rs0 := ⟨_, rfl⟩
  rw [← hQ]
  have HQ := Lib.hid hQ
  have hszI : (s.size : Int) ≤ 20000 := by omega
  have hE1 : Ext w (w.alloc (.cells #[.int .i64 0, .slice none 0 0] 24)) := (Ext.refl w).alloc _
  have hD1 := heap_alloc_last w (.cells #[.int .i64 0, .slice none 0 0] 24)
  have H1 := Lib.hid (And.intro hE1 hD1)
  clear hQ hs hE1 hD1
  by_cases h7 : s.size < 7
  · have h7I : (s.size : Int) < 7 := by omega
    go_enter Tryd.func24, Tryd.ntmps24
    go_wp2
    refine ret_row2 rfl w.heap.size 24 #[.int .i64 0, .slice none 0 0] _ rfl H1.out.2 Tryd.underlying24 rfl (by kernel_rfl) rfl ?_
    rw [HQ.out]
    exact RefP.no H1.out.1 (fun hg => absurd (text_long hg.2) (by omega))
  · have h7I : ¬ (s.size : Int) < 7 := by omega
    obtain ⟨pf, hpf⟩ : ∃ b, ((s.extract 0 6).toList == [112, 32, 99, 110, 102, 32]) = b := ⟨_, rfl⟩
    have HPF := Lib.hid hpf
    cases pf
    · go_enter Tryd.func24, Tryd.ntmps24
      go_wp2
      refine ret_row2 rfl w.heap.size 24 #[.int .i64 0, .slice none 0 0] _ rfl H1.out.2 Tryd.underlying24 rfl (by kernel_rfl) rfl ?_
      rw [HQ.out]
      exact RefP.no H1.out.1 (fun hg => by have := pre_of_text hg.2; rw [HPF.out] at this; cases this)
    · go_enter Tryd.func24, Tryd.ntmps24
      go_upto_region 6 with fail
      have hQS : QS w (w.heap.size + 1) w.heap.size 0 (.slice none 0 0) [] [] (.slice none 0 0) [] ((w.alloc (.cells #[.int .i64 0, .slice none 0 0] 24)).alloc (.cells #[.int .i64 0, .slice none 0 0] 24)) := by
        have hF := BoxV.of_row (heap_alloc_last (w.alloc (.cells #[.int .i64 0, .slice none 0 0] 24)) (.cells #[.int .i64 0, .slice none 0 0] 24))
        rw [World.size_alloc] at hF
        exact { fr := FR.nil w _ (((Ext.refl w).alloc _).alloc _), pd := own_nil _ _ _ _, po := fun b hb => by simp [Value.ownBlock] at hb, c := hF, d := ext_block ((Ext.refl _).alloc _) H1.out.2, ns := fun k hk => by (simp at hk; omega), fd := by omega }
      obtain ⟨F, hF⟩ : ∃ F, F = w.heap.size + 1 := ⟨_, rfl⟩
      obtain ⟨D, hD⟩ : ∃ D, D = w.heap.size := ⟨_, rfl⟩
      rw [← hF, ← hD] at hQS ⊢
      generalize (w.alloc (.cells #[.int .i64 0, .slice none 0 0] 24)).alloc (.cells #[.int .i64 0, .slice none 0 0] 24) = w2 at hQS ⊢
      have HS2 := Lib.hid hQS
      obtain ⟨l, hl⟩ : ∃ l, l = s.data.toList := ⟨_, rfl⟩
      have HLL := Lib.hid (And.intro hl (show s.size = l.length by rw [hl]; exact Lib.size_eq s))
      clear hF hD hQS H1 hpf hl
      go_upto_region 7 with (go_at_call 38; refine (word_let s 6 _ (by omega) (by omega)).mono ?_; rintro e w3 ⟨v1, i1, f1, rfl, hW1, rfl⟩; rw [← HLL.out.1] at hW1; have HW1 := Lib.hid hW1; clear hW1)
      have HG1 : Hid (goodF x0 rs0 ∧ s.data.toList = textF x0 rs0 → v1 = x0 ∧ f1 = true ∧ i1 < l.length ∧ l.drop (i1 + 1) = Lib.itoa (rs0.length : Int) ++ 10 :: rs0.flatMap clB) := Lib.hid (fun hg => by
        have hx := chkF_or x0 rs0
        have hg2 := hg.1
        exact HW1.out.ok (text_head (HLL.out.1.trans hg.2)) (.inl rfl) (by rcases hx with h | h <;> have := hg2.2.1 <;> omega) (by have := hg2.1; omega))
      cases f1
      · go_wp2_with (refine wpList_store_row rfl 24 (.tmp 2) (.tmp 39) rfl D #[.int .i64 0, .slice none 0 0] rfl rfl 24 _ HS2.out.d rfl rfl (by simp [Value.oneCell']) ?_)
        refine ret_row2 rfl D 24 #[.int .i64 0, .slice none 0 0] _ rfl (setRow_heap _ _ _ _ _ _ HS2.out.d) Tryd.underlying24 rfl (by kernel_rfl) rfl ?_
        rw [HQ.out]
        exact RefP.no ((kb_setRow _ D _).ext HS2.out.fr.ext (fun k hk => HS2.out.ns k (by simp at hk; simp [hk]))) (fun hg => by have := (HG1.out hg).2.1; cases this)
      · by_cases hi1 : i1 < s.size
        · have hi1I : (i1 : Int) < (s.size : Int) := by omega
          have b0 := HW1.out.b0
          have b1 := HW1.out.b1
          have q0 := HS2.out.c.cells 0 _ rfl
          have qf := HS2.out.c.fz 0
          have hlF := HS2.out.c.lt
          have HS3 := Lib.hid (HS2.out.vars v1)
          go_upto_region 10 with fail
          clear q0 qf hlF
          generalize w2.setCell ⟨F, 0, none⟩ (.int .i64 v1) = w3 at HS3 ⊢
          go_upto_region 11 with (go_at_call 38; refine (word_let s (i1 + 1) _ (by omega) (by omega)).mono ?_; rintro e w4 ⟨v2, i2, f2, rfl, hW2, rfl⟩; rw [← HLL.out.1] at hW2; have HW2 := Lib.hid hW2; clear hW2)
          have HG2 : Hid (goodF x0 rs0 ∧ s.data.toList = textF x0 rs0 → f2 = true ∧ i2 < l.length ∧ MatchP l rs0 (i2 + 1) [] []) := Lib.hid (fun hg => by
            have hn := szF_len rs0
            have hg3 := hg.1.2.2
            obtain ⟨a1, a2, a3, a4⟩ := HW2.out.ok (HG1.out hg).2.2.2 (.inr rfl) (by omega) (by omega)
            exact ⟨a2, a3, match_at (j := 0) (by simpa using a4) (Nat.zero_le _)⟩)
          have HX : Hid (goodF x0 rs0 ∧ s.data.toList = textF x0 rs0 → v1 = x0) := Lib.hid (fun hg => (HG1.out hg).1)
          clear HG1 HW1
          have hi2l := HW2.out.lo
          cases f2
          · go_wp2_with (refine wpList_store_row rfl 24 (.tmp 2) (.tmp 58) rfl D #[.int .i64 0, .slice none 0 0] rfl rfl 24 _ HS3.out.d rfl rfl (by simp [Value.oneCell']) ?_)
            refine ret_row2 rfl D 24 #[.int .i64 0, .slice none 0 0] _ rfl (setRow_heap _ _ _ _ _ _ HS3.out.d) Tryd.underlying24 rfl (by kernel_rfl) rfl ?_
            rw [HQ.out]
            exact RefP.no ((kb_setRow _ D _).ext HS3.out.fr.ext (fun k hk => HS3.out.ns k (by simp at hk; simp [hk]))) (fun hg => by have := (HG2.out hg).1; cases this)
          · by_cases hi2 : i2 < s.size
            · have hi2I : (i2 : Int) < (s.size : Int) := by omega
              go_upto_region 14 with fail
              go_wp2
              have hi2s := hi2
              clear HW2
              go_loopw [6, 8] (fun t6 t8 wr => ∃ (i b2 b3 d2 d3 : Nat) (ba da : Option Addr) (vs : List Value) (os : List (List Int)) (ps : List Int), i ≤ s.size + 1 ∧ t6 = .int .i64 (i : Int) ∧ t8 = .slice da d2 d3 ∧ szF os + ps.length ≤ i ∧ Hid (QS w F D v1 (.slice ba b2 b3) vs os (.slice da d2 d3) ps wr) ∧ Hid (goodF x0 rs0 ∧ s.data.toList = textF x0 rs0 → MatchP l rs0 i os ps)) (fun t6 _ _ => s.size + 1 - (intOf t6).toNat)
              case atStart => exact ⟨i2 + 1, 0, 0, 0, 0, none, none, [], [], [], by omega, by go_num, rfl, by simp [szF], HS3, Lib.hid (fun hg => (HG2.out hg).2.2)⟩
              case round =>
                obtain ⟨i, b2, b3, d2, d3, ba, da, vs, os, ps, hi, rfl, rfl, hsz, H, HM⟩ := hrel
                by_cases hlt : i < s.size
                · have hltI : (i : Int) < (s.size : Int) := by omega
                  have p3 := H.out.c.cells 1 _ rfl
                  have hlF := H.out.c.lt
                  have hwr := H.out.fr.ext.size
                  have hol : vs.length ≤ 30000 := by rw [H.out.fr.len]; have := szF_len os; omega
                  have hpl : ps.length ≤ 30000 := by omega
                  go_upto_region 17 with (go_at_call 38; refine (word_let s i _ (by omega) (by omega)).mono ?_; rintro e w5 ⟨v, p, f, rfl, hW, rfl⟩; rw [← HLL.out.1] at hW; have HW := Lib.hid hW; clear hW)
                  have HMW : Hid (goodF x0 rs0 ∧ s.data.toList = textF x0 rs0 → f = true ∧ (v = 0 → MatchP l rs0 (p + 1) (os ++ [ps]) []) ∧ (v ≠ 0 → MatchP l rs0 (p + 1) os (ps ++ [v]))) := Lib.hid (fun hg => match_word (good_lits hg.1) (HM.out hg) (by have := HLL.out.2; omega) HW.out)
                  have hp2 : p ≤ s.size := by rw [HLL.out.2]; exact HW.out.hi
                  have hpf := HW.out.found
                  cases f
                  · clear hpf hp2 hol hpl p3
                    go_wp2_with (refine wpList_store_row rfl 24 (.tmp 2) (.tmp 74) rfl D #[.int .i64 0, .slice none 0 0] rfl rfl 24 _ H.out.d rfl rfl (by simp [Value.oneCell']) ?_)
                    refine ret_row2 rfl D 24 #[.int .i64 0, .slice none 0 0] _ rfl (setRow_heap _ _ _ _ _ _ H.out.d) Tryd.underlying24 rfl (by kernel_rfl) rfl ?_
                    rw [HQ.out]
                    exact RefP.no ((kb_setRow _ D _).ext H.out.fr.ext (fun k hk => H.out.ns k (by simp at hk; simp [hk]))) (fun hg => by have := (HMW.out hg).1; cases this)
                  · have hip : i < p := of_decide_eq_true hpf.symm
                    clear hpf
                    by_cases hv : v = 0
                    · subst hv
                      go_wp2_with (at_builtin; (refine wpList_append_slc _ rfl (.tmp 78) (.tmp 80) 22 rfl w.heap.size 36 (.slice none 0 0) 1 24 Tryd.underlying22 infoInts rfl (by decide) (.slice ba b2 b3) vs.length vs rfl (ownsRow_ext H.out.fr.top (by repeat first | exact Ext.refl _ | assumption | refine Ext.drew ?_ | refine Ext.drewN ?_ _ | refine Ext.extBy ?_ _ | refine Ext.alloc ?_ _ | refine Ext.setCell ?_ (by simp; try omega) _ | (refine Ext.trans ?_ (by assumption)))) _ 1 [.slice da d2 d3] rfl (SlC.fresh _ #[.slice da d2 d3] _ 1 _ (by simp) (by decide)) rfl (by simp [Value.oneCell']) (by unfold maxLen; omega) (by omega) (by simp; omega) ?_; intro v9 w9 hown9 hg9 hat9; obtain ⟨x9, y9, z9, rfl⟩ := own_slice3 hown9; have HP := Lib.hid ((H.out.next (by repeat first | exact Ext.refl _ | assumption | refine Ext.drew ?_ | refine Ext.drewN ?_ _ | refine Ext.extBy ?_ _ | refine Ext.alloc ?_ _ | refine Ext.setCell ?_ (by simp; try omega) _ | (refine Ext.trans ?_ (by assumption)))).push hg9 hown9 hat9); have hc1 := HP.out.1.cells 1 _ rfl; have hcf := HP.out.1.fz 1; clear hown9 hg9 hat9))
                      exact ⟨⟨p + 1, y9, z9, 0, 0, x9, none, vs ++ [.slice da d2 d3], os ++ [ps], [], by omega, by go_num, rfl, by rw [szF_append]; simp only [szF, List.length_nil]; omega, Lib.hid HP.out.2, Lib.hid (fun hg => (HMW.out hg).2.1 rfl)⟩, by simp [intOf]; omega⟩
                    · have hvz : (v == 0) = false := by simpa using hv
                      go_wp2_with (at_builtin; (refine wpList_append_slc _ rfl (.tmp 83) (.tmp 85) 36 rfl w.heap.size 3 (.int .i64 0) 1 8 Tryd.underlying36 infoInt rfl (by decide) (.slice da d2 d3) ps.length (i64s ps) rfl (ownsRow_ext H.out.pd (by repeat first | exact Ext.refl _ | assumption | refine Ext.drew ?_ | refine Ext.drewN ?_ _ | refine Ext.extBy ?_ _ | refine Ext.alloc ?_ _ | refine Ext.setCell ?_ (by simp; try omega) _ | (refine Ext.trans ?_ (by assumption)))) _ 1 [.int .i64 v] rfl (SlC.fresh _ #[.int .i64 v] _ 1 _ (by simp) (by decide)) rfl (by simp [Value.oneCell']) (by unfold maxLen; omega) (by omega) (by simp; omega) ?_; intro v9 w9 hown9 hg9 hat9; obtain ⟨x9, y9, z9, rfl⟩ := own_slice3 hown9; have HP := Lib.hid ((H.out.next (by repeat first | exact Ext.refl _ | assumption | refine Ext.drew ?_ | refine Ext.drewN ?_ _ | refine Ext.extBy ?_ _ | refine Ext.alloc ?_ _ | refine Ext.setCell ?_ (by simp; try omega) _ | (refine Ext.trans ?_ (by assumption)))).add v hg9 hown9 hat9); clear hown9 hg9 hat9))
                      exact ⟨⟨p + 1, b2, b3, y9, z9, ba, x9, vs, os, ps ++ [v], by omega, by go_num, rfl, by simp; omega, Lib.hid HP.out, Lib.hid (fun hg => (HMW.out hg).2.2 hv)⟩, by simp [intOf]; omega⟩
                · have hltI : ¬ (i : Int) < (s.size : Int) := by omega
                  have p0 := H.out.c.cells 0 _ rfl
                  have p3 := H.out.c.cells 1 _ rfl
                  have hlF := H.out.c.lt
                  have HSZ : Hid (szF os ≤ 200000) := Lib.hid (by omega)
                  have HEN : Hid (goodF x0 rs0 ∧ s.data.toList = textF x0 rs0 → v1 = x0 ∧ os = rs0) := Lib.hid (fun hg => ⟨HX.out hg, match_end (HM.out hg) (by have := HLL.out.2; omega)⟩)
                  by_cases hbig : 200000 < v1
                  · go_upto_region 25 with (go_at_call 12; refine (checkFR_big v1 _ vs os _ hbig (by omega) H.out.fr.rows HSZ.out).mono ?_; rintro e w6 ⟨rfl, hE6⟩; have H6 := Lib.hid (H.out.next hE6); clear hE6)
                    go_wp2_with (refine wpList_store_row rfl 24 (.tmp 2) (.tmp 98) rfl D #[.int .i64 0, .slice none 0 0] rfl rfl 24 _ H6.out.d rfl rfl (by simp [Value.oneCell']) ?_)
                    refine ret_row2 rfl D 24 #[.int .i64 0, .slice none 0 0] _ rfl (setRow_heap _ _ _ _ _ _ H6.out.d) Tryd.underlying24 rfl (by kernel_rfl) rfl ?_
                    rw [HQ.out]
                    exact RefP.no ((kb_setRow _ D _).ext H6.out.fr.ext (fun k hk => H6.out.ns k (by simp at hk; simp [hk]))) (fun hg => by have h1 := (HEN.out hg).1; have h2 := hg.1.1; omega)
                  · rcases chkF_or v1 os with hc | ⟨hc, hx0, -⟩
                    · have HC := Lib.hid hc
                      clear hc
                      go_upto_region 25 with (go_at_call 12; refine (checkFR_any v1 _ vs os _ (by omega) (by omega) H.out.fr.rows HSZ.out).mono ?_; rintro e w6 ⟨rfl, hE6⟩; rw [HC.out]; have H6 := Lib.hid (H.out.next hE6); clear hE6)
                      go_wp2_with (refine wpList_store_row rfl 24 (.tmp 2) (.tmp 98) rfl D #[.int .i64 0, .slice none 0 0] rfl rfl 24 _ H6.out.d rfl rfl (by simp [Value.oneCell']) ?_)
                      refine ret_row2 rfl D 24 #[.int .i64 0, .slice none 0 0] _ rfl (setRow_heap _ _ _ _ _ _ H6.out.d) Tryd.underlying24 rfl (by kernel_rfl) rfl ?_
                      rw [HQ.out]
                      exact RefP.no ((kb_setRow _ D _).ext H6.out.fr.ext (fun k hk => H6.out.ns k (by simp at hk; simp [hk]))) (fun hg => by have h1 := (HEN.out hg); have h2 := hg.1.2.1; rw [← h1.1, ← h1.2, HC.out] at h2; cases h2)
                    · have HC := Lib.hid hc
                      obtain ⟨tx, htx⟩ : ∃ t : ByteArray, t = ⟨(textF v1 os).toArray⟩ := ⟨_, rfl⟩
                      have HTX : Hid (∀ w', Ext wr w' → Calls Tryd.prog 22 #[.agg #[.int .i64 v1, .slice ba b2 b3]] w' fun e w'' => e = .returned (.string tx) ∧ Ext w' w'') := Lib.hid fun w' hx => by
                        have h0 := textR_any v1 _ vs os w' (by omega) (by omega) (H.out.fr.rows.ext hx) HSZ.out
                        rw [if_pos hc, ← htx] at h0
                        exact h0
                      have HTE := Lib.hid htx
                      clear hc htx
                      obtain ⟨bq, hbq⟩ : ∃ b, (tx.toList == s.toList) = b := ⟨_, rfl⟩
                      have HBQ := Lib.hid hbq
                      cases bq
                      · go_wp2_with (first | (go_at_call 12; refine (checkFR_any v1 _ vs os _ (by omega) (by omega) H.out.fr.rows HSZ.out).mono ?_; rintro e w6 ⟨rfl, hE6⟩; rw [HC.out]; have q0 := hE6.cell p0; have q1 := hE6.cell p3; have H6 := Lib.hid (H.out.next hE6); have HX6 := Lib.hid hE6; clear hE6) | (go_at_call 22; refine (HTX.out _ HX6.out).mono ?_; rintro e w7 ⟨rfl, hE7⟩; have c0 := hE7.cell q0; have c1 := hE7.cell q1; have hlF7 := World.block_lt_of_cell? w7 _ c0; have H7 := Lib.hid (H6.out.next hE7); clear hE7) | (refine wpList_store_row rfl 24 (.tmp 2) (.tmp 98) rfl D #[.int .i64 0, .slice none 0 0] rfl rfl 24 _ H7.out.d rfl rfl (by simp [Value.oneCell']) ?_))
                        refine ret_row2 rfl D 24 #[.int .i64 0, .slice none 0 0] _ rfl (setRow_heap _ _ _ _ _ _ H7.out.d) Tryd.underlying24 rfl (by kernel_rfl) rfl ?_
                        rw [HQ.out]
                        refine RefP.no ((kb_setRow _ D _).ext H7.out.fr.ext (fun k hk => H7.out.ns k (by simp at hk; simp [hk]))) (fun hg => ?_)
                        have h1 := HEN.out hg
                        have h2 := HBQ.out
                        rw [HTE.out, h1.1, h1.2, Lib.toList_data, Lib.toList_data, hg.2] at h2
                        simp at h2
                      · go_wp2_with (first | (go_at_call 12; refine (checkFR_any v1 _ vs os _ (by omega) (by omega) H.out.fr.rows HSZ.out).mono ?_; rintro e w6 ⟨rfl, hE6⟩; rw [HC.out]; have q0 := hE6.cell p0; have q1 := hE6.cell p3; have H6 := Lib.hid (H.out.next hE6); have HX6 := Lib.hid hE6; clear hE6) | (go_at_call 22; refine (HTX.out _ HX6.out).mono ?_; rintro e w7 ⟨rfl, hE7⟩; have c0 := hE7.cell q0; have c1 := hE7.cell q1; have hlF7 := World.block_lt_of_cell? w7 _ c0; have H7 := Lib.hid (H6.out.next hE7); clear hE7) | (refine wpList_store_row rfl 24 (.tmp 2) (.tmp 99) rfl D #[.int .i64 v1, .slice ba b2 b3] rfl rfl 24 _ H7.out.d rfl rfl (by simp [Value.oneCell']) ?_))
                        refine ret_row2 rfl D 24 #[.int .i64 v1, .slice ba b2 b3] _ rfl (setRow_heap _ _ _ _ _ _ H7.out.d) Tryd.underlying24 rfl (by kernel_rfl) rfl ?_
                        rw [HQ.out]
                        have hkD := kb_setRow w7 D #[.int .i64 v1, .slice ba b2 b3]
                        refine ⟨_, vs, v1, os, 0, rfl, (H7.out.fr.kb hkD (fun k hk => by simp at hk; simp [hk]) H7.out.nsp).rows, hkD.ext H7.out.fr.ext (fun k hk => H7.out.ns k (by simp at hk; simp [hk])), .inl ⟨rfl, ⟨by omega, HC.out, HSZ.out⟩, ?_⟩, fun hg => ⟨rfl, HEN.out hg⟩⟩
                        have h2 := beq_iff_eq.1 HBQ.out
                        rw [HTE.out, Lib.toList_data, Lib.toList_data] at h2
                        exact h2.symm
            · have hi2I : ¬ (i2 : Int) < (s.size : Int) := by omega
              go_wp2_with (refine wpList_store_row rfl 24 (.tmp 2) (.tmp 58) rfl D #[.int .i64 0, .slice none 0 0] rfl rfl 24 _ HS3.out.d rfl rfl (by simp [Value.oneCell']) ?_)
              refine ret_row2 rfl D 24 #[.int .i64 0, .slice none 0 0] _ rfl (setRow_heap _ _ _ _ _ _ HS3.out.d) Tryd.underlying24 rfl (by kernel_rfl) rfl ?_
              rw [HQ.out]
              exact RefP.no ((kb_setRow _ D _).ext HS3.out.fr.ext (fun k hk => HS3.out.ns k (by simp at hk; simp [hk]))) (fun hg => absurd (HG2.out hg).2.1 (by have := HLL.out.2; omega))
        · have hi1I : ¬ (i1 : Int) < (s.size : Int) := by omega
          go_wp2_with (refine wpList_store_row rfl 24 (.tmp 2) (.tmp 39) rfl D #[.int .i64 0, .slice none 0 0] rfl rfl 24 _ HS2.out.d rfl rfl (by simp [Value.oneCell']) ?_)
          refine ret_row2 rfl D 24 #[.int .i64 0, .slice none 0 0] _ rfl (setRow_heap _ _ _ _ _ _ HS2.out.d) Tryd.underlying24 rfl (by kernel_rfl) rfl ?_
          rw [HQ.out]
          exact RefP.no ((kb_setRow _ D _).ext HS2.out.fr.ext (fun k hk => HS2.out.ns k (by simp at hk; simp [hk]))) (fun hg => absurd (HG1.out hg).2.2.1 (by have := HLL.out.2; omega))
end Go.Proofs.YtlikmdeplpldlaaDoor

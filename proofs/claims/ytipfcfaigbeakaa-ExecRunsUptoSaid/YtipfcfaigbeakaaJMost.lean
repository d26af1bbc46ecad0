/-
  How many instructions a tick can run at most, in plain words.
  No condition.
  The walks of the emitter: how many instructions a tick can run at most.
  Conditions: the code is code.
-/
import Derived.Test.YtipfcfaigbeakaaJExecU
namespace Go.Proofs.Ytipfcfaigbeakaa
open Go.RowKit
set_option linter.unusedSimpArgs false
set_option linter.unusedVariables false
set_option maxRecDepth 100000

/-- What lies where a jump goes; l: what lies behind the instruction. -/
def toQ (q : InsV) (l : List Int) (n : Nat) : Int := if (q.op = 7 ∨ q.op = 8) ∧ 0 ≤ q.n ∧ q.n < (n : Int) then l.getD q.n.toNat 0 else 0
def mostQ (q : InsV) (l : List Int) (n : Nat) : Int :=
  if q.op = 9 then 1 else if q.op = 7 then 1 + toQ q l n else if q.op = 8 then 1 + (if l.getD 0 0 < toQ q l n then toQ q l n else l.getD 0 0) else 1 + l.getD 0 0
/-- The most that is run from each place on. -/
def mostL : List InsV → List Int
  | [] => [0]
  | q :: r => mostQ q (mostL r) r.length :: mostL r
theorem mostL_len : ∀ b : List InsV, (mostL b).length = b.length + 1
  | [] => rfl
  | q :: r => by rw [mostL, List.length_cons, mostL_len r, List.length_cons]
theorem mostL_at : ∀ (b : List InsV) (k : Nat), k ≤ b.length → (mostL b).getD k 0 = (mostL (b.drop k)).getD 0 0
  | b, 0, _ => by rw [List.drop_zero]
  | [], k + 1, h => by simp at h
  | q :: r, k + 1, h => by
    rw [mostL, List.getD_cons_succ, List.drop_succ_cons]
    exact mostL_at r k (by simpa using h)
theorem mostL_bd : ∀ (b : List InsV) (k : Nat), 0 ≤ (mostL b).getD k 0 ∧ (mostL b).getD k 0 ≤ b.length
  | [], 0 => by simp [mostL]
  | [], k + 1 => by simp [mostL]
  | q :: r, k + 1 => by
    rw [mostL, List.getD_cons_succ, List.length_cons]
    have := mostL_bd r k
    omega
  | q :: r, 0 => by
    rw [mostL, List.getD_cons_zero, List.length_cons]
    have h0 := mostL_bd r 0
    have ht : 0 ≤ toQ q (mostL r) r.length ∧ toQ q (mostL r) r.length ≤ r.length := by
      unfold toQ
      split
      · exact mostL_bd r _
      · omega
    unfold mostQ
    split
    · omega
    · split
      · omega
      · split
        · split <;> omega
        · omega
theorem drop_at {l : List InsV} {i : Nat} {q : InsV} (h : l[i]? = some q) : l.drop i = q :: l.drop (i + 1) := by
  obtain ⟨hl, e⟩ := List.getElem?_eq_some_iff.1 h
  rw [List.drop_eq_getElem_cons hl, e]
/-- No run from a place on is longer. -/
theorem end_most {c : CodeV} {fin : Known} (F : Fin c fin) (G : Formed c) (hI : ∀ q ∈ c.body, I64 q.op ∧ I64 q.n ∧ I64 q.k) : ∀ (f : Nat) (s t : List Int) (i n : Nat), AtV c fin s t i n → c.body.length ≤ i + f →
    ((endV c.body f s t i n).2 : Int) ≤ n + (mostL (c.body.drop i)).getD 0 0
  | 0, s, t, i, n, h, hf => by have := h.lt; omega
  | f + 1, s, t, i, n, h, hf => by
    have hl := h.lt
    obtain ⟨q, hq⟩ : ∃ q, c.body[i]? = some q := ⟨_, List.getElem?_eq_getElem hl⟩
    have hd := drop_at hq
    have hdl : (c.body.drop (i + 1)).length = c.body.length - (i + 1) := List.length_drop
    rw [hd, mostL, List.getD_cons_zero]
    rcases h.next F G hI hq with ⟨h9, _⟩ | ⟨h9, s', t', i', hD, hA⟩
    · rw [endV_end hq h9 hf]
      unfold mostQ
      rw [if_pos h9]
      dsimp only
      omega
    · have e : endV c.body (f + 1) s t i n = endV c.body f s' t' i' (n + 1) := by
        rw [endV, hq]
        dsimp only
        rw [if_neg h9, hD.is]
      rw [e]
      have ih := end_most F G hI f s' t' i' (n + 1) hA (by have := hD.on; omega)
      have jmp : ∀ j : Nat, q.n = (j : Int) → (q.op = 7 ∨ q.op = 8) → i + 1 + j < c.body.length → toQ q (mostL (c.body.drop (i + 1))) (c.body.drop (i + 1)).length = (mostL (c.body.drop (i + 1 + j))).getD 0 0 := fun j hj h7 hlt => by
        unfold toQ
        rw [if_pos ⟨h7, by omega, by omega⟩, hj, Int.toNat_natCast, mostL_at _ j (by omega), List.drop_drop]
      have plain : q.op ≠ 7 → q.op ≠ 8 → i' = i + 1 → ((endV c.body f s' t' i' (n + 1)).2 : Int) ≤ n + mostQ q (mostL (c.body.drop (i + 1))) (c.body.drop (i + 1)).length := fun h7 h8 hi => by
        unfold mostQ
        rw [if_neg h9, if_neg h7, if_neg h8]
        subst hi
        omega
      cases hD with
      | jump j h7 hj hlt =>
        have := jmp j hj (.inl h7) hlt
        unfold mostQ
        rw [if_neg h9, if_pos h7, this]
        omega
      | branch j r x h8 hj hlt ht =>
        have := jmp j hj (.inr h8) hlt
        unfold mostQ
        rw [if_neg h9, if_neg (show ¬ q.op = 7 by omega), if_pos h8, this]
        by_cases hx : x = 0
        · rw [if_pos hx] at ih ⊢; split <;> omega
        · rw [if_neg hx] at ih ⊢; split <;> omega
      | push h => exact plain (by omega) (by omega) rfl
      | load j x h => exact plain (by omega) (by omega) rfl
      | save j r x h => exact plain (by omega) (by omega) rfl
      | un r x h => exact plain (by omega) (by omega) rfl
      | bin r x y h => exact plain (by omega) (by omega) rfl
      | cast r x h => exact plain (by omega) (by omega) rfl
theorem tick_most {c : CodeV} (hg : GoodC c) {cs ins : List Int} (hc : CellsOk c cs) (hI : ∀ x ∈ ins, I64 x) : ((tickV c cs ins).n : Int) ≤ (mostL c.body).getD 0 0 := by
  obtain ⟨G, _, _, _, fin, F⟩ := chk_fin hg.chk
  have h0 := mostL_bd c.body 0
  unfold tickV
  by_cases h1 : (ins.length : Int) ≠ c.ins
  · rw [if_pos h1]; dsimp only; omega
  rw [if_neg h1]
  by_cases h2 : insOk c ins = false
  · rw [if_pos h2]; dsimp only; omega
  rw [if_neg h2]
  dsimp only
  have hbpos : 0 < c.body.length := by
    have := G.last
    cases hb : c.body with
    | nil => rw [hb] at this; cases this
    | cons => simp
  have hv := slots0_vals G hc (by omega) hI (by simpa using h2)
  have := end_most F G hg.ints c.body.length (slots0 c cs ins) [] 0 0 ⟨hbpos, hv, ⟨[], F.first, ValsK.nil⟩, Nat.le_refl _⟩ (by omega)
  rw [List.drop_zero] at this
  omega
end Go.Proofs.Ytipfcfaigbeakaa

namespace Go.Proofs.Ytipfcfaigbeakaa
open Go.RowKit
set_option linter.unusedSimpArgs false
set_option linter.unusedVariables false
set_option maxRecDepth 100000

/-- The row as it is filled, from its end on. -/
def rowM (body : List InsV) (k : Nat) : List Int := List.replicate k 0 ++ mostL (body.drop k)
theorem rowM_len {body : List InsV} {k : Nat} (h : k ≤ body.length) : (rowM body k).length = body.length + 1 := by
  unfold rowM
  rw [List.length_append, List.length_replicate, mostL_len, List.length_drop]
  omega
theorem rowM_set {body : List InsV} {m : Nat} {q : InsV} (hq : body[m]? = some q) : (rowM body (m + 1)).set m (mostQ q (mostL (body.drop (m + 1))) (body.drop (m + 1)).length) = rowM body m := by
  unfold rowM
  rw [drop_at hq, mostL, List.replicate_succ', List.append_assoc, List.set_append_right _ _ (by simp)]
  simp
theorem rowM_at {body : List InsV} {m : Nat} (j : Nat) (hj : m + j ≤ body.length) : (rowM body m)[m + j]? = some ((mostL (body.drop m)).getD j 0) := by
  unfold rowM
  rw [List.getElem?_append_right (by simp), List.length_replicate, Nat.add_sub_cancel_left]
  have : j < (mostL (body.drop m)).length := by rw [mostL_len, List.length_drop]; omega
  rw [List.getElem?_eq_getElem this]
  simp [List.getD, List.getElem?_eq_getElem this]
theorem ite_max (a b : Int) : (if a < b then b else a) = max a b := by split <;> omega
theorem w60 {x : Int} (h : -1000000 ≤ x ∧ x ≤ 1000000) : wrap64 x = x := wrap64_id (by omega) (by omega)
set_option maxHeartbeats 4000000 in
theorem most_any (c : CodeV) (kv iv bv : Value) (w : World) (h : CodeIn w kv iv bv c) (h0 : chk c = 0) :
    Calls Try.prog 41 #[codeA c kv iv bv] w fun e w' => e = .returned (.tuple #[.int .i64 ((mostL c.body).getD 0 0), .int .i64 0]) ∧ Ext w w' := by
  obtain ⟨r, hr⟩ : ∃ r, r = (mostL c.body).getD 0 0 := ⟨_, rfl⟩
  rw [← hr]
  have HRR := Lib.hid hr
  clear hr
  obtain ⟨G, hbl, _, _, _, _⟩ := chk_fin h0
  have hbpos : 0 < c.body.length := by
    have := G.last
    cases hb : c.body with
    | nil => rw [hb] at this; cases this
    | cons => simp
  have HC : Hid (∀ w', Ext w w' → Calls Try.prog 17 #[codeA c kv iv bv] w' fun e w1 => e = .returned (.int .i64 0) ∧ Ext w' w1) := Lib.hid fun w' hx => by
    have := check_any _ _ _ _ w' (h.ext hx); rw [h0] at this; exact this
  have HB := Lib.hid h.body
  obtain ⟨⟨ka, kcap, rfl, -⟩, ⟨ia, icap, rfl, -⟩, ⟨ba, bcap, rfl, hb1, hb2, hbc⟩⟩ := h
  have HBO := Lib.hid hbc
  obtain ⟨L, hL⟩ : ∃ L, L = c.body.length := ⟨_, rfl⟩
  obtain ⟨nk, hnk⟩ : ∃ nk, nk = c.kinds.length := ⟨_, rfl⟩
  obtain ⟨ni, hni⟩ : ∃ ni, ni = c.init.length := ⟨_, rfl⟩
  simp only [codeA] at HC ⊢
  rw [← hL] at hbl hbpos hb1
  rw [← hL, ← hnk, ← hni] at HC ⊢
  have HL := Lib.hid hL
  clear hL hnk hni G hbc HB h0
  obtain ⟨K, hK⟩ : ∃ K, K = L + 1 := ⟨_, rfl⟩
  have hK1 : wrap64 ((L : Int) + 1) = (K : Int) := by rw [wrap64_id (by omega) (by omega)]; omega
  have HK := Lib.hid hK
  clear hK hb1 hb2
  go_enter Try.func41, Try.ntmps41
  go_upto_region 3 with (go_at_call 17; refine (HC.out _ (by repeat first | exact Ext.refl _ | assumption | refine Ext.drew ?_ | refine Ext.drewN ?_ _ | refine Ext.extBy ?_ _ | refine Ext.alloc ?_ _ | refine Ext.setCell ?_ (by simp; try omega) _ | (refine Ext.trans ?_ (by assumption)))).mono ?_; rintro e w1 ⟨rfl, hx1⟩; have hbx := (BoxV.of_row (heap_alloc_last w _)).ext hx1; have p0 := hbx.cells 0 _ rfl; have p1 := hbx.cells 1 _ rfl; have p2 := hbx.cells 2 _ rfl; have p3 := hbx.cells 3 _ rfl; have p4 := hbx.cells 4 _ rfl; have p5 := hbx.cells 5 _ rfl; have p6 := hbx.cells 6 _ rfl)
  have hE1 : Ext w w1 := ((Ext.refl w).alloc _).trans hx1
  have HBX := Lib.hid hbx
  obtain ⟨X, hX⟩ : ∃ X, X = w.heap.size := ⟨_, rfl⟩
  rw [← hX] at HBX p0 p1 p2 p3 p4 p5 p6 ⊢
  have HXX := Lib.hid hX
  clear hbx p0 p1 p2 p3 p4 p5 hX hx1
  have hmk := run_make_row' (P := Try.prog) 22 3 (.int .i64 0) 8 Try.underlying22 infoInt rfl .i64 .i64 K (by have := HK.out; omega) (by have := HK.out; omega)
  rw [show (K : Int) = (L : Int) + 1 by have := HK.out; omega] at hmk
  go_upto_region 4 with fail
  have hx2 : Ext w1 (w1.alloc (.cells (madeCells #[.int .i64 0] K) 3)) := (Ext.refl w1).alloc _
  have HR2 : Hid ((w1.alloc (.cells (madeCells #[.int .i64 0] K) 3)).ownsRow w.heap.size 3 1 (.slice (some ⟨w1.heap.size, 0, none⟩) K K) K (i64s (List.replicate K 0))) := Lib.hid (by
    have := own_made (e := 3) (K := K) (base := w.heap.size) w1.heap.size (.int .i64 0) hE1.size (by unfold maxLen; have := HK.out; omega) (heap_alloc_last w1 (.cells (madeCells #[.int .i64 0] K) 3))
    simpa using this)
  have hbX : w1.heap.size ≠ X := by have := HBX.out.lt; omega
  generalize w1.alloc (.cells (madeCells #[.int .i64 0] K) 3) = w2 at hx2 HR2 ⊢
  generalize w1.heap.size = b at HR2 hbX ⊢
  obtain ⟨cl, hcl⟩ : ∃ cl : List Value, cl = [.slice ka nk kcap, .int .i64 c.ins, .int .i64 c.outs, .int .i64 c.cells, .int .i64 c.stack, .slice ia ni icap, .slice ba L bcap] := ⟨_, rfl⟩
  have HRQ : Hid (RQ w X b K cl (.slice none 0 0) (rowM c.body L) [] w2) := Lib.hid
    ⟨hE1.trans hx2, by rw [hcl]; exact HBX.out.ext hx2, by
      have h := HR2.out
      have e : rowM c.body L = List.replicate K 0 := by
        unfold rowM
        rw [HL.out, List.drop_length, mostL, HK.out, HL.out, List.replicate_succ']
      rwa [e], own_nil _ _ _ _, by simp [Value.ownBlock], by simp [Value.ownBlock], hbX, Nat.le_of_eq HXX.out.symm⟩
  have HCL : Hid (cl[6]? = some (.slice ba L bcap)) := Lib.hid (by rw [hcl]; rfl)
  replace p6 := HRQ.out.box.cells 6 _ HCL.out
  have hL1 : wrap64 ((L : Int) - 1) = (L : Int) - 1 := wrap64_id (by omega) (by omega)
  clear hcl HR2 hx2 hE1 HBX hbX hmk
  go_wp2
  go_loopw [5] (fun x wr => ∃ k : Nat, k ≤ L ∧ x = .int .i64 ((k : Int) - 1) ∧ Hid (RQ w X b K cl (.slice none 0 0) (rowM c.body k) [] wr)) (fun x _ => (intOf x + 1).toNat)
  case atStart => exact ⟨L, Nat.le_refl _, by go_num, HRQ⟩
  case round =>
    obtain ⟨k, hk, rfl, HRr⟩ := hrel
    clear p6
    cases k with
    | zero =>
      have p6 := HRr.out.box.cells 6 _ HCL.out
      have v0 := own_cell1 HRr.out.val 0 (.int .i64 r) (by rw [List.getElem?_map, rowM_at (body := c.body) (m := 0) 0 (by omega), List.drop_zero, HRR.out]; rfl)
      have v1 := HRr.out.val.lt b rfl
      have hK0 : 0 < K := by have := HK.out; omega
      go_wp2
      go_ret2
      exact ⟨rfl, HRr.out.ext⟩
    | succ m =>
      have hm1 : ((m + 1 : Nat) : Int) - 1 = (m : Int) := by omega
      rw [hm1]
      have hmL : m < L := by omega
      clear hm1 hk
      obtain ⟨q, hq⟩ : ∃ q, c.body[m]? = some q := ⟨_, List.getElem?_eq_getElem (by have := HL.out; omega)⟩
      have HQQ := Lib.hid hq
      have hcs3 := insCells_at c.body m q hq
      obtain ⟨b3, o3, rfl, g0⟩ := HBO.out (m * 3) _ hcs3.1
      obtain ⟨b3', o3', e0, g1⟩ := HBO.out (m * 3 + 1) _ hcs3.2.1
      simp only [Option.some.injEq, Addr.mk.injEq] at e0
      obtain ⟨rfl, rfl, -⟩ := e0
      obtain ⟨b3', o3', e0, g2⟩ := HBO.out (m * 3 + 2) _ hcs3.2.2
      simp only [Option.some.injEq, Addr.mk.injEq] at e0
      obtain ⟨rfl, rfl, -⟩ := e0
      replace g0 := HRr.out.ext.cell g0
      replace g1 := HRr.out.ext.cell g1
      replace g2 := HRr.out.ext.cell g2
      rw [← Nat.add_assoc] at g1 g2
      have p6 := HRr.out.box.cells 6 _ HCL.out
      have hi0 : (0 : Int) ≤ (m : Int) := by omega
      have hi1 : (m : Int) < (L : Int) := by omega
      clear hq hcs3
      obtain ⟨qo, qn, qk⟩ := q
      dsimp only at g0 g1 g2
      go_upto_region 8 with (refine wpList_store_last rfl 33 (.tmp 6) (.tmp 29) rfl _ _ _ _ rfl rfl (by simp) (by kernel_rfl) (by kernel_rfl) (by kernel_rfl) ?_)
      go_frame
      have hx5 : Ext wr (wr.alloc (.cells #[.int .i64 qo, .int .i64 qn, .int .i64 qk] 33)) := (Ext.refl wr).alloc _
      have HB5 := Lib.hid (BoxV.of_row (heap_alloc_last wr (.cells #[.int .i64 qo, .int .i64 qn, .int .i64 qk] 33)))
      generalize wr.alloc (.cells #[.int .i64 qo, .int .i64 qn, .int .i64 qk] 33) = w5 at hx5 HB5 ⊢
      have HR5 := Lib.hid (HRr.out.more hx5)
      generalize wr.heap.size = Y at HB5 ⊢
      have hY0 := HB5.out.cells 0 _ rfl
      have hY1 := HB5.out.cells 1 _ rfl
      have hY2 := HB5.out.cells 2 _ rfl
      clear hx5 g0 g1 g2 p6 HRr
      replace p6 := HR5.out.box.cells 6 _ HCL.out
      have hmK : m < K := by have := HK.out; omega
      have hkb := HK.out
      have hdl : (c.body.drop (m + 1)).length = L - (m + 1) := by rw [List.length_drop, ← HL.out]
      obtain ⟨um, hum⟩ : ∃ um, (rowM c.body (m + 1))[m]? = some um := ⟨_, List.getElem?_eq_getElem (by rw [rowM_len (by have := HL.out; omega)]; have := HL.out; omega)⟩
      have hvm := own_cell1 HR5.out.val m (.int .i64 um) (by rw [List.getElem?_map, hum]; rfl)
      clear hum
      have hbs := (HR5.out.val.lt b rfl).2
      obtain ⟨l0, hl0⟩ : ∃ l0, l0 = (mostL (c.body.drop (m + 1))).getD 0 0 := ⟨_, rfl⟩
      have hl0b := mostL_bd (c.body.drop (m + 1)) 0
      rw [← hl0, hdl] at hl0b
      obtain ⟨h00, h01⟩ := hl0b
      obtain ⟨M1, hM1⟩ : ∃ M1, M1 = m + 1 := ⟨_, rfl⟩
      have hv0 := own_cell1 HR5.out.val M1 (.int .i64 l0) (by rw [List.getElem?_map, hM1, hl0, show m + 1 = m + 1 + 0 from rfl, rowM_at (body := c.body) (m := m + 1) 0 (by have := HL.out; omega)]; rfl)
      have hM1K : M1 < K := by omega
      have hl6 : l0 ≤ 60000 := by omega
      have hbM : (m : Int) + 1 = (M1 : Int) := by omega
      have hbM1 : -1000000 ≤ (M1 : Int) ∧ (M1 : Int) ≤ 1000000 := by omega
      have hbL : -1000000 ≤ (L : Int) - (m : Int) ∧ (L : Int) - (m : Int) ≤ 1000000 := by omega
      have hbL2 : -1000000 ≤ (L : Int) - (m : Int) - 1 ∧ (L : Int) - (m : Int) - 1 ≤ 1000000 := by omega
      have hb1l : -1000000 ≤ 1 + l0 ∧ 1 + l0 ≤ 1000000 := by omega
      have hwM : wrap64 ((m : Int) + 1) = (M1 : Int) := by rw [hbM]; exact w60 hbM1
      have HM1 := Lib.hid hM1
      have HL0 := Lib.hid hl0
      have HDL := Lib.hid hdl
      have hwL : wrap64 ((L : Int) - (m : Int)) = (L : Int) - (m : Int) := w60 hbL
      have hwL2 : wrap64 ((L : Int) - (m : Int) - 1) = (L : Int) - (m : Int) - 1 := w60 hbL2
      have SET : Hid (∀ V : Int, mostQ ⟨qo, qn, qk⟩ (mostL (c.body.drop (m + 1))) (c.body.drop (m + 1)).length = V → RQ w X b K cl (.slice none 0 0) (rowM c.body m) [] (w5.setCell ⟨b, m, none⟩ (.int .i64 V))) := Lib.hid fun V hV => by
        have := HR5.out.slot m hmK V
        rw [← hV, rowM_set HQQ.out] at this
        rw [← hV]; exact this
      have hw1l : wrap64 (1 + l0) = 1 + l0 := w60 hb1l
      have hv0' := hv0
      rw [hM1] at hv0'
      have hm1K : m + 1 < K := by rw [← hM1]; exact hM1K
      have HWS := Lib.hid (And.intro hwM (And.intro hwL (And.intro hwL2 hw1l)))
      clear hwM hwL hwL2 hw1l hK1 hL1
      clear hdl hl0 hM1 hkb h01 hbM hbM1 hbL hbL2 hb1l
      by_cases h9 : qo = 9
      · subst h9
        have hV : mostQ ⟨9, qn, qk⟩ (mostL (c.body.drop (m + 1))) (c.body.drop (m + 1)).length = 1 := rfl
        have HV := Lib.hid hV
        clear hV
        go_wp2
        go_roundw
        case rel => exact ⟨m, Nat.le_of_lt hmL, by go_num, Lib.hid (SET.out 1 HV.out)⟩
        case measure => (simp [intOf] <;> omega)
      by_cases h7 : qo = 7
      · subst h7
        clear h9
        by_cases hin : 0 ≤ qn ∧ qn < (L : Int) - m - 1
        · obtain ⟨hq0, hq1⟩ := hin
          obtain ⟨j, hj⟩ : ∃ j : Nat, qn = (j : Int) := ⟨qn.toNat, by omega⟩
          subst hj
          obtain ⟨T, hT⟩ : ∃ T, T = (mostL (c.body.drop (m + 1))).getD j 0 := ⟨_, rfl⟩
          have hTb := mostL_bd (c.body.drop (m + 1)) j
          rw [← hT, HDL.out] at hTb
          obtain ⟨hT0, hT1⟩ := hTb
          have hto : toQ ⟨7, (j : Int), qk⟩ (mostL (c.body.drop (m + 1))) (c.body.drop (m + 1)).length = T := by
            unfold toQ
            rw [if_pos ⟨by dsimp only; omega, hq0, by rw [HDL.out]; dsimp only; omega⟩, hT]
            simp
          have hvT := own_cell1 HR5.out.val (M1 + j) (.int .i64 T) (by rw [List.getElem?_map, HM1.out, hT, rowM_at (body := c.body) (m := m + 1) j (by have := HL.out; omega)]; rfl)
          have hbj : -1000000 ≤ (M1 : Int) + (j : Int) ∧ (M1 : Int) + (j : Int) ≤ 1000000 := by have := HK.out; have := HM1.out; omega
          have hMj : M1 + j < K := by have := HK.out; have := HM1.out; omega
          have hvT' := hvT
          have hmj : m + 1 + j < K := by rw [← HM1.out]; exact hMj
          rw [HM1.out] at hvT'
          have hbT : -1000000 ≤ 1 + T ∧ 1 + T ≤ 1000000 := by have := HM1.out; omega
          have hV : mostQ ⟨7, (j : Int), qk⟩ (mostL (c.body.drop (m + 1))) (c.body.drop (m + 1)).length = 1 + T := by
            unfold mostQ
            rw [if_neg (by dsimp only; omega), if_pos rfl, hto]
          have HV := Lib.hid hV
          clear hV hto hT hbj hbT
          go_wp2
          go_roundw
          case rel => exact ⟨m, Nat.le_of_lt hmL, by go_num, Lib.hid (SET.out _ HV.out)⟩
          case measure => (simp [intOf] <;> omega)
        · have hor : qn < 0 ∨ (0 ≤ qn ∧ (L : Int) - m - 1 ≤ qn) := by omega
          have hto : toQ ⟨7, qn, qk⟩ (mostL (c.body.drop (m + 1))) (c.body.drop (m + 1)).length = 0 := by
            unfold toQ
            rw [if_neg]
            rintro ⟨-, h1, h2⟩
            rw [HDL.out] at h2
            dsimp only at h1 h2
            exact hin ⟨h1, by omega⟩
          have hV : mostQ ⟨7, qn, qk⟩ (mostL (c.body.drop (m + 1))) (c.body.drop (m + 1)).length = 1 := by
            unfold mostQ
            rw [if_neg (by dsimp only; omega), if_pos rfl, hto]; rfl
          have HV := Lib.hid hV
          clear hV hto hin
          rcases hor with hor | ⟨hor0, hor1⟩
          · go_wp2
            go_roundw
            case rel => exact ⟨m, Nat.le_of_lt hmL, by go_num, Lib.hid (SET.out _ HV.out)⟩
            case measure => (simp [intOf] <;> omega)
          · have hor2 : ¬ qn < (L : Int) - m - 1 := by omega
            go_wp2
            go_roundw
            case rel => exact ⟨m, Nat.le_of_lt hmL, by go_num, Lib.hid (SET.out _ HV.out)⟩
            case measure => (simp [intOf] <;> omega)
      by_cases h8 : qo = 8
      · subst h8
        clear h9 h7
        by_cases hin : 0 ≤ qn ∧ qn < (L : Int) - m - 1
        · obtain ⟨hq0, hq1⟩ := hin
          obtain ⟨j, hj⟩ : ∃ j : Nat, qn = (j : Int) := ⟨qn.toNat, by omega⟩
          subst hj
          obtain ⟨T, hT⟩ : ∃ T, T = (mostL (c.body.drop (m + 1))).getD j 0 := ⟨_, rfl⟩
          have hTb := mostL_bd (c.body.drop (m + 1)) j
          rw [← hT, HDL.out] at hTb
          obtain ⟨hT0, hT1⟩ := hTb
          have hto : toQ ⟨8, (j : Int), qk⟩ (mostL (c.body.drop (m + 1))) (c.body.drop (m + 1)).length = T := by
            unfold toQ
            rw [if_pos ⟨by dsimp only; omega, hq0, by rw [HDL.out]; dsimp only; omega⟩, hT]
            simp
          have hvT := own_cell1 HR5.out.val (M1 + j) (.int .i64 T) (by rw [List.getElem?_map, HM1.out, hT, rowM_at (body := c.body) (m := m + 1) j (by have := HL.out; omega)]; rfl)
          have hbj : -1000000 ≤ (M1 : Int) + (j : Int) ∧ (M1 : Int) + (j : Int) ≤ 1000000 := by have := HK.out; have := HM1.out; omega
          have hMj : M1 + j < K := by have := HK.out; have := HM1.out; omega
          have hvT' := hvT
          have hmj : m + 1 + j < K := by rw [← HM1.out]; exact hMj
          rw [HM1.out] at hvT'
          have hbT : -1000000 ≤ 1 + T ∧ 1 + T ≤ 1000000 := by have := HM1.out; omega
          have hV : mostQ ⟨8, (j : Int), qk⟩ (mostL (c.body.drop (m + 1))) (c.body.drop (m + 1)).length = 1 + (if l0 < T then T else l0) := by
            unfold mostQ
            rw [if_neg (by dsimp only; omega), if_neg (by dsimp only; omega), if_pos rfl, hto, ← HL0.out]
          rw [ite_max] at hV
          have HV := Lib.hid hV
          clear hV hto hT hbj hbT
          go_wp2
          go_roundw
          case rel => exact ⟨m, Nat.le_of_lt hmL, by go_num, Lib.hid (SET.out _ HV.out)⟩
          case measure => (simp [intOf] <;> omega)
        · have hor : qn < 0 ∨ (0 ≤ qn ∧ (L : Int) - m - 1 ≤ qn) := by omega
          have hto : toQ ⟨8, qn, qk⟩ (mostL (c.body.drop (m + 1))) (c.body.drop (m + 1)).length = 0 := by
            unfold toQ
            rw [if_neg]
            rintro ⟨-, h1, h2⟩
            rw [HDL.out] at h2
            dsimp only at h1 h2
            exact hin ⟨h1, by omega⟩
          have hV : mostQ ⟨8, qn, qk⟩ (mostL (c.body.drop (m + 1))) (c.body.drop (m + 1)).length = 1 + max l0 0 := by
            unfold mostQ
            rw [if_neg (by dsimp only; omega), if_neg (by dsimp only; omega), if_pos rfl, hto, ← HL0.out, ite_max]
          have hl00 : ¬ l0 < 0 := by omega
          have HV := Lib.hid hV
          clear hV hto hin
          rcases hor with hor | ⟨hor0, hor1⟩
          · go_wp2
            go_roundw
            case rel => exact ⟨m, Nat.le_of_lt hmL, by go_num, Lib.hid (SET.out _ HV.out)⟩
            case measure => (simp [intOf] <;> omega)
          · have hor2 : ¬ qn < (L : Int) - m - 1 := by omega
            go_wp2
            go_roundw
            case rel => exact ⟨m, Nat.le_of_lt hmL, by go_num, Lib.hid (SET.out _ HV.out)⟩
            case measure => (simp [intOf] <;> omega)
      · have hV : mostQ ⟨qo, qn, qk⟩ (mostL (c.body.drop (m + 1))) (c.body.drop (m + 1)).length = 1 + l0 := by
          unfold mostQ
          rw [if_neg h9, if_neg h7, if_neg h8, HL0.out]
        have HV := Lib.hid hV
        clear hV
        have e9 : (qo == 9) = false := by simpa using h9
        have e7 : (qo == 7) = false := by simpa using h7
        have e8 : (qo == 8) = false := by simpa using h8
        clear h9 h7 h8
        go_wp2
        go_roundw
        case rel => exact ⟨m, Nat.le_of_lt hmL, by go_num, Lib.hid (SET.out _ HV.out)⟩
        case measure => (simp [intOf] <;> omega)
end Go.Proofs.Ytipfcfaigbeakaa

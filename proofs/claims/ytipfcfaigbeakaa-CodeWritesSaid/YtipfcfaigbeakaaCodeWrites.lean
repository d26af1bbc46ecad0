/-
  The law on the bytes of code: its walk.
  No condition.
-/
import Derived.Test.YtipfcfaigbeakaaCodeParseD
import Derived.Test.YtipfcfaigbeakaaCodeRefW
import Derived.Test.YtipfcfaigbeakaaCodeSame
import Derived.Test.YtipfcfaigbeakaaKit6
namespace Go.Proofs.Ytipfcfaigbeakaa
open Go.RowKit
set_option linter.unusedSimpArgs false
set_option linter.unusedVariables false
set_option maxRecDepth 100000

theorem bigV_no {c : CodeV} (h : bigV c = false) : c.body.length ≤ 3000 ∧ c.kinds.length ≤ 500 ∧ c.init.length ≤ 500 := by
  unfold bigV at h
  simp only [Bool.or_eq_false_iff, decide_eq_false_iff_not] at h
  omega
theorem big_live (c o : CodeV) (kv iv bv kv' iv' bv' : Value) (w : World) (h : CodeIn w kv iv bv c) (h' : CodeIn w kv' iv' bv' o) (hb : bigV c = true ∨ bigV o = true) :
    Calls Try.prog 7 #[codeA c kv iv bv, codeA o kv' iv' bv'] w fun e w' => e = .returned (.bool true) ∧ Ext w w' := by
  have HB : Hid (∀ w', Ext w w' → Calls Try.prog 16 #[codeA c kv iv bv] w' fun e w1 => e = .returned (.bool (bigV c)) ∧ Ext w' w1) := Lib.hid fun w' hx => big_any c kv iv bv w' (h.ext hx)
  have HO : Hid (∀ w', Ext w w' → Calls Try.prog 16 #[codeA o kv' iv' bv'] w' fun e w1 => e = .returned (.bool (bigV o)) ∧ Ext w' w1) := Lib.hid fun w' hx => big_any o kv' iv' bv' w' (h'.ext hx)
  obtain ⟨x, hx⟩ : ∃ x, x = bigV c := ⟨_, rfl⟩
  obtain ⟨y, hy⟩ : ∃ y, y = bigV o := ⟨_, rfl⟩
  rw [← hx] at HB hb
  rw [← hy] at HO hb
  clear hx hy h h'
  simp only [codeA] at HB HO ⊢
  cases x
  · obtain rfl : y = true := by simpa using hb
    clear hb
    go_enter Try.func7, Try.ntmps7
    go_wp2_with (first | (go_at_call 15; refine (alive_any _).mono ?_; rintro e w1 ⟨rfl, hx1⟩; (first | (with_reducible obtain ⟨t1, rfl⟩ := Ext.tok2 hx1) | (obtain ⟨t1, rfl⟩ := Ext.tok hx1))) | (go_at_call 16; (with_reducible refine (HB.out _ (by repeat first | exact Ext.refl _ | assumption | refine Ext.drew ?_ | refine Ext.drewN ?_ _ | refine Ext.extBy ?_ _ | refine Ext.alloc ?_ _ | refine Ext.setCell ?_ (by simp; try omega) _ | (refine Ext.trans ?_ (by assumption)))).mono ?_); rintro e w2 ⟨rfl, hx2⟩; (first | (with_reducible obtain ⟨t2, rfl⟩ := Ext.tok2 hx2) | (obtain ⟨t2, rfl⟩ := Ext.tok hx2))) | (go_at_call 16; (with_reducible refine (HO.out _ (by repeat first | exact Ext.refl _ | assumption | refine Ext.drew ?_ | refine Ext.drewN ?_ _ | refine Ext.extBy ?_ _ | refine Ext.alloc ?_ _ | refine Ext.setCell ?_ (by simp; try omega) _ | (refine Ext.trans ?_ (by assumption)))).mono ?_); rintro e w2 ⟨rfl, hx2⟩; (first | (with_reducible obtain ⟨t2, rfl⟩ := Ext.tok2 hx2) | (obtain ⟨t2, rfl⟩ := Ext.tok hx2))))
    go_ret
    exact ⟨rfl, (by repeat first | exact Ext.refl _ | assumption | refine Ext.drew ?_ | refine Ext.drewN ?_ _ | refine Ext.extBy ?_ _ | refine Ext.alloc ?_ _ | refine Ext.setCell ?_ (by simp; try omega) _ | (refine Ext.trans ?_ (by assumption)))⟩
  · clear hb
    go_enter Try.func7, Try.ntmps7
    go_wp2_with (first | (go_at_call 15; refine (alive_any _).mono ?_; rintro e w1 ⟨rfl, hx1⟩; (first | (with_reducible obtain ⟨t1, rfl⟩ := Ext.tok2 hx1) | (obtain ⟨t1, rfl⟩ := Ext.tok hx1))) | (go_at_call 16; (with_reducible refine (HB.out _ (by repeat first | exact Ext.refl _ | assumption | refine Ext.drew ?_ | refine Ext.drewN ?_ _ | refine Ext.extBy ?_ _ | refine Ext.alloc ?_ _ | refine Ext.setCell ?_ (by simp; try omega) _ | (refine Ext.trans ?_ (by assumption)))).mono ?_); rintro e w2 ⟨rfl, hx2⟩; (first | (with_reducible obtain ⟨t2, rfl⟩ := Ext.tok2 hx2) | (obtain ⟨t2, rfl⟩ := Ext.tok hx2))))
    go_ret
    exact ⟨rfl, (by repeat first | exact Ext.refl _ | assumption | refine Ext.drew ?_ | refine Ext.drewN ?_ _ | refine Ext.extBy ?_ _ | refine Ext.alloc ?_ _ | refine Ext.setCell ?_ (by simp; try omega) _ | (refine Ext.trans ?_ (by assumption)))⟩
theorem chk_formed {c : CodeV} (h : chk c = 0) : Formed c := by
  unfold chk at h
  by_cases hz : 60000 < c.body.length ∨ 8000 < c.kinds.length ∨ 64 < c.stack
  · rw [if_pos hz] at h; cases h
  · rw [if_neg hz] at h
    cases hf : formedV c
    · rw [hf, if_pos rfl] at h; cases h
    · exact formed_of hf
theorem parse_own {c : CodeV} (hwf : CodeWf c) (h0 : chk c = 0) : parseV (codeB c) = some c := by
  have hf := chk_formed h0
  obtain ⟨h1, h2, _⟩ := chk_sizes h0
  have e : (codeB c).drop 4 = (codeNums c).flatMap numB := rfl
  have e4 : (codeB c).take 4 = [77, 84, 82, 49] := rfl
  have hq : ∀ q ∈ c.body, ∀ n ∈ [q.op, q.n, q.k], -9223372036854775808 ≤ n ∧ n < 9223372036854775808 := fun q hq n hn => by
    have hb := hwf.body q hq
    simp only [List.mem_cons, List.not_mem_nil, or_false] at hn
    rcases hn with h | h | h
    · rw [h]; exact hb.1
    · rw [h]; exact hb.2.1
    · rw [h]; exact hb.2.2
  unfold parseV
  rw [if_pos e4, e, takeV_own c hf.init (by omega) (by omega) hwf.ins hwf.outs hwf.cells hwf.stack hwf.kinds hwf.init hq, Option.bind_some, if_pos ⟨h0, rfl⟩]
theorem codeB_len {c : CodeV} (hwf : CodeWf c) (h0 : chk c = 0) : (codeB c).length ≤ 4000000 := by
  obtain ⟨h1, h2, h3⟩ := chk_sizes h0
  have e : codeB c = [77, 84, 82, 49] ++ numsB (headN c ++ c.body.flatMap fun (q : InsV) => [q.op, q.n, q.k]) := rfl
  have hb := numsB_len (headN c ++ c.body.flatMap fun (q : InsV) => [q.op, q.n, q.k]) (fun n hn => (List.mem_append.1 hn).elim (headN_I64 hwf h2 h1 n) (fun h => by
    obtain ⟨q', hq', hn'⟩ := List.mem_flatMap.1 h
    have hb := hwf.body q' hq'
    simp only [List.mem_cons, List.not_mem_nil, or_false] at hn'
    rcases hn' with h | h | h
    · rw [h]; exact hb.1
    · rw [h]; exact hb.2.1
    · rw [h]; exact hb.2.2))
  have l1 := headN_len c
  have l2 := len3 c.body
  rw [List.length_append, l1, l2] at hb
  rw [e, List.length_append]
  simp only [List.length_cons, List.length_nil]
  omega
/-- A program's own bytes are read as it. -/
theorem parseOwn_any (c : CodeV) (hwf : CodeWf c) (h0 : chk c = 0) (v : Value) (w : World) (h : SlC w v (codeB c).length (u8s (codeB c))) :
    Calls Try.prog 23 #[v] w fun e w1 => ∃ kv iv bv, e = .returned (.tuple #[codeA c kv iv bv, .int .i64 0]) ∧ CodeIn w1 kv iv bv c ∧ Ext w w1 := by
  have hlen := codeB_len hwf h0
  refine (parse_any (codeB c) v w h (codeB_bytes c)).mono ?_
  intro e w1 hr
  rw [if_neg (by omega), parse_own hwf h0] at hr
  obtain ⟨c', kv, iv, bv, rfl, rfl, hin, _, _, hx⟩ := hr
  exact ⟨kv, iv, bv, rfl, hin, hx⟩
set_option maxHeartbeats 4000000 in
theorem codeWrites_any (c o : CodeV) (kv iv bv kv' iv' bv' : Value) (w : World) (h : CodeIn w kv iv bv c) (hwf : CodeWf c) (h' : CodeIn w kv' iv' bv' o) (hwf' : CodeWf o) :
    Calls Try.prog 7 #[codeA c kv iv bv, codeA o kv' iv' bv'] w fun e w' => e = .returned (.bool true) ∧ Ext w w' := by
  by_cases hb : bigV c = true ∨ bigV o = true
  · exact big_live c o kv iv bv kv' iv' bv' w h h' hb
  have hbc : bigV c = false := by cases hq : bigV c <;> simp_all
  have hbo : bigV o = false := by cases hq : bigV o <;> simp_all
  have HB : Hid (∀ w', Ext w w' → Calls Try.prog 16 #[codeA c kv iv bv] w' fun e w1 => e = .returned (.bool false) ∧ Ext w' w1) := Lib.hid fun w' hx => by
    have := big_any c kv iv bv w' (h.ext hx); rw [hbc] at this; exact this
  have HO : Hid (∀ w', Ext w w' → Calls Try.prog 16 #[codeA o kv' iv' bv'] w' fun e w1 => e = .returned (.bool false) ∧ Ext w' w1) := Lib.hid fun w' hx => by
    have := big_any o kv' iv' bv' w' (h'.ext hx); rw [hbo] at this; exact this
  have HW : Hid (∀ w', Ext w w' → Calls Try.prog 21 #[codeA c kv iv bv] w' fun e w1 => ∃ v, e = .returned (.tuple #[v, .int .i64 (chk c)]) ∧ w1.ownsRow w'.heap.size 5 1 v (outB c).length (u8s (outB c)) ∧ Ext w' w1) := Lib.hid fun w' hx => write_any c kv iv bv w' (h.ext hx) hwf
  have HV : Hid (∀ w', Ext w w' → Calls Try.prog 21 #[codeA o kv' iv' bv'] w' fun e w1 => ∃ v, e = .returned (.tuple #[v, .int .i64 (chk o)]) ∧ w1.ownsRow w'.heap.size 5 1 v (outB o).length (u8s (outB o)) ∧ Ext w' w1) := Lib.hid fun w' hx => write_any o kv' iv' bv' w' (h'.ext hx) hwf'
  have HR : Hid (∀ w', Ext w w' → Calls Try.prog 22 #[codeA c kv iv bv] w' fun e w1 => ∃ v, e = .returned (.tuple #[v, .int .i64 (chk c)]) ∧ w1.ownsRow w'.heap.size 5 1 v (outB c).length (u8s (outB c)) ∧ Ext w' w1) := Lib.hid fun w' hx => refWrite_any c kv iv bv w' (h.ext hx) hwf
  have HP : Hid (chk c = 0 → ∀ w' v, SlC w' v (outB c).length (u8s (outB c)) → Calls Try.prog 23 #[v] w' fun e w1 => ∃ kv iv bv, e = .returned (.tuple #[codeA c kv iv bv, .int .i64 0]) ∧ CodeIn w1 kv iv bv c ∧ Ext w' w1) := Lib.hid fun h0 w' v hv => by
    have e : outB c = codeB c := by unfold outB; rw [if_pos h0]
    rw [e] at hv
    exact parseOwn_any c hwf h0 v w' hv
  have HS : Hid (∀ w' kv2 iv2 bv2, Ext w w' → CodeIn w' kv2 iv2 bv2 c → Calls Try.prog 24 #[codeA c kv2 iv2 bv2, codeA c kv iv bv] w' fun e w1 => e = .returned (.bool true) ∧ Ext w' w1) := Lib.hid fun w' kv2 iv2 bv2 hx h2 => refSameC_any c kv2 iv2 bv2 kv iv bv w' h2 (h.ext hx)
  have hlB : (outB c).length ≤ 4000000 := by
    unfold outB
    by_cases h0 : chk c = 0
    · rw [if_pos h0]; exact codeB_len hwf h0
    · rw [if_neg h0]; simp
  have hlO : (outB o).length ≤ 4000000 := by
    unfold outB
    by_cases h0 : chk o = 0
    · rw [if_pos h0]; exact codeB_len hwf' h0
    · rw [if_neg h0]; simp
  obtain ⟨x, hx⟩ : ∃ x, x = chk c := ⟨_, rfl⟩
  obtain ⟨B, hB⟩ : ∃ B, B = outB c := ⟨_, rfl⟩
  obtain ⟨y, hy⟩ : ∃ y, y = chk o := ⟨_, rfl⟩
  obtain ⟨D, hD⟩ : ∃ D, D = outB o := ⟨_, rfl⟩
  rw [← hx, ← hB] at HW HR HP
  rw [← hy, ← hD] at HV
  rw [← hB] at hlB
  rw [← hD] at hlO
  clear hb hbc hbo hx hB hy hD h h'
  simp only [codeA] at HB HO HW HV HR HP HS ⊢
  go_enter Try.func7, Try.ntmps7
  go_upto_region 5 with (first | (go_at_call 15; refine (alive_any _).mono ?_; rintro e w1 ⟨rfl, hx1⟩; (first | (with_reducible obtain ⟨t1, rfl⟩ := Ext.tok2 hx1) | (obtain ⟨t1, rfl⟩ := Ext.tok hx1))) | (go_at_call 16; (with_reducible refine (HB.out _ (by repeat first | exact Ext.refl _ | assumption | refine Ext.drew ?_ | refine Ext.drewN ?_ _ | refine Ext.extBy ?_ _ | refine Ext.alloc ?_ _ | refine Ext.setCell ?_ (by simp; try omega) _ | (refine Ext.trans ?_ (by assumption)))).mono ?_); rintro e w2 ⟨rfl, hx2⟩; (first | (with_reducible obtain ⟨t2, rfl⟩ := Ext.tok2 hx2) | (obtain ⟨t2, rfl⟩ := Ext.tok hx2))) | (go_at_call 16; (with_reducible refine (HO.out _ (by repeat first | exact Ext.refl _ | assumption | refine Ext.drew ?_ | refine Ext.drewN ?_ _ | refine Ext.extBy ?_ _ | refine Ext.alloc ?_ _ | refine Ext.setCell ?_ (by simp; try omega) _ | (refine Ext.trans ?_ (by assumption)))).mono ?_); rintro e w2 ⟨rfl, hx2⟩; (first | (with_reducible obtain ⟨t2, rfl⟩ := Ext.tok2 hx2) | (obtain ⟨t2, rfl⟩ := Ext.tok hx2))))
  go_upto_region 7 with (first | (go_at_call 21; (with_reducible refine (HW.out _ (by repeat first | exact Ext.refl _ | assumption | refine Ext.drew ?_ | refine Ext.drewN ?_ _ | refine Ext.extBy ?_ _ | refine Ext.alloc ?_ _ | refine Ext.setCell ?_ (by simp; try omega) _ | (refine Ext.trans ?_ (by assumption)))).mono ?_); rintro e w3 ⟨vb, rfl, hob, hx3⟩; obtain ⟨ab, cb, rfl, hb1, hb2, -⟩ := SlC.of_owns hob; (first | (with_reducible obtain ⟨t3, rfl⟩ := Ext.tok2 hx3) | (obtain ⟨t3, rfl⟩ := Ext.tok hx3))) | (go_at_call 21; (with_reducible refine (HV.out _ (by repeat first | exact Ext.refl _ | assumption | refine Ext.drew ?_ | refine Ext.drewN ?_ _ | refine Ext.extBy ?_ _ | refine Ext.alloc ?_ _ | refine Ext.setCell ?_ (by simp; try omega) _ | (refine Ext.trans ?_ (by assumption)))).mono ?_); rintro e w4 ⟨vd, rfl, hod, hx4⟩; obtain ⟨ad, cd, rfl, hd1, hd2, -⟩ := SlC.of_owns hod; (first | (with_reducible obtain ⟨t4, rfl⟩ := Ext.tok2 hx4) | (obtain ⟨t4, rfl⟩ := Ext.tok hx4))))
  have hwb := nat64 hb1 hb2
  have hwd := nat64 hd1 hd2
  clear hb1 hb2 hd1 hd2 hx1 hx2 hx3 HB HO HW HV
  have HBX : Hid (∀ w', Ext (((w.alloc (.cells #[kv, .int .i64 c.ins, .int .i64 c.outs, .int .i64 c.cells, .int .i64 c.stack, iv, bv] 25)).alloc (.cells #[kv', .int .i64 o.ins, .int .i64 o.outs, .int .i64 o.cells, .int .i64 o.stack, iv', bv'] 25)).extBy t3) w' → w'.cell? ⟨w.heap.size, 0, none⟩ = some kv ∧ w'.cell? ⟨w.heap.size, 1, none⟩ = some (.int .i64 c.ins) ∧ w'.cell? ⟨w.heap.size, 2, none⟩ = some (.int .i64 c.outs) ∧ w'.cell? ⟨w.heap.size, 3, none⟩ = some (.int .i64 c.cells) ∧ w'.cell? ⟨w.heap.size, 4, none⟩ = some (.int .i64 c.stack) ∧ w'.cell? ⟨w.heap.size, 5, none⟩ = some iv ∧ w'.cell? ⟨w.heap.size, 6, none⟩ = some bv) := Lib.hid fun w' hx => ⟨hx.cell (by go_simp), hx.cell (by go_simp), hx.cell (by go_simp), hx.cell (by go_simp), hx.cell (by go_simp), hx.cell (by go_simp), hx.cell (by go_simp)⟩
  have hw6 : Ext w (((w.alloc (.cells #[kv, .int .i64 c.ins, .int .i64 c.outs, .int .i64 c.cells, .int .i64 c.stack, iv, bv] 25)).alloc (.cells #[kv', .int .i64 o.ins, .int .i64 o.outs, .int .i64 o.cells, .int .i64 o.stack, iv', bv'] 25)).extBy t3) := (((Ext.refl w).alloc _).alloc _).trans (Ext.by _ t3)
  have hbs : w.heap.size < (((w.alloc (.cells #[kv, .int .i64 c.ins, .int .i64 c.outs, .int .i64 c.cells, .int .i64 c.stack, iv, bv] 25)).alloc (.cells #[kv', .int .i64 o.ins, .int .i64 o.outs, .int .i64 o.cells, .int .i64 o.stack, iv', bv'] 25)).extBy t3).heap.size := by simp; omega
  generalize ((w.alloc (.cells #[kv, .int .i64 c.ins, .int .i64 c.outs, .int .i64 c.cells, .int .i64 c.stack, iv, bv] 25)).alloc (.cells #[kv', .int .i64 o.ins, .int .i64 o.outs, .int .i64 o.cells, .int .i64 o.stack, iv', bv'] 25)).extBy t4 = w7 at hod hx4 ⊢
  generalize ((w.alloc (.cells #[kv, .int .i64 c.ins, .int .i64 c.outs, .int .i64 c.cells, .int .i64 c.stack, iv, bv] 25)).alloc (.cells #[kv', .int .i64 o.ins, .int .i64 o.outs, .int .i64 o.cells, .int .i64 o.stack, iv', bv'] 25)).extBy t3 = w6 at hob hod hx4 HBX hw6 hbs
  have HOB : Hid (∀ w', Ext w6 w' → SlC w' (.slice ab B.length cb) B.length (u8s B)) := Lib.hid fun w' hx => (SlC.of_owns hob).ext hx
  clear hob
  go_wp2
  go_loopw [11] (fun i wr => ∃ (j : Nat) (xs : List Int), j ≤ D.length ∧ i = .int .i64 j ∧ xs.length = D.length ∧ wr.ownsRow w6.heap.size 5 1 (.slice ad D.length cd) D.length (u8s xs) ∧ Ext w6 wr) (fun i _ => D.length - (intOf i).toNat)
  case atStart => exact ⟨0, D, Nat.zero_le _, rfl, rfl, hod, hx4⟩
  case round =>
    obtain ⟨j, xs, hj, rfl, hxl, hox, hxr⟩ := hrel
    by_cases hlt : j < D.length
    · obtain ⟨y', hy'⟩ : ∃ y', xs[j]? = some y' := ⟨_, List.getElem?_eq_getElem (by omega)⟩
      obtain ⟨g, cg, e1, hgb, -, hgl⟩ := ownsRow_some hox (by omega)
      simp only [Value.slice.injEq] at e1
      obtain ⟨rfl, -, rfl⟩ := e1
      obtain ⟨hc1, hf1⟩ := own_cell1 hox j (.int .u8 y') (by simp [hy'])
      clear hy' hod
      go_wp2
      go_roundw
      case rel => exact ⟨j + 1, xs.set j (bits .xor .u8 y' 255), by omega, by go_num, by simpa using hxl, by have := own_set1 hox j hlt (.int .u8 (bits .xor .u8 y' 255)); simpa [List.map_set] using this, hxr.setCell hgb _⟩
      case measure => simp [intOf]; omega
    · obtain rfl : j = D.length := by omega
      obtain ⟨p0, p1, p2, p3, p4, p5, p6⟩ := HBX.out _ hxr
      have hwr := hw6.trans hxr
      clear hox hod hx4
      go_upto_region 12 with (first | (go_at_call 22; (with_reducible refine (HR.out _ (by repeat first | exact Ext.refl _ | assumption | refine Ext.drew ?_ | refine Ext.drewN ?_ _ | refine Ext.extBy ?_ _ | refine Ext.alloc ?_ _ | refine Ext.setCell ?_ (by simp; try omega) _ | (refine Ext.trans ?_ (by assumption)))).mono ?_); rintro e w8 ⟨vw, rfl, how, hx8⟩; obtain ⟨aw, cw, rfl, hw1, hw2, -⟩ := SlC.of_owns how))
      have hE8 : Ext w6 w8 := hxr.trans hx8
      have hw8 : Ext w w8 := hwr.trans hx8
      have hbs8 : w.heap.size < w8.heap.size := Nat.lt_of_lt_of_le hbs hE8.size
      have hsb := HOB.out w8 hE8
      have s1 := run_str 38 5 Try.underlying38 Try.underlying5 hsb 9 Try.underlying9
      have s2 := run_str 38 5 Try.underlying38 Try.underlying5 (SlC.of_owns how) 9 Try.underlying9
      obtain ⟨r0, r1, r2, r3, r4, r5, r6⟩ := HBX.out _ hE8
      clear p0 p1 p2 p3 p4 p5 p6 how hw1 hw2 hx8 HR hx2 hj hlt
      by_cases h0 : x = 0
      · subst h0
        have HP' : Hid (∀ w' v, SlC w' v B.length (u8s B) → _) := Lib.hid (HP.out rfl)
        go_upto_region 16 with (first | (go_at_call 18; refine (num19_any _ _).mono ?_; rintro e w9 ⟨rfl, rfl⟩))
        clear s1 s2
        go_upto_region 17 with (first | (go_at_call 23; (with_reducible refine (HP'.out _ _ hsb).mono ?_); rintro e w9 ⟨kv2, iv2, bv2, rfl, hin2, hx9⟩; obtain ⟨ka2, kc2, rfl, -⟩ := hin2.kinds; obtain ⟨ia2, ic2, rfl, -⟩ := hin2.init; obtain ⟨ba2, bc2, rfl, -⟩ := hin2.body; (first | (with_reducible obtain ⟨t9, rfl⟩ := Ext.tok2 hx9) | (obtain ⟨t9, rfl⟩ := Ext.tok hx9))))
        have hw9 : Ext w (w8.extBy t9) := hw8.trans (Ext.by _ _)
        go_wp2_with (first | (go_at_call 18; refine (num19_any _ _).mono ?_; rintro e w9 ⟨rfl, rfl⟩) | (go_at_call 24; (with_reducible refine (HS.out _ _ _ _ (hw9.alloc _) (hin2.ext ((Ext.refl _).alloc _))).mono ?_); rintro e w10 ⟨rfl, hx10⟩))
        go_ret
        exact ⟨rfl, (hw9.alloc _).trans hx10⟩
      · have hx0 : (x != 0) = true := by simpa using h0
        clear HP h0
        go_wp2_with (first | (go_at_call 18; refine (num19_any _ _).mono ?_; rintro e w9 ⟨rfl, rfl⟩))
        go_ret
        exact ⟨rfl, hw8⟩
end Go.Proofs.Ytipfcfaigbeakaa

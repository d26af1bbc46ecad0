/-
  AppendInt of a number from 100 on onto a slice that is full and of which nothing is known but its cells.
  Conditions: the library's table of powers is laid.
-/
import Derived.ArgAppend
import Derived.Test.YtlikmdeplpldlaaDoorShAJ
namespace Go.Proofs.YtlikmdeplpldlaaDoor
open Go.RowKit Go.Lib Go.Sort
set_option linter.unusedSimpArgs false
set_option linter.unusedVariables false
set_option maxRecDepth 100000

set_option maxHeartbeats 12800000 in
set_option maxRecDepth 100000 in
theorem appendUint_big (g n u : Nat) (hu : 100 ≤ u) (hu64 : u < 18446744073709551616) (xs : List Value) (w : World) (hxl : xs.length = n) (hc : ∀ j x, xs[j]? = some x → w.cell? ((⟨g, 0, none⟩ : Addr).add j) = some x) (hlim : n + 21 ≤ 140737488355328)
    (htab : Lib.TabIs Tryd.prog w "internal/strconv.uint64pow10" .u64 Lib.pow10Tab) :
    Calls Tryd.prog 45 #[.slice (some ⟨g, 0, none⟩) n n, .int .u64 (u : Int), .int .i64 10] w fun e w' => ∃ v', e = .returned v' ∧ w'.ownsRow w.heap.size 5 1 v' (n + (Lib.decDigits u).length) (xs ++ Lib.byteCells (Lib.decDigits u)) ∧ Ext w w' := by
  obtain ⟨i0, hi, hz0, hz1, hz2⟩ := info_parts infoByte
  have hu1 : 1 ≤ u := by omega
  have hnd20 : Lib.nDigits u ≤ 20 := by have := Lib.numDigits_eq u hu1 hu64; split at this <;> omega
  have hnd1 : 0 < Lib.nDigits u := by rw [Lib.nDigits_big (by omega)]; omega
  have hal : Tryd.prog.arrayLen 100 = 24 := by kernel_rfl
  have hsl : ∀ W, (Instr.sliceAt 100 (.pointer (some ⟨w.heap.size, 0, none⟩)) none (some (.int .i64 (Lib.nDigits u : Int))) none).run Tryd.prog W = .ok (.slice (some ⟨w.heap.size, 0, none⟩) (Lib.nDigits u) 24) W := fun W => by
    rw [run_sliceAt_array_h W 100 ⟨w.heap.size, 0, none⟩ (by kernel_rfl) .i64 (Lib.nDigits u : Int) (by omega) (by rw [hal]; omega)]
    go_simp
  have hH0 := Lib.holds_zero0 w 100 (Lib.nDigits u) (by omega)
  have hfmt := Any.internal_strconv_formatBase10 { Tryd.laysAI with } w.heap.size 0 24 u (Array.replicate (Lib.nDigits u) 0) (w.alloc (.cells Lib.zeros24 100)) hH0 (by rw [Array.size_replicate]; exact Lib.lt_pow_nDigits u) hu64 (by rw [Array.size_replicate]; omega)
  rw [Array.size_replicate] at hfmt
  have HFM := Lib.hid hfmt
  have HH0 := Lib.hid hH0
  have HC := Lib.hid hc
  have HT := Lib.hid htab
  have iu : (100 : Int) ≤ (u : Int) := by omega
  clear hH0 hal hfmt hc htab
  go_enter Tryd.func45, Tryd.ntmps45
  go_wp2_with (go_at_call 60; refine (Any.internal_strconv_numDigits { Tryd.laysAI with } u hu1 hu64 _ (Lib.tabIs_alloc HT.out _)).mono ?_; rintro e w' ⟨rfl, rfl⟩)
  refine HFM.out.mono ?_
  rintro e w' ⟨rfl, k, v', dk, rfl, hF⟩
  have hcells : ∀ j u', (Lib.byteCells (Lib.decDigits u))[j]? = some u' → ((putRow (fun (b : UInt8) => Value.int .u8 (b.toNat : Int)) (w.alloc (.cells Lib.zeros24 100)) w.heap.size 0 dk).drewN k).cell? ((⟨w.heap.size, 0, none⟩ : Addr).add j) = some u' := fun j u' hj => by
    have hjl : j < (Lib.decDigits u).length := by
      have h5 := (List.getElem?_eq_some_iff.1 hj).1
      rwa [Lib.byteCells_length] at h5
    have e5 : (Lib.byteCells (Lib.decDigits u))[j]? = some (Value.int .u8 ((Lib.decDigits u)[j].toNat : Int)) := by simp [Lib.byteCells, hjl]
    rw [e5] at hj
    cases hj
    rw [Lib.row_is_numeral hF j hjl, Lib.add_plain, World.cell?_drewN]
    exact cell?_putRow (fun (b : UInt8) => Value.int .u8 (b.toNat : Int)) _ w.heap.size 0 _ dk HH0.out (by rw [hF.size, Array.size_replicate]) j (by rw [hF.size]; rw [Lib.decDigits_length] at hjl; exact hjl)
  obtain ⟨os, eo⟩ := Lib.fin_at w (.cells Lib.zeros24 100) dk k 0
  have hx2 : Ext w ((putRow (fun (b : UInt8) => Value.int .u8 (b.toNat : Int)) (w.alloc (.cells Lib.zeros24 100)) w.heap.size 0 dk).drewN k) := by rw [eo]; exact Lib.below_grow w.heap.size w (Nat.le_refl _) k os
  have HCL := Lib.hid hcells
  have HX2 := Lib.hid hx2
  clear hcells eo hx2 HFM HH0
  generalize (putRow (fun (b : UInt8) => Value.int .u8 (b.toNat : Int)) (w.alloc (.cells Lib.zeros24 100)) w.heap.size 0 dk).drewN k = W2 at HCL HX2 ⊢
  have hold : Hid (∀ b, (some ⟨g, 0, none⟩ : Option Addr) = some b → ∀ j x, xs[j]? = some x → W2.cell? (b.add j) = some x) := Lib.hid fun b hb j x hx => by
    cases hb
    have h0 := HC.out j x hx
    rw [Lib.add_plain] at h0 ⊢
    exact HX2.out.cell h0
  have c0 : (Lib.byteCells (Lib.decDigits u)).length = Lib.nDigits u * 1 := by rw [Lib.byteCells_length, Lib.decDigits_length, Nat.mul_one]
  have c2 : Hid (∀ x ∈ Lib.byteCells (Lib.decDigits u), x.oneCell' = true) := Lib.hid (Lib.byteCells_one _)
  have C0 := Lib.hid c0
  clear c0
  go_wp2_with (at_builtin; refine wpList_append_grows _ rfl (.tmp 24) (.tmp 26) 64 rfl 5 i0 (.int .u8 0) 1 1 Tryd.underlying64 hi hz0 hz1 hz2 rfl (by decide) (some ⟨g, 0, none⟩) n n xs rfl (fun h => by cases h) (by rw [hxl, Nat.mul_one]) hold.out ⟨w.heap.size, 0, none⟩ (Lib.nDigits u) 24 (Lib.byteCells (Lib.decDigits u)) rfl C0.out HCL.out c2.out (by omega) (by unfold maxLen; omega) (by omega) ?_; intro v2 w3 hown' hgrow; have HP := Lib.hid (And.intro hown' hgrow); clear hown' hgrow)
  go_ret
  obtain ⟨h1, h2⟩ := HP.out
  rw [Lib.decDigits_length]
  exact ⟨v2, rfl, ownsRow_base h1 HX2.out.size, HX2.out.trans ⟨h2.os, h2.tape, h2.output, h2.size, fun k hk => h2.block k hk (by simp)⟩⟩
set_option maxHeartbeats 2000000 in
theorem appendIntI_fullT (g n u : Nat) (hu : u < 9223372036854775807) (xs : List Value) (w : World) (hxl : xs.length = n) (hc : ∀ j x, xs[j]? = some x → w.cell? ((⟨g, 0, none⟩ : Addr).add j) = some x) (hlim : n + 21 ≤ 140737488355328)
    (htab : Lib.TabIs Tryd.prog w "internal/strconv.uint64pow10" .u64 Lib.pow10Tab) :
    Calls Tryd.prog 40 #[.slice (some ⟨g, 0, none⟩) n n, .int .i64 (u : Int), .int .i64 10] w fun e w' => ∃ v', e = .returned v' ∧ w'.ownsRow w.heap.size 5 1 v' (n + (Lib.decDigits u).length) (xs ++ Lib.byteCells (Lib.decDigits u)) ∧ Ext w w' := by
  have hall : Calls Tryd.prog 45 #[.slice (some ⟨g, 0, none⟩) n n, .int .u64 (u : Int), .int .i64 10] w fun e w' => ∃ v', e = .returned v' ∧ w'.ownsRow w.heap.size 5 1 v' (n + (Lib.decDigits u).length) (xs ++ Lib.byteCells (Lib.decDigits u)) ∧ Ext w w' := by
    by_cases h : u < 100
    · exact appendUint_full g n u h xs w hxl hc hlim
    · exact appendUint_big g n u (by omega) (by omega) xs w hxl hc hlim htab
  have HA := Lib.hid hall
  have hu2 : (u : Int) < 9223372036854775807 := by omega
  have hn : ¬ (u : Int) < 0 := by omega
  clear hc hall htab
  go_enter Tryd.func40, Tryd.ntmps40
  go_wp2_with (go_at_call 45; refine HA.out.mono ?_; rintro e w' ⟨v', rfl, hown', hx'⟩)
  go_ret
  exact ⟨v', rfl, hown', hx'⟩
set_option maxHeartbeats 2000000 in
/-- A number that is not below nought, appended to a full slice. -/
theorem appendInt_fullT (g n u : Nat) (hu : u < 9223372036854775807) (xs : List Value) (w : World) (hxl : xs.length = n) (hc : ∀ j x, xs[j]? = some x → w.cell? ((⟨g, 0, none⟩ : Addr).add j) = some x) (hlim : n + 21 ≤ 140737488355328)
    (htab : Lib.TabIs Tryd.prog w "internal/strconv.uint64pow10" .u64 Lib.pow10Tab) :
    Calls Tryd.prog 34 #[.slice (some ⟨g, 0, none⟩) n n, .int .i64 (u : Int), .int .i64 10] w fun e w' => ∃ v', e = .returned v' ∧ w'.ownsRow w.heap.size 5 1 v' (n + (Lib.itoa (u : Int)).length) (xs ++ Lib.byteCells (Lib.itoa (u : Int))) ∧ Ext w w' := by
  rw [show Lib.itoa (u : Int) = Lib.decDigits u from Lib.itoa_nonneg u]
  have HA := Lib.hid (appendIntI_fullT g n u hu xs w hxl hc hlim htab)
  clear hc htab
  go_enter Tryd.func34, Tryd.ntmps34
  go_wp2_with (go_at_call 40; refine HA.out.mono ?_; rintro e w' ⟨v', rfl, hown', hx'⟩)
  go_ret
  exact ⟨v', rfl, hown', hx'⟩
end Go.Proofs.YtlikmdeplpldlaaDoor

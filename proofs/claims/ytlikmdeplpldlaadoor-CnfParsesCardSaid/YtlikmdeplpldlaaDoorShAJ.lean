/-
  AppendInt of a small number onto a slice that is full and of which nothing is known but its cells.
  Conditions: the number is from 0 to 99.
-/
import Derived.Lib.AppendStr
import Derived.Lib.ItoaLen
import Derived.Test.YtlikmdeplpldlaaDoorShAI
import Derived.Test.YtlikmdeplpldlaaDoorGen
namespace Go.Proofs.YtlikmdeplpldlaaDoor
open Go.RowKit
set_option linter.unusedSimpArgs false
set_option linter.unusedVariables false
set_option maxRecDepth 100000

section
variable {P : Program} (w : World)
theorem run_append_full_string (t u ty e : TypeId) (i : TypeInfo) (ht : P.underlying t = some (.slice e)) (hu : P.underlying u = some .string) (hi : P.info? e = some i) (hz : i.zero = some (.int .u8 0))
    (hsize : i.size = 1) (hby : i.bytes = 1) (g n : Nat) (xs : List Value) (hxl : xs.length = n) (hc : ∀ j x, xs[j]? = some x → w.cell? ((⟨g, 0, none⟩ : Addr).add j) = some x) (s : ByteArray) (hs : 0 < s.size)
    (hbytes : n + s.size ≤ 140737488355328) :
    ∃ v' w', (Builtin.append_ #[t, u] ty #[.slice (some ⟨g, 0, none⟩) n n, .string s]).run P w = .ok v' w' ∧ w'.ownsRow w.heap.size e 1 v' (n + s.size) (xs ++ Lib.strCells s) ∧ w.grownBy w' none := by
  have h63 : n + s.size ≤ maxLen := by unfold maxLen; omega
  have hr := Lib.run_append_grow_string (P := P) w t u ty e i (.int .u8 0) ht hu hi hz ⟨g, 0, none⟩ n n xs (by rw [hsize]; omega) hc s (by omega) (by omega) (by rw [hby]; exact growslice_fits (by omega) (by omega))
  have hge := grownCap_ge w (n + s.size) n e
  have hcm : grownCap w (n + s.size) n e ≤ maxLen := grownCap_le_maxLen w (n + s.size) n e h63
  have hlen : (xs ++ Lib.strCells s).length = (n + s.size) * 1 := by rw [List.length_append, hxl, Lib.strCells_length, Nat.mul_one]
  refine ⟨_, _, hr, ⟨hlen, .inr ⟨w.heap.size, _, _, rfl, Nat.le_refl _, heap_alloc_new w.drew _, hge, hcm, ?_, ?_⟩⟩, ⟨rfl, rfl, rfl, by simp, fun k hk _ => by have := Below.block ((Ext.refl w).drew.alloc (.cells (xs.toArray ++ (Lib.strCells s).toArray ++ Builtin.zeroCells (Value.int .u8 0).cells (grownCap w (n + s.size) n e - (n + s.size))) e)) k hk; exact this⟩⟩
  · have hz1 : (Value.int IntKind.u8 0).cells.size = 1 := rfl
    simp only [Array.size_append, List.size_toArray, size_zeroCells, hz1, hxl, Lib.strCells_length]
    omega
  · simp only [Array.toList_append, List.append_assoc]
    rw [← List.append_assoc, ← hlen]
    exact List.take_left
theorem wpList_append_full_string {ops : Array Oper} {rest : List Oper} {o : Oper} {a : Act} {Q : Exit → Act → World → Prop} (hgd : o.guard = none) (sl x : Operand) (t u : TypeId)
    (ho : o.op = .call { callee := .builtin .append, args := #[sl, x], argTypes := #[t, u] })
    (e : TypeId) (i : TypeInfo) (ht : P.underlying t = some (.slice e)) (hu : P.underlying u = some .string) (hi : P.info? e = some i) (hz : i.zero = some (.int .u8 0))
    (hsize : i.size = 1) (hby : i.bytes = 1) (g n : Nat) (xs : List Value) (hsl : a.eval sl = .slice (some ⟨g, 0, none⟩) n n) (hxl : xs.length = n) (hc : ∀ j x, xs[j]? = some x → w.cell? ((⟨g, 0, none⟩ : Addr).add j) = some x) (s : ByteArray) (hx : a.eval x = .string s) (hs : 0 < s.size)
    (hbytes : n + s.size ≤ 140737488355328)
    (h : ∀ v' w', w'.ownsRow w.heap.size e 1 v' (n + s.size) (xs ++ Lib.strCells s) → w.grownBy w' none → wpList P ops Q rest (a.put o.dst v') w') : wpList P ops Q (o :: rest) a w := by
  refine wpList_plain hgd fun K hK => ?_
  obtain ⟨v', w', hr, h2, h3⟩ := run_append_full_string (P := P) w t u o.type e i ht hu hi hz hsize hby g n xs hxl hc s hs hbytes
  unfold Oper.wp execOp
  simp only [ho, resolve, invoke, builtin, Sem.run_bind, Sem.run_pure, Result.andThen_ok, List.map_toArray, List.map_cons, List.map_nil, hsl, hx, hr]
  exact hK _ _ (h v' w' h2 h3)
end
theorem infoByte : (Tryd.prog.info? 5).map (fun i => (i.zero, i.size, i.bytes)) = some (some (.int .u8 0), 1, 1) := by kernel_rfl
theorem small_any (u : Nat) (hu : u < 100) (w : World) : Calls Tryd.prog 59 #[.int .i64 (u : Int)] w fun e w' => e = .returned (.string ⟨(Lib.decDigits u).toArray⟩) ∧ w' = w := Any.internal_strconv_small { Tryd.laysAI with } u hu w
set_option maxHeartbeats 2000000 in
theorem appendUint_full (g n u : Nat) (hu : u < 100) (xs : List Value) (w : World) (hxl : xs.length = n) (hc : ∀ j x, xs[j]? = some x → w.cell? ((⟨g, 0, none⟩ : Addr).add j) = some x) (hlim : n + 21 ≤ 140737488355328) :
    Calls Tryd.prog 45 #[.slice (some ⟨g, 0, none⟩) n n, .int .u64 (u : Int), .int .i64 10] w fun e w' => ∃ v', e = .returned v' ∧ w'.ownsRow w.heap.size 5 1 v' (n + (Lib.decDigits u).length) (xs ++ Lib.byteCells (Lib.decDigits u)) ∧ Ext w w' := by
  obtain ⟨i0, hi, hz0, hz1, hz2⟩ := info_parts infoByte
  have hlen : (Lib.decDigits u).length ≤ 20 := by
    rw [Lib.decDigits_length]
    by_cases h10 : u < 10
    · rw [Lib.nDigits_small h10]; omega
    · rw [Lib.nDigits_big h10, Lib.nDigits_small (show u / 10 < 10 by omega)]; omega
  have hpos : 0 < (Lib.decDigits u).length := by
    rw [Lib.decDigits_length]
    by_cases h10 : u < 10
    · rw [Lib.nDigits_small h10]; omega
    · rw [Lib.nDigits_big h10]; omega
  have hsz : (⟨(Lib.decDigits u).toArray⟩ : ByteArray).size = (Lib.decDigits u).length := by simp [ByteArray.size]
  have HC := Lib.hid hc
  have hu2 : (u : Int) < 100 := by omega
  clear hc
  go_enter Tryd.func45, Tryd.ntmps45
  go_wp2_with (first
    | (go_at_call 59; refine (small_any u hu _).mono ?_; rintro e w' ⟨rfl, rfl⟩)
    | (at_builtin; refine wpList_append_full_string _ rfl _ _ 64 9 rfl 5 i0 Tryd.underlying64 Tryd.underlying9 hi hz0 hz1 hz2 g n xs rfl hxl HC.out ⟨(Lib.decDigits u).toArray⟩ rfl (by rw [hsz]; exact hpos) (by rw [hsz]; omega) ?_; intro v' w1 hown' hgrow; have HP := Lib.hid (And.intro hown' hgrow); clear hown' hgrow))
  go_ret
  obtain ⟨hown', hgrow⟩ := HP.out
  rw [hsz] at hown'
  exact ⟨v', rfl, hown', ⟨hgrow.os, hgrow.tape, hgrow.output, hgrow.size, fun k hk => hgrow.block k hk (by simp)⟩⟩
set_option maxHeartbeats 2000000 in
theorem appendIntI_full (g n u : Nat) (hu : u < 100) (xs : List Value) (w : World) (hxl : xs.length = n) (hc : ∀ j x, xs[j]? = some x → w.cell? ((⟨g, 0, none⟩ : Addr).add j) = some x) (hlim : n + 21 ≤ 140737488355328) :
    Calls Tryd.prog 40 #[.slice (some ⟨g, 0, none⟩) n n, .int .i64 (u : Int), .int .i64 10] w fun e w' => ∃ v', e = .returned v' ∧ w'.ownsRow w.heap.size 5 1 v' (n + (Lib.decDigits u).length) (xs ++ Lib.byteCells (Lib.decDigits u)) ∧ Ext w w' := by
  have hu2 : (u : Int) < 100 := by omega
  have hn : ¬ (u : Int) < 0 := by omega
  have HC := Lib.hid hc
  clear hc
  go_enter Tryd.func40, Tryd.ntmps40
  go_wp2_with (go_at_call 45; refine (appendUint_full g n u hu xs _ hxl HC.out hlim).mono ?_; rintro e w' ⟨v', rfl, hown', hx'⟩)
  go_ret
  exact ⟨v', rfl, hown', hx'⟩
set_option maxHeartbeats 2000000 in
/-- A number from 0 to 99, appended to a full slice. -/
theorem appendInt_full (g n u : Nat) (hu : u < 100) (xs : List Value) (w : World) (hxl : xs.length = n) (hc : ∀ j x, xs[j]? = some x → w.cell? ((⟨g, 0, none⟩ : Addr).add j) = some x) (hlim : n + 21 ≤ 140737488355328) :
    Calls Tryd.prog 34 #[.slice (some ⟨g, 0, none⟩) n n, .int .i64 (u : Int), .int .i64 10] w fun e w' => ∃ v', e = .returned v' ∧ w'.ownsRow w.heap.size 5 1 v' (n + (Lib.itoa (u : Int)).length) (xs ++ Lib.byteCells (Lib.itoa (u : Int))) ∧ Ext w w' := by
  rw [show Lib.itoa (u : Int) = Lib.decDigits u from Lib.itoa_nonneg u]
  have HC := Lib.hid hc
  clear hc
  go_enter Tryd.func34, Tryd.ntmps34
  go_wp2_with (go_at_call 40; refine (appendIntI_full g n u hu xs _ hxl HC.out hlim).mono ?_; rintro e w' ⟨v', rfl, hown', hx'⟩)
  go_ret
  exact ⟨v', rfl, hown', hx'⟩
end Go.Proofs.YtlikmdeplpldlaaDoor

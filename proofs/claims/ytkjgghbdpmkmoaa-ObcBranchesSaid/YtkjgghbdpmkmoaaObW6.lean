/-
  The walk: a name is put into the checker's map.
  Condition: the step code and its checker lie in memory.
-/
import Derived.Test.YtkjgghbdpmkmoaaObCk
namespace Go.Proofs.Ytkjgghbdpmkmoaa
open Go.RowKit Go.Maps
set_option linter.unusedSimpArgs false
set_option linter.unusedVariables false
set_option maxRecDepth 100000

def whatV (k i : Int) : Value := .agg #[.int .i64 k, .int .i64 i]
def ntL (t : NT) : List (ByteArray × Value) := t.map fun e => (e.1, whatV e.2.1 e.2.2)
theorem find_nt (n : ByteArray) : ∀ t : NT, findS (ntL t) n = (lookN t n).map fun p => whatV p.1 p.2
  | [] => rfl
  | e :: t => by
    have ih := find_nt n t
    by_cases h : e.1 = n
    · subst h
      simp [findS, ntL, lookN]
    · have h1 : findS (ntL (e :: t)) n = findS (ntL t) n := findS_other h _ _
      rw [h1, ih]
      unfold lookN
      rw [List.find?_cons_of_neg (by simpa using h)]
theorem find_nt_get (t : NT) (n : ByteArray) : (findS (ntL t) n).getD (whatV 0 0) = whatV (kindN t n) (isN t n) := by
  rw [find_nt]
  unfold kindN isN
  cases lookN t n with
  | none => rfl
  | some p => rfl
/-- One name more. -/
def putOne (t : NT) (n : ByteArray) (k i : Int) : NT × Bool := if (lookN t n).isSome then (t, false) else ((n, k, i) :: t, true)
theorem zeroWhat (w : World) : (zeroValue 76).run Try.prog w = .ok (whatV 0 0) w := by kernel_rfl
@[go_sem] theorem whatField0 (x y : Value) (w : World) : Sem.run Try.prog (Instr.field 76 (.agg #[x, y]) 0) w = .ok x w := by kernel_rfl
@[go_sem] theorem whatField1 (x y : Value) (w : World) : Sem.run Try.prog (Instr.field 76 (.agg #[x, y]) 1) w = .ok y w := by kernel_rfl
section
variable {W0 w w' : World} {x : S5} {X M : Nat} {t : NT} {c : Int}
theorem CK.look (h : CK W0 x X M (ntL t) c w) {n : ByteArray} (hn : n.size ≤ maxLen) : (Instr.lookup 54 (.map (some M)) (.string n) false).run Try.prog w = .ok (whatV (kindN t n) (isN t n)) w := by
  rw [← find_nt_get]
  exact h.map.look Try.underlying9 Try.underlying54 (zeroWhat w) hn
theorem CK.look_ok (h : CK W0 x X M (ntL t) c w) {n : ByteArray} (hn : n.size ≤ maxLen) : (Instr.lookup 54 (.map (some M)) (.string n) true).run Try.prog w = .ok (.tuple #[whatV (kindN t n) (isN t n), .bool (lookN t n).isSome]) w := by
  have := h.map.look_ok Try.underlying9 Try.underlying54 (zeroWhat w) hn
  rw [find_nt_get] at this
  rw [this, find_nt]
  cases lookN t n <;> rfl
theorem CK.put (h : CK W0 x X M (ntL t) c w) {n : ByteArray} (hn : n.size ≤ maxLen) (hl : t.length ≤ 100000) (k i : Int) : ∃ w', (Instr.mapUpdate 54 (.map (some M)) (.string n) (.agg #[.int .i64 k, .int .i64 i])).run Try.prog w = .ok () w' ∧ Kb [M] w w' ∧ CK W0 x X M (ntL ((n, k, i) :: t)) c w' := by
  obtain ⟨w', h1, h2, h3⟩ := h.map.put Try.underlying9 Try.underlying54 (by unfold ntL maxLen; simp; omega) hn (.agg #[.int .i64 k, .int .i64 i])
  have hk : Kb [M] w w' := Kb.grown h3 (fun g hg => by simp at hg; simp [hg])
  exact ⟨w', h1, hk, { h with ext := hk.ext h.ext (by simpa using h.nm), box := h.box.kb hk (by simpa using h.ne), map := h2 }⟩
end
def RetN (W0 : World) (x : S5) (X M : Nat) (c : Int) (r : NT × Bool) (w : World) (e : Ending) (w' : World) : Prop :=
  e = .returned (.bool r.2) ∧ Hid (Kb [M] w w' ∧ CK W0 x X M (ntL r.1) c w')
set_option maxHeartbeats 8000000 in
theorem put_any (W0 : World) (x : S5) (X M : Nat) (t : NT) (c : Int) (n : ByteArray) (k i : Int) (w : World) (h : CK W0 x X M (ntL t) c w) (hn : n.size ≤ maxLen) (hl : t.length ≤ 100000) :
    Calls Try.prog 28 #[.pointer (some ⟨X, 0, none⟩), .string n, .int .i64 k, .int .i64 i] w (RetN W0 x X M c (putOne t n k i) w) := by
  obtain ⟨R, hR⟩ : ∃ R, R = putOne t n k i := ⟨_, rfl⟩
  rw [← hR]
  obtain ⟨Q, hQ⟩ : ∃ Q, Q = RetN W0 x X M c R w := ⟨_, rfl⟩
  rw [← hQ]
  have HQ := Lib.hid hQ
  have HR := Lib.hid hR
  have HC := Lib.hid h
  have g5 := h.box.cells 5 _ rfl
  have gl := h.box.lt
  obtain ⟨a, ha⟩ : ∃ a, a = kindN t n := ⟨_, rfl⟩
  obtain ⟨b, hb⟩ : ∃ a, a = isN t n := ⟨_, rfl⟩
  obtain ⟨ok, hok⟩ : ∃ a, a = (lookN t n).isSome := ⟨_, rfl⟩
  have hrun := h.look_ok hn
  rw [← ha, ← hb, ← hok] at hrun
  unfold whatV at hrun
  have HOK := Lib.hid hok
  have hX : Ext w (w.alloc (.cells #[.int .i64 a, .int .i64 b] 76)) := (Ext.refl w).alloc _
  have HX := Lib.hid hX
  obtain ⟨w2, hr2, hk2, hc2⟩ := (h.next hX).put hn hl k i
  have H2 := Lib.hid (And.intro hk2 hc2)
  have g5x := hX.cell g5
  clear hQ hR h ha hb hok hk2 hc2 hX hn hl
  cases ok with
  | true =>
    go_enter Try.func28, Try.ntmps28
    go_wp2
    rw [HQ.out, HR.out]
    unfold putOne
    rw [← HOK.out]
    exact ⟨rfl, Lib.hid ⟨Kb.of_ext HX.out, HC.out.next HX.out⟩⟩
  | false =>
    go_enter Try.func28, Try.ntmps28
    go_wp2
    rw [HQ.out, HR.out]
    unfold putOne
    rw [← HOK.out]
    exact ⟨rfl, Lib.hid ⟨(Kb.of_ext HX.out).trans H2.out.1, H2.out.2⟩⟩
end Go.Proofs.Ytkjgghbdpmkmoaa

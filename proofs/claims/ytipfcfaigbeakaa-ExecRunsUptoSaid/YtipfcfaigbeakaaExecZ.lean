/-
  The machine's cells told and set back, a row of outputs written over: what is left of both machines.
  Conditions: the machines' code is code.
-/
import Derived.Test.YtipfcfaigbeakaaJExecU
namespace Go.Proofs.Ytipfcfaigbeakaa
open Go.RowKit
set_option linter.unusedSimpArgs false
set_option linter.unusedVariables false
set_option maxRecDepth 100000

theorem CellsOk.short {c : CodeV} {cs : List Int} (h : CellsOk c cs) (hk : c.kinds.length ≤ 1000000) : cs.length ≤ 1000000 := by
  have h1 := h.1
  rw [List.length_take, List.length_drop] at h1
  omega
theorem mcells {g B : Nat} {c : CodeV} {cs : List Int} {S : List Nat} {w : World} (h : MI g B c cs S w) (hk : c.kinds.length ≤ 1000000) :
    Calls Try.prog 34 #[.pointer (some ⟨g, 0, none⟩)] w fun e w' => ∃ v, e = .returned v ∧ w'.ownsRow w.heap.size 3 1 v cs.length (i64s cs) ∧ Ext w w' := by
  obtain ⟨lv, kv, iv, bv, sv, tv, pc, ends, s, t, hm, -, -, -, hc⟩ := h
  exact cells_any g c lv kv iv bv sv tv pc ends cs w hm.box (SlC.of_owns hm.cells) (hc.short hk)
/-- What setting back leaves. -/
def ResetI (g B : Nat) (c : CodeV) (S : List Nat) (w : World) (e : Ending) (w' : World) : Prop :=
  ∃ S' : List Nat, e = .returned (.tuple #[]) ∧ MI g B c c.init S' w' ∧ Kb S w w' ∧ ∀ k ∈ S', k ∈ S ∨ w.heap.size ≤ k
theorem mreset {g B : Nat} {c : CodeV} {cs : List Int} {S : List Nat} {w : World} (h : MI g B c cs S w) (hi : CellsOk c c.init) (hk : c.kinds.length ≤ 1000000) :
    Calls Try.prog 35 #[.pointer (some ⟨g, 0, none⟩)] w (ResetI g B c S w) := by
  obtain ⟨lv, kv, iv, bv, sv, tv, pc, ends, s, t, hm, hg, hv, hS, hc⟩ := h
  refine (reset_any g c lv kv iv bv sv tv pc ends w hm.box (SlC.of_owns hm.init) (hi.short hk) (own_slice3 hm.cells)).mono ?_
  rintro e w' ⟨lv', rfl, hbx, hl, hkb⟩
  have hgl := hm.box.lt
  have low : ∀ {v : Value} {B n s : Nat} {e : TypeId} {cs : List Value}, w.ownsRow B e s v n cs → ∀ b, v.ownBlock = some b → b < w.heap.size := fun h b hb => (h.lt b hb).2
  have hng : ∀ v ∈ [kv, iv, bv, sv, tv], v.ownBlock ≠ some g := fun v hv' => hm.ng v (List.mem_cons.2 (.inr hv'))
  have hl0 : ∀ b, lv'.ownBlock = some b → w.heap.size ≤ b := fun b hb => (hl.lt b hb).1
  have one : ∀ {v : Value}, v.ownBlock ≠ some g → ∀ b ∈ [g], v.ownBlock ≠ some b := fun h b hb => by rw [List.mem_singleton.1 hb]; exact h
  have hlo : ∀ v ∈ [kv, iv, bv, sv, tv], ∀ b, v.ownBlock = some b → b < w.heap.size := by
    intro v hv' b hb
    simp only [List.mem_cons, List.not_mem_nil, or_false] at hv'
    rcases hv' with e | e | e | e | e <;> subst e
    · exact low hm.kinds b hb
    · exact low hm.init b hb
    · exact low hm.body b hb
    · exact low hm.slots b hb
    · exact low hm.stack b hb
  have hm' : MS g B c lv' kv iv bv sv tv pc ends c.init s t w' := by
    refine ⟨hbx, ownsRow_base hl hm.size, hkb.row hm.kinds (one (hng kv (by simp))), hkb.row hm.init (one (hng iv (by simp))), hkb.row hm.body (one (hng bv (by simp))), hkb.row hm.slots (one (hng sv (by simp))), hkb.row hm.stack (one (hng tv (by simp))), Nat.le_trans hm.size hkb.size, ?_, ?_, hm.ns, hm.nt⟩
    · intro v hv' e
      rcases List.mem_cons.1 hv' with e1 | e1
      · subst e1; have := hl0 g e; omega
      · exact hng v e1 e
    · intro v hv' b h1 h2
      have := hl0 b h1
      have := hlo v hv' b h2
      omega
  refine ⟨S ++ lv'.ownBlock.toList, rfl, ⟨lv', kv, iv, bv, sv, tv, pc, ends, s, t, hm', List.mem_append_left _ hg, ?_, ?_, hi⟩, hkb.mono (fun k hk => by rw [List.mem_singleton.1 hk]; exact hg), ?_⟩
  · intro v hv' b hb
    rcases List.mem_cons.1 hv' with e1 | e1
    · subst e1; exact List.mem_append_right _ (Option.mem_toList.2 hb)
    · exact List.mem_append_left _ (hv v (List.mem_cons.2 (.inr e1)) b hb)
  · intro k hk'
    rcases List.mem_append.1 hk' with e | e
    · exact ⟨(hS k e).1, Nat.lt_of_lt_of_le (hS k e).2 hkb.size⟩
    · have := hl.lt k (Option.mem_toList.1 e); exact ⟨Nat.le_trans hm.size this.1, this.2⟩
  · intro k hk'
    rcases List.mem_append.1 hk' with e | e
    · exact .inl e
    · exact .inr (hl.lt k (Option.mem_toList.1 e)).1
section
variable {W w w' : World} {c : CodeV} {kv iv bv : Value} {g1 B1 g3 : Nat} {cs1 cs3 : List Int} {S1 S3 : List Nat}
/-- Where the document's machine keeps its cells. -/
theorem Duo.rcells (h : Duo W c kv iv bv g1 B1 g3 cs1 cs3 S1 S3 w) : ∃ a cap, w.cell? ⟨g3, 7, none⟩ = some (.slice a cs3.length cap) ∧ SlC w (.slice a cs3.length cap) cs3.length (i64s cs3) := by
  obtain ⟨lv, hr, _⟩ := h.r
  obtain ⟨a, cap, rfl, h1⟩ := id hr.cells
  exact ⟨a, cap, hr.box.cells 7 _ rfl, hr.cells⟩
theorem Duo.reset (h : Duo W c kv iv bv g1 B1 g3 cs1 cs3 S1 S3 w) (hc : CodeIn W kv iv bv c) (hi : CellsOk c c.init) (hk : c.kinds.length ≤ 1000000) :
    Calls Try.prog 35 #[.pointer (some ⟨g1, 0, none⟩)] w fun e w' => ∃ S1', e = .returned (.tuple #[]) ∧ Duo W c kv iv bv g1 B1 g3 c.init cs3 S1' S3 w' := by
  refine (mreset h.m hi hk).mono ?_
  rintro e w5 ⟨S1', rfl, hm, hkb, hS'⟩
  have hx := hkb.ext h.ext (fun k hk1 => Nat.le_trans h.b1 (h.m.lt k hk1).1)
  refine ⟨S1', rfl, ⟨hm, h.r.kb hkb (fun k h3 h1 => h.d13 k h1 h3) (hc.ext hx), h.b1, h.b3, fun k hk1 hk3 => ?_, hx⟩⟩
  rcases hS' k hk1 with e | e
  · exact h.d13 k e hk3
  · have := h.r.lt.2 k hk3; omega
/-- Both machines, and a row that is neither's. -/
structure DuoR (W : World) (c : CodeV) (kv iv bv : Value) (g1 B1 g3 : Nat) (cs1 cs3 : List Int) (S1 S3 : List Nat) (v : Value) (n : Nat) (w : World) : Prop where
  duo : Duo W c kv iv bv g1 B1 g3 cs1 cs3 S1 S3 w
  row : ∃ xs, w.ownsRow W.heap.size 3 1 v n xs
  off : ∀ b, v.ownBlock = some b → b ∉ S1 ∧ b ∉ S3
theorem DuoR.num {b n cap : Nat} (h : DuoR W c kv iv bv g1 B1 g3 cs1 cs3 S1 S3 (.slice (some ⟨b, 0, none⟩) n cap) n w) (hc : CodeIn W kv iv bv c) (j : Nat) (hj : j < n) (x : Value) : DuoR W c kv iv bv g1 B1 g3 cs1 cs3 S1 S3 (.slice (some ⟨b, 0, none⟩) n cap) n (w.setCell ⟨b, j, none⟩ x) := by
  obtain ⟨xs, hp⟩ := h.row
  have hlt := hp.lt b rfl
  have ho := h.off b rfl
  exact ⟨h.duo.kb hc (show Kb [b] w _ from Kb.set w b j (by simp) x) (fun k hk => by rw [List.mem_singleton.1 hk]; exact ⟨hlt.1, ho.1, ho.2⟩), ⟨_, own_set1 hp j hj x⟩, h.off⟩
end
end Go.Proofs.Ytipfcfaigbeakaa

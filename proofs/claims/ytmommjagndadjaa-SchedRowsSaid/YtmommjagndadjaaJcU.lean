/-
  The law on what can be wrong with flat programs: plain; how the example lies in memory when some of it is turned.
  No condition.
  The law on what can be wrong with flat programs: its walk, some of its cases.
  No condition.
-/
import Derived.Test.YtmommjagndadjaaJcN
import Derived.Test.YtmommjagndadjaaJcA
import Derived.ArgAppend
import Derived.Deep.RegionLawGrows
namespace Go.Proofs.Ytmommjagndadjaa
open Go.RowKit Go.Maps
set_option linter.unusedSimpArgs false
set_option linter.unusedVariables false
set_option maxRecDepth 100000

/-! ### Plain -/
abbrev nZ : ByteArray := ⟨#[122]⟩
abbrev nQ : ByteArray := ⟨#[113]⟩
abbrev sm0 : EQ := defE nY smEC
abbrev sm1 : EQ := memE nM 0 nY nR
abbrev wrE : CE := .mk 9 0 0 1 nR [exV nX]
abbrev wrG : CE := .mk 10 0 0 0 nR [wrE, .mk 1 0 2 5 eB []]
abbrev wrC (l : List EQ) : CP := { smallC with eqs := l }
abbrev wrO (v : VR) : CP := { smallC with outs := [v] }
abbrev wrL (l : List VR) : CP := { smallC with locals := l }
def wrongC : Nat → CP
  | 0 => smallC
  | 1 => wrL [⟨nM, 2, []⟩, ⟨nX, 2, []⟩]
  | 2 => wrC [sm0, sm1, sm0]
  | 3 => wrL [⟨nM, 10, []⟩]
  | 4 => wrC [defE nX smEC, sm1]
  | 5 => wrC [sm1]
  | 6 => wrC [⟨4, nY, smEC, 0, eB, eB, 0, 0⟩, sm1]
  | 7 => wrC [sm0, memE nM 200 nY nR]
  | 8 => wrC [defE nY (.mk 4 3 0 0 eB [exV nM]), sm1]
  | 9 => wrC [defE nY (.mk 4 14 0 0 eB [exV nM, exV nX]), sm1]
  | 10 => wrC [sm0, memE nM 0 nY nX]
  | 11 => wrC [sm0, memE nM 0 nR nR]
  | 12 => wrO ⟨nY, 2, [(nR, true)]⟩
  | 13 => wrL [⟨nM, 2, [(nR, true)]⟩]
  | 14 => wrC [defE nY wrE, sm1]
  | 15 => wrC [defE nY (exV nY), sm1]
  | 16 => { smallC with locals := [⟨nM, 2, []⟩, ⟨nZ, 2, []⟩], eqs := [defE nY (exV nZ), sm1, defE nZ (exV nY)] }
  | 17 => wrC [sm0, memE nM 0 nQ nR]
  | 18 => wrC [sm0, ⟨3, nM, exZ, 0, eB, eB, 0, 0⟩]
  | 19 => wrC [defE nY wrG, sm1]
  | 20 => wrC [sm0, ⟨3, nM, exZ, 0, eB, eB, 2, 0⟩]
  | _ => wrL [⟨nM, 2, [(nQ, true)]⟩]
def wantC : Nat → Int
  | 0 => 0 | 1 => 20 | 2 => 20 | 3 => 22 | 4 => 21 | 5 => 24 | 6 => 40 | 7 => 40 | 8 => 40 | 9 => 22 | 10 => 22 | 11 => 22 | 12 => 27 | 13 => 27 | 14 => 27 | 15 => 29 | 16 => 29 | 17 => 21 | 18 => 40 | 19 => 0 | 20 => 22 | _ => 21
theorem chk_wrongC : ∀ k : Fin 22, chkC (wrongC k.val) = wantC k.val := by decide +kernel
theorem ok_wrongB : ∀ k : Fin 22, okCb (wrongC k.val) = true := by decide +kernel
theorem sm_wrongB : ∀ k : Fin 22, smCb (wrongC k.val) = true := by decide +kernel
/-- What is asked of the checker at case k, and what it answers. -/
def AskC (k : Nat) (x : Int) : Prop := ∀ (w' : World) (y : S4), CPIn w' (wrongC k) y → Calls Try.prog 20 #[.agg #[y.iv, y.ov, y.lv, y.ev]] w' fun e w1 => e = .returned (.int .i64 x) ∧ Hid (Ext w' w1)
theorem ask_allC (k : Fin 22) : AskC k.val (wantC k.val) := fun w' y h => by
  have := ccheck_any (wrongC k.val) y w' h (okC_b (ok_wrongB k)) (smC_b (sm_wrongB k))
  rw [chk_wrongC k] at this
  exact this
abbrev wantA : Array Value := #[.int .i64 0, .int .i64 20, .int .i64 20, .int .i64 22, .int .i64 21, .int .i64 24, .int .i64 40, .int .i64 40, .int .i64 40, .int .i64 22, .int .i64 22, .int .i64 22, .int .i64 27, .int .i64 27, .int .i64 27, .int .i64 29, .int .i64 29, .int .i64 21, .int .i64 40, .int .i64 0, .int .i64 22, .int .i64 21]
theorem wantA_at : ∀ k : Fin 22, wantA[k.val]? = some (.int .i64 (wantC k.val)) := fun ⟨k, hk⟩ => by
  match k, hk with
  | 0, _ => rfl | 1, _ => rfl | 2, _ => rfl | 3, _ => rfl | 4, _ => rfl | 5, _ => rfl | 6, _ => rfl | 7, _ => rfl | 8, _ => rfl | 9, _ => rfl | 10, _ => rfl
  | 11, _ => rfl | 12, _ => rfl | 13, _ => rfl | 14, _ => rfl | 15, _ => rfl | 16, _ => rfl | 17, _ => rfl | 18, _ => rfl | 19, _ => rfl | 20, _ => rfl | 21, _ => rfl
  | k + 22, h => exact absurd h (by omega)
theorem want_at (w : World) (t : TypeId) (T : Nat) (h : w.heap[T]? = some (.cells wantA t (0, 0))) (k : Fin 22) : w.cell? ⟨T, k.val, none⟩ = some (.int .i64 (wantC k.val)) := by
  rw [cell_of_row w T k.val _ t (0, 0) h]
  exact wantA_at k
/-! ### In memory -/
abbrev smOs : Array Value := #[.string nY, .int .i64 2, NLc]
abbrev smLs : Array Value := #[.string nM, .int .i64 2, NLc]
structure LikeD (g : Nat) (os ls qs : Array Value) (w : World) : Prop where
  ins : w.heap[g]? = some (.cells #[.string nX, .int .i64 2, NLc, .string nR, .int .i64 1, NLc] 30 (0, 0))
  outs : w.heap[g + 1]? = some (.cells os 30 (0, 0))
  locals : w.heap[g + 2]? = some (.cells ls 30 (0, 0))
  kids : w.heap[g + 5]? = some (.cells #[.int .i64 2, .int .i64 0, .int .i64 0, .int .i64 0, .string nM, NLc, .int .i64 2, .int .i64 0, .int .i64 0, .int .i64 0, .string nX, NLc] 33 (0, 0))
  eqs : w.heap[g + 6]? = some (.cells qs 35 (0, 0))
section
variable {g : Nat} {os ls qs : Array Value} {w w' : World}
theorem LikeC.d (h : LikeC g qs w) : LikeD g smOs smLs qs w := ⟨h.ins, h.outs, h.locals, h.kids, h.eqs⟩
theorem LikeD.ext (h : LikeD g os ls qs w) (hx : Ext w w') : LikeD g os ls qs w' := ⟨ext_block hx h.ins, ext_block hx h.outs, ext_block hx h.locals, ext_block hx h.kids, ext_block hx h.eqs⟩
theorem LikeD.kb {S : List Nat} (h : LikeD g os ls qs w) (hk : Kb S w w') (hS : ∀ k ∈ S, g + 6 < k) : LikeD g os ls qs w' :=
  ⟨hk.heap (fun hm => by have := hS _ hm; omega) h.ins, hk.heap (fun hm => by have := hS _ hm; omega) h.outs, hk.heap (fun hm => by have := hS _ hm; omega) h.locals, hk.heap (fun hm => by have := hS _ hm; omega) h.kids, hk.heap (fun hm => by have := hS _ hm; omega) h.eqs⟩
theorem LikeD.oset (h : LikeD g os ls qs w) (j : Nat) (u : Value) : LikeD g (os.setIfInBounds j u) ls qs (w.setCell ⟨g + 1, j, none⟩ u) :=
  ⟨(heap_setCell_other _ _ _ _ (by simp)).trans h.ins, heap_setCell_same _ _ _ _ _ _ h.outs, (heap_setCell_other _ _ _ _ (by simp)).trans h.locals, (heap_setCell_other _ _ _ _ (by simp)).trans h.kids, (heap_setCell_other _ _ _ _ (by simp)).trans h.eqs⟩
theorem LikeD.lset (h : LikeD g os ls qs w) (j : Nat) (u : Value) : LikeD g os (ls.setIfInBounds j u) qs (w.setCell ⟨g + 2, j, none⟩ u) :=
  ⟨(heap_setCell_other _ _ _ _ (by simp)).trans h.ins, (heap_setCell_other _ _ _ _ (by simp)).trans h.outs, heap_setCell_same _ _ _ _ _ _ h.locals, (heap_setCell_other _ _ _ _ (by simp)).trans h.kids, (heap_setCell_other _ _ _ _ (by simp)).trans h.eqs⟩
theorem LikeD.qset (h : LikeD g os ls qs w) (j : Nat) (u : Value) : LikeD g os ls (qs.setIfInBounds j u) (w.setCell ⟨g + 6, j, none⟩ u) :=
  ⟨(heap_setCell_other _ _ _ _ (by simp)).trans h.ins, (heap_setCell_other _ _ _ _ (by simp)).trans h.outs, (heap_setCell_other _ _ _ _ (by simp)).trans h.locals, (heap_setCell_other _ _ _ _ (by simp)).trans h.kids, heap_setCell_same _ _ _ _ _ _ h.eqs⟩
theorem LikeD.cast {os' ls' qs' : Array Value} (h : LikeD g os ls qs w) (e1 : os = os') (e2 : ls = ls') (e3 : qs = qs') : LikeD g os' ls' qs' w := by subst e1 e2 e3; exact h
theorem LikeD.kin (h : LikeD g os ls qs w) (s : Int) : KIn w (.mk 4 s 0 0 eB [exV nM, exV nX]) (.slice (some ⟨g + 5, 0, none⟩) 2 2) := by
  refine KIn.of (kvs := [NLc, NLc]) ?_ (KsIn.consc (KIn.none _ _ _ _ _ _) (KsIn.consc (KIn.none _ _ _ _ _ _) (KsIn.nilc _)))
  exact SlC.blk h.kids 2 2 _ (by decide) (by decide) rfl
theorem LikeD.kin1 (h : LikeD g os ls qs w) : KIn w (.mk 4 3 0 0 eB [exV nM]) (.slice (some ⟨g + 5, 0, none⟩) 1 2) := by
  refine KIn.of (kvs := [NLc]) ?_ (KsIn.consc (KIn.none _ _ _ _ _ _) (KsIn.nilc _))
  refine ⟨_, 2, rfl, by decide, by decide, fun j u hu => ⟨g + 5, 0, rfl, ?_⟩⟩
  rw [Nat.zero_add, cell_of_row w (g + 5) j _ _ (0, 0) h.kids]
  have hj : j < 6 := (List.getElem?_eq_some_iff.1 hu).1
  rcases j with _ | _ | _ | _ | _ | _ | j
  all_goals first | exact hu | omega
theorem LikeD.insv (h : LikeD g os ls qs w) : VRIn w (.slice (some ⟨g, 0, none⟩) 2 2) smallC.ins := VRIn.blk (l := smallC.ins) h.ins (by decide) (by simp) rfl
theorem LikeD.outsv (h : LikeD g smOs ls qs w) : VRIn w (.slice (some ⟨g + 1, 0, none⟩) 1 1) smallC.outs := VRIn.blk (l := smallC.outs) h.outs (by decide) (by simp) rfl
theorem LikeD.localsv (h : LikeD g os smLs qs w) : VRIn w (.slice (some ⟨g + 2, 0, none⟩) 1 1) smallC.locals := VRIn.blk (l := smallC.locals) h.locals (by decide) (by simp) rfl
/-- Two equations in the example's block. -/
theorem LikeD.two (h : LikeD g os ls qs w) {q0 q1 : EQ} {v0 v1 : Value} (h0 : KIn w q0.e v0) (h1 : KIn w q1.e v1) (hq : qs.toList = qCells [q0, q1] [v0, v1]) : QIn w (.slice (some ⟨g + 6, 0, none⟩) 2 2) [q0, q1] :=
  QIn.blk (l := [q0, q1]) [v0, v1] h.eqs (show 2 ≤ maxLen by decide) rfl (fun i q kv e1 e2 => by
    rcases i with _ | _ | i
    · simp at e1 e2; subst e1 e2; exact h0
    · simp at e1 e2; subst e1 e2; exact h1
    · simp at e1) hq
/-- The example, its equations turned. -/
theorem LikeD.cp (h : LikeD g smOs smLs qs w) {q0 q1 : EQ} {v0 v1 : Value} (h0 : KIn w q0.e v0) (h1 : KIn w q1.e v1) (hq : qs.toList = qCells [q0, q1] [v0, v1]) : CPIn w (wrC [q0, q1]) (smX4 g) :=
  ⟨h.insv, h.outsv, h.localsv, h.two h0 h1 hq⟩
theorem LikeD.eqsv (h : LikeD g os ls (smQs g) w) : QIn w (.slice (some ⟨g + 6, 0, none⟩) 2 2) smallC.eqs := h.two (h.kin 3) (KIn.none _ _ _ _ _ _) rfl
/-- One variable in a block, its clock as it lies. -/
theorem VRIn.oneC {x : Nat} {n : ByteArray} {k : Int} {v : Value} {c : CK0} {t : TypeId} {fr : Nat × Nat} (h : w.heap[x]? = some (.cells #[.string n, .int .i64 k, v] t fr)) (hv : EdIn w v c) : VRIn w (.slice (some ⟨x, 0, none⟩) 1 1) [⟨n, k, c⟩] :=
  ⟨[v], rfl, SlC.blk h 1 1 _ (by decide) (by decide) rfl, fun i y q h1 h2 => by
    rcases i with _ | i
    · simp at h1 h2; subst h1 h2; exact hv
    · simp at h1⟩
theorem edIn_one {x : Nat} {n : ByteArray} {b : Bool} {t : TypeId} {fr : Nat × Nat} (h : w.heap[x]? = some (.cells #[.string n, .bool b] t fr)) : EdIn w (.slice (some ⟨x, 0, none⟩) 1 1) [(n, b)] := SlC.blk h 1 1 _ (by decide) (by decide) rfl
/-- One kid that is a name. -/
theorem kin_when {x : Nat} {n : ByteArray} {t : TypeId} {fr : Nat × Nat} (f s k m : Int) (nm : ByteArray) (h : w.heap[x]? = some (.cells #[.int .i64 2, .int .i64 0, .int .i64 0, .int .i64 0, .string n, NLc] t fr)) : KIn w (.mk f s k m nm [exV n]) (.slice (some ⟨x, 0, none⟩) 1 1) :=
  KIn.of (kvs := [NLc]) (SlC.blk h 1 1 _ (by decide) (by decide) rfl) (KsIn.consc (KIn.none _ _ _ _ _ _) (KsIn.nilc _))
end
set_option maxHeartbeats 4000000 in
theorem wrongC_out (k : Int) (hk : I64 k) (hbad : k < 0 ∨ 22 ≤ k) (w : World) : Calls Try.prog 6 #[.int .i64 k] w fun e w' => e = .returned (.bool true) ∧ Hid (Ext w w') := by
  obtain ⟨Q, hQ⟩ : ∃ Q, Q = fun e w' => e = Ending.returned (.bool true) ∧ Hid (Ext w w') := ⟨_, rfl⟩
  rw [← hQ]
  have HQ := Lib.hid hQ
  unfold I64 at hk
  clear hQ
  rcases hbad with hb | hb
  · go_enter Try.func6, Try.ntmps6
    go_wp2_with (first | (go_at_call 14; refine (alive13_any _).mono ?_; rintro e w1 ⟨rfl, H1⟩) | fail)
    rw [HQ.out]
    exact ⟨rfl, Lib.hid (H1.out.alloc _)⟩
  · have hb2 : ¬ k < 0 := by omega
    go_enter Try.func6, Try.ntmps6
    go_wp2_with (first | (go_at_call 14; refine (alive13_any _).mono ?_; rintro e w1 ⟨rfl, H1⟩) | fail)
    rw [HQ.out]
    exact ⟨rfl, Lib.hid (H1.out.alloc _)⟩
end Go.Proofs.Ytmommjagndadjaa
namespace Go.Proofs.Ytmommjagndadjaa
open Go.RowKit Go.Maps
set_option linter.unusedSimpArgs false
set_option linter.unusedVariables false
set_option maxRecDepth 100000

theorem hold_blk {w : World} {g : Nat} {arr : Array Value} {e : TypeId} {fr : Nat × Nat} (h : w.heap[g]? = some (.cells arr e fr)) : ∀ b, some (⟨g, 0, none⟩ : Addr) = some b → ∀ j u, arr.toList[j]? = some u → w.cell? (b.add j) = some u := by
  rintro b hb j u hu
  cases hb
  rw [show (⟨g, 0, none⟩ : Addr).add j = ⟨g, j, none⟩ by (have h0 : (⟨g, 0, none⟩ : Addr).add j = ⟨g, 0 + j, none⟩ := by (simp [Addr.add]; omega)); rw [h0, Nat.zero_add]]
  rw [cell_of_row w g j _ _ _ h]
  simpa using hu
theorem ext_grown {w w' : World} (h : w.grownBy w' none) : Ext w w' := (Kb.grown (S := []) h (fun g hg => by cases hg)).ext (Ext.refl w) (fun k hk => by cases hk)
abbrev zQc : Value := .agg #[.int .i64 0, .string eB, .int .i64 0, .int .i64 0, .int .i64 0, .int .i64 0, .string eB, NLc, .int .i64 0, .string eB, .string eB, .int .i64 0, .int .i64 0]
theorem infoEq : (Try.prog.info? 35).map (fun i => (i.zero, i.size, i.bytes)) = some (some zQc, 13, 152) := by kernel_rfl
theorem two_vars {w : World} {v : Value} {n m : ByteArray} {k k2 : Int} (h : SlC w v 2 [.string n, .int .i64 k, NLc, .string m, .int .i64 k2, NLc]) : VRIn w v [⟨n, k, []⟩, ⟨m, k2, []⟩] :=
  ⟨[NLc, NLc], rfl, h, fun i y q h1 h2 => by
    rcases i with _ | _ | i
    · simp at h1 h2; subst h1 h2; exact EdIn.nil w
    · simp at h1 h2; subst h1 h2; exact EdIn.nil w
    · simp at h1⟩
theorem three_eqs {w : World} {v v0 v1 v2 : Value} {q0 q1 q2 : EQ} (h0 : KIn w q0.e v0) (h1 : KIn w q1.e v1) (h2 : KIn w q2.e v2) (h : SlC w v 3 (qCells [q0, q1, q2] [v0, v1, v2])) : QIn w v [q0, q1, q2] :=
  ⟨[v0, v1, v2], rfl, fun i q kv e1 e2 => by
    rcases i with _ | _ | _ | i
    · simp at e1 e2; subst e1 e2; exact h0
    · simp at e1 e2; subst e1 e2; exact h1
    · simp at e1 e2; subst e1 e2; exact h2
    · simp at e1, h⟩
set_option maxHeartbeats 8000000 in
theorem wrongC_1 (w : World) : Calls Try.prog 6 #[.int .i64 ((1 : Nat) : Int)] w fun e w' => e = .returned (.bool true) ∧ Hid (Ext w w') := by
  obtain ⟨Q, hQ⟩ : ∃ Q, Q = fun e w' => e = Ending.returned (.bool true) ∧ Hid (Ext w w') := ⟨_, rfl⟩
  rw [← hQ]
  have HQ := Lib.hid hQ
  obtain ⟨x, hx⟩ : ∃ x, x = wantC 1 := ⟨_, rfl⟩
  have HA : Hid (AskC 1 x) := Lib.hid (by rw [hx]; exact ask_allC ⟨1, by omega⟩)
  have HX := Lib.hid hx
  clear hQ hx
  go_enter Try.func6, Try.ntmps6
  go_upto_region 7 with (first | (go_at_call 14; refine (alive13_any _).mono ?_; rintro e w1 ⟨rfl, H1⟩) | (go_at_call 18; refine (smallC_any _).mono ?_; rintro e w2 ⟨g, rfl, H2⟩) | (go_at_call 19; refine (var13_any _ _).mono ?_; rintro e w3 ⟨rfl, rfl⟩) | fail)
  obtain ⟨wa, hwa⟩ : ∃ z, z = w2.alloc (.cells (smCA g) 26) := ⟨_, rfl⟩
  have hea : Ext w wa := by rw [hwa]; exact ((H1.out.alloc _).trans H2.out.1).alloc _
  have hba : BoxV w2.heap.size (smCA g).toList wa := by rw [hwa]; exact BoxV.of_row (heap_alloc_last w2 _)
  have hla : LikeD g smOs smLs (smQs g) wa := by rw [hwa]; exact (H2.out.2.2.ext ((Ext.refl w2).alloc _)).d
  have hsa : wa.heap.size = w2.heap.size + 1 := by rw [hwa]; simp
  have hta : wa.cell? ⟨w1.heap.size, 1, none⟩ = some (.int .i64 x) := by
    rw [HX.out, hwa]
    exact (H2.out.1.alloc _).cell (want_at _ _ _ (heap_alloc_last w1 _) ⟨1, by omega⟩)
  rw [← hwa]
  have hgX : g + 6 < w2.heap.size := (Array.getElem?_eq_some_iff.1 H2.out.2.2.eqs).1
  have hTg : w1.heap.size < g := by
    have := H2.out.2.1
    simp at this
    omega
  have hwT := H1.out.size
  generalize w2.heap.size = X at hba hsa hgX ⊢
  generalize w1.heap.size = T at hta hTg hwT ⊢
  obtain ⟨wb, hwb⟩ : ∃ z, z = (wa.alloc (.cells #[.int .i64 2, .int .i64 0, .int .i64 0, .int .i64 0, .string nX, NLc] 33)).alloc (.cells #[.int .i64 2, .int .i64 0, .int .i64 0, .int .i64 0, .string nX, .slice none 0 0] 33) := ⟨_, rfl⟩
  have hxab : Ext wa wb := by rw [hwb]; exact ((Ext.refl wa).alloc _).alloc _
  have hby : BoxV (X + 1 + 1) [.int .i64 2, .int .i64 0, .int .i64 0, .int .i64 0, .string nX, NLc] wb := by
    rw [hwb]
    refine BoxV.of_row (e := 33) (cs := #[.int .i64 2, .int .i64 0, .int .i64 0, .int .i64 0, .string nX, NLc]) ?_
    exact heap_alloc_at _ _ _ (by simp [hsa])
  rw [← hwb]
  have HE : Hid (Ext w wb) := Lib.hid (hea.trans hxab)
  have hbx := hba.ext hxab
  have hlk := hla.ext hxab
  have htab := hxab.cell hta
  have HW : Hid (∀ k ∈ [X, g + 1, g + 2, g + 6], w.heap.size ≤ k ∧ T ≠ k) := Lib.hid (fun k hk => by
    simp only [List.mem_cons, List.not_mem_nil, or_false] at hk
    rcases hk with rfl | rfl | rfl | rfl <;> omega)
  have HLK := Lib.hid hlk
  have HBX := Lib.hid hbx
  have HBY := Lib.hid hby
  have HT := Lib.hid htab
  have x0 := hbx.cells 0 _ rfl
  have x1 := hbx.cells 1 _ rfl
  have x2 := hbx.cells 2 _ rfl
  have x3 := hbx.cells 3 _ rfl
  have xl := hbx.lt
  have xf := hbx.fz

  have n1 : ¬ (X = g + 6) := by omega
  have n2 : ¬ (g + 6 = X) := by omega
  have n3 : ¬ (X = g + 2) := by omega
  have n4 : ¬ (g + 2 = X) := by omega
  have n5 : ¬ (X = g + 1) := by omega
  have n6 : ¬ (g + 1 = X) := by omega
  clear hwa hea hba hla hsa hta hwb hxab hby hlk hbx htab H1 H2 hwT
  obtain ⟨i0, h0, hz⟩ := Option.map_eq_some_iff.1 infoVar
  simp only [Prod.mk.injEq] at hz
  obtain ⟨hz0, hz1, hz2⟩ := hz
  have hnew := hold_blk (heap_alloc_last wb (.cells #[.string nX, .int .i64 2, NLc] 30)) _ rfl
  have hhold := hold_blk (ext_block ((Ext.refl wb).alloc (.cells #[.string nX, .int .i64 2, NLc] 30)) HLK.out.locals)
  have hone : ∀ u ∈ [Value.string nX, .int .i64 2, NLc], u.oneCell' = true := by simp [Value.oneCell']
  have H00 := Lib.hid (And.intro h0 (And.intro hz0 (And.intro hz1 hz2)))
  have HNW := Lib.hid (And.intro hnew (And.intro hhold hone))
  clear h0 hz0 hz1 hz2 hnew hhold hone
  go_upto_region 10 with (first | (at_builtin; (refine wpList_append_grows _ rfl (.tmp 29) (.tmp 31) 23 rfl 30 i0 zV 3 48 Try.underlying23 H00.out.1 H00.out.2.1 H00.out.2.2.1 H00.out.2.2.2 rfl (by decide) (some ⟨g + 2, 0, none⟩) 1 1 smLs.toList rfl (fun h => by cases h) rfl HNW.out.2.1 ⟨wb.heap.size, 0, none⟩ 1 1 [.string nX, .int .i64 2, NLc] rfl rfl HNW.out.1 HNW.out.2.2 (by decide) (by decide) (by decide) ?_; intro v' w6 ho hg; obtain ⟨x9, y9, z9, rfl⟩ := own_slice3 ho; obtain rfl : y9 = 2 := (by obtain ⟨a', c', e, -⟩ := SlC.of_owns ho; simp at e; exact e.2.1); have HP := Lib.hid (And.intro ho (((Ext.refl wb).alloc _).trans (ext_grown hg))); have b6 := HBX.out.ext HP.out.2; have y0 := b6.cells 0 _ rfl; have y1 := b6.cells 1 _ rfl; have y2 := b6.cells 2 _ rfl; have y3 := b6.cells 3 _ rfl; have yl := b6.lt; have yf := b6.fz; clear ho hg b6)) | fail)
  have hks : Kb [X] w6 (w6.setCell ⟨X, 2, none⟩ (.slice x9 2 z9)) := Kb.set _ _ _ (by simp) _
  have hrow := hks.row HP.out.1 (fun q hq e => by
    simp at hq
    subst hq
    have := (HP.out.1.lt q e).1
    simp at this
    omega)
  have hl6 := (HLK.out.ext HP.out.2).kb hks (by simp; omega)
  have hkb : Kb [X, g + 1, g + 2, g + 6] wb (w6.setCell ⟨X, 2, none⟩ (.slice x9 2 z9)) := (Kb.of_ext HP.out.2).trans (hks.mono (by simp))
  have HKB := Lib.hid hkb
  have HS6 : Hid (CPIn (w6.setCell ⟨X, 2, none⟩ (.slice x9 2 z9)) (wrongC 1) ⟨.slice (some ⟨g, 0, none⟩) 2 2, .slice (some ⟨g + 1, 0, none⟩) 1 1, .slice x9 2 z9, .slice (some ⟨g + 6, 0, none⟩) 2 2⟩) := Lib.hid ⟨hl6.insv, hl6.outsv, two_vars (SlC.of_owns hrow), hl6.eqsv⟩
  clear hkb hrow hl6 hks x0 x1 x2 x3 xl xf
  go_upto_region 53 with (first | (go_at_call 20; refine (HA.out _ ⟨.slice (some ⟨g, 0, none⟩) 2 2, .slice (some ⟨g + 1, 0, none⟩) 1 1, .slice x9 2 z9, .slice (some ⟨g + 6, 0, none⟩) 2 2⟩ (HS6.out)).mono ?_; rintro e3 w3 ⟨rfl, H3⟩) | fail)
  have hfin : Ext w w3 := (HKB.out.ext HE.out (fun k hk => (HW.out k hk).1)).trans H3.out
  have t3 := H3.out.cell (HKB.out.cell (S := [X, g + 1, g + 2, g + 6]) (fun hm => (HW.out T hm).2 rfl) HT.out)
  have tl := World.block_lt_of_cell? _ _ t3
  clear y0 y1 y2 y3 yl yf HKB H3 HA HLK HBX HBY HE HW
  go_wp2_with (first | (refine region_drew (by kernel_rfl) (by kernel_rfl) ?_; (repeat (go_big_quiet_step (exact in_drew (num13_any _ _)))); refine wpQuiet_nil ?_; rintro _ ⟨nq, rfl⟩) | fail)
  rw [HQ.out]
  exact ⟨rfl, Lib.hid (by repeat first | exact Ext.refl _ | assumption | refine Ext.drew ?_ | refine Ext.drewN ?_ _ | refine Ext.extBy ?_ _ | refine Ext.alloc ?_ _ | refine Ext.setCell ?_ (by simp; try omega) _ | (refine Ext.trans ?_ (by assumption)))⟩
end Go.Proofs.Ytmommjagndadjaa
